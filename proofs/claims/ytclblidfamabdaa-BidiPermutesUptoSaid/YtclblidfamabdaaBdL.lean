/- The last rule: the base's level for what stands at the rim. -/
import Derived.Test.YtclblidfamabdaaBdZ
set_option linter.unusedVariables false
set_option linter.unusedSimpArgs false
namespace Go.Proofs.Ytclblidfamabdaa
open Go.RowKit Go.Shelf Go.Lib Go.BigFrame
attribute [local go_sem] Oper.semAt_some

def lstI (base : Nat) (c : Nat → Nat) (N : Nat) (lv : Nat → Int) (k : Nat) : Int := if c k = 1 ∨ c k = 2 then (base : Int) else if (c k = 3 ∨ B.isIso (c k) = true) ∧ B.rimF c N (N - 1 - k) = true then (base : Int) else lv k
def lstP (base : Nat) (c : Nat → Nat) (N : Nat) (lv : Nat → Int) (k j : Nat) : Int := if k ≤ j then lstI base c N lv j else lv j
theorem lstP_step (base : Nat) (c : Nat → Nat) (N : Nat) (lv : Nat → Int) (m : Nat) : ∀ j, upd (lstP base c N lv (m + 1)) m (lstI base c N lv m) j = lstP base c N lv m j := by
  intro j
  by_cases h : j = m
  · subst h; rw [upd_at]; unfold lstP; rw [if_pos (Nat.le_refl _)]
  · rw [upd_ne _ _ h]; unfold lstP
    by_cases h1 : m + 1 ≤ j
    · rw [if_pos h1, if_pos (by omega)]
    · rw [if_neg h1, if_neg (by omega)]
theorem lstP_keep (base : Nat) (c : Nat → Nat) (N : Nat) (lv : Nat → Int) (m : Nat) (h : lstI base c N lv m = lv m) : ∀ j, lstP base c N lv (m + 1) j = lstP base c N lv m j := by
  intro j
  unfold lstP
  by_cases h1 : m + 1 ≤ j
  · rw [if_pos h1, if_pos (by omega)]
  · rw [if_neg h1]
    by_cases h2 : m = j
    · subst h2; rw [if_pos (Nat.le_refl _), h]
    · rw [if_neg (by omega)]

theorem Rd.fr0 {S : Nat → Prop} {w w' : World} {v : Value} {c : Nat → Int} {n : Nat} (h : Rd w v c n) (hf : Fr S w w') (hS : 0 < n → ∀ q, v.ownBlock = some q → q < w.heap.size → S q) : Rd w' v c n := by
  rcases Nat.eq_zero_or_pos n with h0 | h0
  · obtain ⟨A, cap, rfl, hle, _⟩ := h
    exact ⟨A, cap, rfl, hle, fun hn => absurd hn (by omega)⟩
  · exact h.fr hf (hS h0)
set_option maxRecDepth 1000000 in
set_option maxHeartbeats 4000000 in
theorem last_any (N : Nat) (c ch cl : Nat → Nat) (hN : N ≤ 4194304) (xb gl : Nat) (fv cv clv : Value) (base : Nat) (W : World) (lv : Nat → Int) (hX : Px W xb N gl fv cv clv ch cl) (hR : Rd W fv (fun j => (c j : Int)) N) (hne : 0 < N → fv.ownBlock ≠ some gl) (hc : ∀ j, 1 ≤ c j ∧ c j ≤ 17) (hL : Rw W gl lv N) :
    Calls Try.prog 36 #[.pointer (some ⟨xb, 0, none⟩), .int .i64 (base : Int)] W fun en w' => (∃ v, en = .returned v) ∧ Fr (fun k => k ≠ gl) W w' ∧ Rw w' gl (lstI base c N lv) N := by
  have HC := Lib.hid hc
  have KG : Hid (∀ wx, Fr (fun k => k ≠ gl) W wx → Px wx xb N gl fv cv clv ch cl ∧ Rd wx fv (fun j => (c j : Int)) N) := Lib.hid (fun wx h => ⟨hX.fr h, hR.fr0 h (fun h0 q e _ e2 => hne h0 (by rw [e, e2]))⟩)
  obtain ⟨x0, x1, x2, x3⟩ := hX.cells
  have hR' := hR
  obtain ⟨FA, fc, rfl, hfc, hfl⟩ := hR'
  have HFA : Hid (0 < N → ∃ fg fo, FA = some ⟨fg, fo, none⟩) := Lib.hid (fun h => by obtain ⟨g, o, h, _⟩ := hfl h; exact ⟨g, o, h⟩)
  have HL := Lib.hid hL
  clear hc hX hR hL hfl x1 x2 hne
  go_enter Try.func36, Try.ntmps36
  go_wp2
  go_loopw [4, 5] (fun bv iv wx => ∃ (k : Nat) (b : Bool), bv = .bool b ∧ iv = .int .i64 ((k : Int) - 1) ∧ k ≤ N ∧ b = B.rimF c N (N - k) ∧ Fr (fun k => k ≠ gl) W wx ∧ Rw wx gl (lstP base c N lv k) N) (fun _ iv _ => (intOf iv + 1).toNat)
  case atStart => exact ⟨N, true, rfl, by go_num, Nat.le_refl _, by rw [Nat.sub_self]; rfl, Fr.refl _ _, HL.out.congr (fun j hj => by unfold lstP; rw [if_neg (by omega)])⟩
  case round =>
    obtain ⟨k, b, rfl, rfl, hk, hb, hF, hRw⟩ := hrel
    obtain ⟨k1, k2⟩ := KG.out _ hF
    by_cases h0 : k = 0
    · have HX := Lib.hid (And.intro hF hRw)
      subst h0
      clear hF hRw hb k1 k2
      go_wp2
      go_end0
      exact ⟨⟨_, rfl⟩, HX.out.1, HX.out.2.congr (fun j _ => by unfold lstP; rw [if_pos (Nat.zero_le _)])⟩
    · obtain ⟨m, hm⟩ : ∃ m, k = m + 1 := ⟨k - 1, by omega⟩
      have hkm : ((k : Int) - 1) = (m : Int) := by omega
      rw [hkm]
      obtain ⟨fg, fo, rfl⟩ := HFA.out (by omega)
      have f0 := k1.cells.1
      have f3 := k1.cells.2.2.2
      obtain ⟨_, _, e1, _, k3⟩ := k2
      cases e1
      obtain ⟨_, _, e2, k4⟩ := k3 (by omega)
      cases e2
      have c0 : wr.cell? ⟨fg, fo + m, none⟩ = some (.int .i64 (c m : Int)) := k4 m (by omega)
      obtain ⟨l0, l1⟩ := hRw.at (show m < N by omega)
      have hcm := HC.out m
      have hd : N - m = (N - k) + 1 := by omega
      have hd2 : N - 1 - m = N - k := by omega
      have hd3 : N - 1 - (N - k) = m := by omega
      have hri : B.rimF c N (N - m) = if c m = 1 ∨ c m = 2 then true else if c m = 3 ∨ B.isIso (c m) = true then b else false := by
        rw [hd, hb]
        show (if c (N - 1 - (N - k)) = 1 ∨ c (N - 1 - (N - k)) = 2 then true else if c (N - 1 - (N - k)) = 3 ∨ B.isIso (c (N - 1 - (N - k))) = true then B.rimF c N (N - k) else false) = _
        rw [hd3]
      have hst : lstI base c N lv m = if c m = 1 ∨ c m = 2 then (base : Int) else if (c m = 3 ∨ B.isIso (c m) = true) ∧ b = true then (base : Int) else lv m := by
        unfold lstI; rw [hd2, hb]
      subst hm
      have HS : Hid (∀ W', Rw W' gl (upd (lstP base c N lv (m + 1)) m (lstI base c N lv m)) N → Rw W' gl (lstP base c N lv m) N) := Lib.hid (fun W' h => h.congr (fun j _ => lstP_step base c N lv m j))
      have HK : Hid (lstI base c N lv m = lv m → Rw wr gl (lstP base c N lv m) N) := Lib.hid (fun h => hRw.congr (fun j _ => lstP_keep base c N lv m h j))
      have HF := Lib.hid (And.intro hF hRw)
      clear hF hRw k1 k3 k4 hb hd hd2 hd3 hkm h0
      obtain ⟨x, hx⟩ : ∃ x, c m = x := ⟨_, rfl⟩
      rw [hx] at c0 hcm hri hst
      clear hx
      by_cases h12 : x = 1 ∨ x = 2
      · rw [if_pos h12] at hri hst
        rw [hst] at HS
        have HR := Lib.hid hri
        clear hri hst HK
        rcases h12 with rfl | rfl
        all_goals
          go_wp2
          go_roundw
          case rel => exact ⟨m, true, rfl, by go_num, by omega, HR.out.symm, HF.out.1.setCell _ _ (fun _ h => h rfl), HS.out _ (HF.out.2.set _ _)⟩
          case measure => simp [intOf]
      · rw [if_neg h12] at hri hst
        by_cases h3 : x = 3 ∨ B.isIso x = true
        · rw [if_pos h3] at hri
          have h3' : x = 3 ∨ x = 9 ∨ x = 10 ∨ x = 11 ∨ x = 12 := by
            rcases h3 with h | h
            · exact .inl h
            · simp [B.isIso] at h; omega
          cases b
          · rw [if_neg (by simp)] at hst
            have HR := Lib.hid hri
            have HK2 := Lib.hid (HK.out hst)
            clear hri hst HK HS h3 h12
            rcases h3' with rfl | rfl | rfl | rfl | rfl
            all_goals
              go_wp2
              go_roundw
              case rel => exact ⟨m, false, rfl, by go_num, by omega, HR.out.symm, HF.out.1, HK2.out⟩
              case measure => simp [intOf]
          · rw [if_pos ⟨h3, rfl⟩] at hst
            rw [hst] at HS
            have HR := Lib.hid hri
            clear hri hst HK h3 h12
            rcases h3' with rfl | rfl | rfl | rfl | rfl
            all_goals
              go_wp2
              go_roundw
              case rel => exact ⟨m, true, rfl, by go_num, by omega, HR.out.symm, HF.out.1.setCell _ _ (fun _ h => h rfl), HS.out _ (HF.out.2.set _ _)⟩
              case measure => simp [intOf]
        · rw [if_neg h3] at hri
          rw [if_neg (fun h => h3 h.1)] at hst
          have h3' : x ≠ 3 ∧ ¬ (9 ≤ x ∧ x ≤ 12) := ⟨fun h => h3 (.inl h), fun h => h3 (.inr (by simp [B.isIso]; omega))⟩
          have b1 : ((x : Int) == 1) = false := by simp; omega
          have b2 : ((x : Int) == 2) = false := by simp; omega
          have b3 : ((x : Int) == 3) = false := by simp; omega
          have HR := Lib.hid hri
          have HK2 := Lib.hid (HK.out hst)
          have h4 : x < 9 ∨ 12 < x := by omega
          clear hri hst HK HS h3 h12 h3' l0 l1
          rcases h4 with h4 | h4
          all_goals
            go_wp2
            go_roundw
            case rel => exact ⟨m, false, rfl, by go_num, by omega, HR.out.symm, HF.out.1, HK2.out⟩
            case measure => simp [intOf]
end Go.Proofs.Ytclblidfamabdaa
