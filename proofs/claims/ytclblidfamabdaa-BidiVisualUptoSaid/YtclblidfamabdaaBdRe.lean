/- The document's neutrals. -/
import Derived.Test.YtclblidfamabdaaG17
set_option linter.unusedVariables false
set_option linter.unusedSimpArgs false
namespace Go.Proofs.Ytclblidfamabdaa
open Go.RowKit Go.Shelf Go.Lib Go.BigFrame
attribute [local go_sem] Oper.semAt_some

def ovN (a b : Nat → Nat) (i k : Nat) : Nat := if k < i then a k else b k
theorem pt_ovN (a b : Nat → Nat) (i : Nat) : pt a b i = fun k => (ovN a b i k : Int) := by funext k; unfold pt ovN; split <;> rfl
theorem f8_bes (side n : Nat) (l d : Nat → Nat) (i j : Nat) (hs : side = 15 ∨ side = 17) (hi : i ≤ n) (h1 : 0 < i → d (i - 1) = l (i - 1)) (h2 : j < n → d j = l j) :
    B.F8 side n l i j = if bes side n d ((i : Int) - 1) = bes side n d (j : Int) then bes side n d (j : Int) else side := by
  have e1 : bes side n d ((i : Int) - 1) = if (if 0 < i then l (i - 1) else side) = 17 then 17 else 15 := by
    unfold bes
    by_cases h : 0 < i
    · rw [if_neg (by omega), if_pos h, show ((i : Int) - 1).toNat = i - 1 by omega, h1 h]
    · rw [if_pos (by omega), if_neg h]
      rcases hs with rfl | rfl <;> rfl
  have e2 : bes side n d (j : Int) = if (if j < n then l j else side) = 17 then 17 else 15 := by
    unfold bes
    by_cases h : j < n
    · rw [if_neg (by omega), if_pos h, Int.toNat_natCast, h2 h]
    · rw [if_pos (by omega), if_neg h]
      rcases hs with rfl | rfl <;> rfl
  rw [e1, e2]
  unfold B.F8
  obtain ⟨a, ha⟩ : ∃ a, (if 0 < i then l (i - 1) else side) = a := ⟨_, rfl⟩
  obtain ⟨b, hb⟩ : ∃ b, (if j < n then l j else side) = b := ⟨_, rfl⟩
  rw [ha, hb]
  by_cases ha17 : a = 17
  · by_cases hb17 : b = 17
    · rw [if_pos ⟨ha17, hb17⟩, if_pos ha17, if_pos hb17, if_pos rfl]
    · rw [if_neg (fun h => hb17 h.2), if_neg (fun h => h.1 ha17), if_pos ha17, if_neg hb17, if_neg (by decide)]
  · by_cases hb17 : b = 17
    · rw [if_neg (fun h => ha17 h.1), if_neg (fun h => h.2 hb17), if_neg ha17, if_pos hb17, if_neg (by decide)]
    · rw [if_neg (fun h => ha17 h.1), if_pos ⟨ha17, hb17⟩, if_neg ha17, if_neg hb17, if_pos rfl]

set_option maxRecDepth 1000000 in
set_option maxHeartbeats 16000000 in
theorem neutralsR_any (A : Option Addr) (g n cap side : Nat) (l : Nat → Nat) (w : World) (hn : n ≤ 4194304) (hcap : n ≤ cap) (hside : side = 15 ∨ side = 17) (hR : 0 < n → A = some ⟨g, 0, none⟩ ∧ Rw w g (fun j => (l j : Int)) n) :
    Calls Try.prog 63 #[.slice A n cap, .int .i64 (side : Int)] w fun e w' => e = .returned (.slice A n cap) ∧ Wr w A g n (fun j => (B.v8 side n l j : Int)) w' := by
  have H4 : Hid (Wr w A g n (fun j => (l j : Int)) w) := Lib.hid ⟨Fr.refl _ _, hR⟩
  have NE := Lib.hid (fun x w => neutral_any2 x w)
  have BE := Lib.hid (fun v d j w (h : Rd w v (fun k => (d k : Int)) n) => beside_any side n v d j w hn h)
  obtain ⟨r5, hr5⟩ : ∃ r, B.v8 side n l = r := ⟨_, rfl⟩
  rw [hr5]
  have HR5 := Lib.hid (show B.ov B.neu (B.F8 side n l) n l = r5 from hr5)
  have HSD := Lib.hid hside
  clear hR hr5 hside
  go_enter Try.func63, Try.ntmps63
  go_wp2
  go_loopw [5] (fun iv wx => ∃ i : Nat, iv = .int .i64 (i : Int) ∧ i ≤ n ∧ Wr w A g n (pt r5 l i) wx ∧ (i = 0 ∨ B.neu (l (i - 1)) = false ∨ (i < n → B.neu (l i) = false))) (fun iv _ => n - (RowKit.intOf iv).toNat)
  case atStart => exact ⟨0, rfl, Nat.zero_le _, H4.out.congr (fun j _ => (pt_hi (Nat.not_lt_zero _)).symm), .inl rfl⟩
  case round =>
    clear H4
    obtain ⟨i, rfl, hi, hW, hside⟩ := hrel
    by_cases hlt : i < n
    · obtain ⟨hA, hrow⟩ := hW.row (by omega)
      subst hA
      have HX := Lib.hid (And.intro hW (And.intro hrow hside))
      clear hW hrow hside
      go_upto_block 2 with fail
      go_cut [6] (fun jv wx => ∃ j : Nat, jv = .int .i64 (j : Int) ∧ wx = wr ∧ i ≤ j ∧ j ≤ n ∧ (∀ k, i ≤ k → k < j → B.neu (l k) = true) ∧ (j < n → B.neu (l j) = false))
      case first =>
        go_wp2
        go_loopw [6] (fun jv wx => ∃ j : Nat, jv = .int .i64 (j : Int) ∧ wx = wr ∧ i ≤ j ∧ j ≤ n ∧ (∀ k, i ≤ k → k < j → B.neu (l k) = true)) (fun jv _ => n - (RowKit.intOf jv).toNat)
        case atStart => exact ⟨i, rfl, rfl, Nat.le_refl _, hi, fun k h1 h2 => by omega⟩
        case round =>
          obtain ⟨j, rfl, rfl, hij, hjn, hall⟩ := hrel
          have HA := Lib.hid hall
          clear hall
          by_cases hjl : j < n
          · have c0 := (HX.out.2.1.at hjl).1
            rw [pt_hi (by omega)] at c0
            obtain ⟨x, hx⟩ : ∃ x, l j = x := ⟨_, rfl⟩
            rw [hx] at c0
            have NEx := NE.out x
            obtain ⟨b, hb⟩ : ∃ b, B.neu x = b := ⟨_, rfl⟩
            rw [hb] at NEx
            have NEx := Lib.hid NEx
            have HXX := Lib.hid (show B.neu (l j) = b by rw [hx, hb])
            clear hx hb
            cases b
            · go_wp2_with (go_at_call 86; (with_reducible refine (NEx.out _).mono ?_); rintro e w2 ⟨rfl, rfl⟩)
              go_meet
              exact ⟨j, rfl, rfl, hij, hjn, HA.out, fun _ => HXX.out⟩
            · go_wp2_with (go_at_call 86; (with_reducible refine (NEx.out _).mono ?_); rintro e w2 ⟨rfl, rfl⟩)
              go_roundw
              case rel =>
                refine ⟨j + 1, by go_num, by trivial, by omega, hjl, fun k h1 h2 => ?_⟩
                rcases Nat.lt_or_ge k j with h | h
                · exact HA.out k h1 h
                · obtain rfl : k = j := by omega
                  exact HXX.out
              case measure => simp [RowKit.intOf]; omega
          · go_wp2
            go_meet
            exact ⟨j, rfl, rfl, hij, hjn, HA.out, fun h => absurd h hjl⟩
      case rest =>
        obtain ⟨j, rfl, rfl, hij, hjn, hall, hend⟩ := hcut
        have hrg : B.rgt B.neu l n i = j := B.rgt_is B.neu l n i j hij hjn hall hend
        have HJ := Lib.hid (And.intro hall (And.intro hend hrg))
        clear hall hend hrg
        obtain ⟨w5, hw5⟩ : ∃ x, x = wc := ⟨_, rfl⟩
        subst hw5
        by_cases hj : i < j
        · have hside : i = 0 ∨ B.neu (l (i - 1)) = false := by
            rcases HX.out.2.2 with h | h | h
            · exact .inl h
            · exact .inr h
            · have := h hlt; rw [HJ.out.1 i (Nat.le_refl _) hj] at this; cases this
          have hov : ∀ k, i ≤ k → k < j → r5 k = B.F8 side n l i j := fun k h1 h2 => by rw [← HR5.out]; exact B.ov_in B.neu (B.F8 side n l) n l i j k hside HJ.out.2.2 hi h1 h2
          have hov0 : 0 < i → r5 (i - 1) = l (i - 1) := fun h0 => by
            rw [← HR5.out]
            rcases hside with h | h
            · omega
            · unfold B.ov; rw [if_neg (by simp [h])]
          have hF := f8_bes side n l (ovN r5 l i) i j HSD.out hi (fun h0 => by unfold ovN; rw [if_pos (by omega), hov0 h0]) (fun h => by unfold ovN; rw [if_neg (by omega)])
          have hrd : Rd w5 (.slice (some ⟨g, 0, none⟩) n cap) (fun k => (ovN r5 l i k : Int)) n := by
            have := HX.out.2.1.rd cap hcap
            rwa [pt_ovN] at this
          have B1 := BE.out _ (ovN r5 l i) ((i : Int) - 1) w5 hrd
          have B2 := BE.out _ (ovN r5 l i) (j : Int) w5 hrd
          obtain ⟨b1, hb1⟩ : ∃ b, bes side n (ovN r5 l i) ((i : Int) - 1) = b := ⟨_, rfl⟩
          obtain ⟨b2, hb2⟩ : ∃ b, bes side n (ovN r5 l i) (j : Int) = b := ⟨_, rfl⟩
          rw [hb1] at B1 hF
          rw [hb2] at B2 hF
          have B1 := Lib.hid B1
          have B2 := Lib.hid B2
          obtain ⟨F, hFF⟩ : ∃ F, B.F8 side n l i j = F := ⟨_, rfl⟩
          rw [hFF] at hF hov
          have HOV := Lib.hid hov
          have HF := Lib.hid hF
          clear hside hov hov0 hF hFF hb1 hb2 hrd
          have e2 : (((j : Int) - 1) + 1) = (j : Int) := by omega
          have hne : ((j : Int) == (i : Int)) = false := by simp; omega
          obtain ⟨bq, hbq⟩ : ∃ b, ((b1 : Int) == (b2 : Int)) = b := ⟨_, rfl⟩
          have HFV := Lib.hid (show F = if bq = true then b2 else side by
            rw [HF.out, ← hbq]
            by_cases h : b1 = b2
            · rw [if_pos h, if_pos (by simp [h])]
            · rw [if_neg h, if_neg (by simp; omega)])
          cases bq
          all_goals (
            go_wp2_with (first
              | (go_at_call 87; (with_reducible refine B1.out.mono ?_); rintro e w2 ⟨rfl, rfl⟩)
              | (go_at_call 87; (with_reducible refine B2.out.mono ?_); rintro e w2 ⟨rfl, rfl⟩)
              | fail)
            go_loopw [8] (fun qv wx => ∃ q : Nat, qv = .int .i64 (q : Int) ∧ i ≤ q ∧ q ≤ j ∧ Wr w (some ⟨g, 0, none⟩) g n (pt r5 l q) wx) (fun qv _ => j - (RowKit.intOf qv).toNat)
            case atStart => exact ⟨i, by first | rfl | go_num, Nat.le_refl _, by omega, HX.out.1⟩
            case round =>
              obtain ⟨q, rfl, hiq, hqj, hWq⟩ := hrel
              by_cases hql : q < j
              · have f0 := ((hWq.row (by omega)).2.at (show q < n by omega)).2
                obtain ⟨u0, c0⟩ : ∃ u, wr.cell? ⟨g, q, none⟩ = some u := ⟨_, ((hWq.row (by omega)).2.at (show q < n by omega)).1⟩
                have HQ := Lib.hid hWq
                clear hWq
                go_wp2
                go_roundw
                case rel => exact ⟨q + 1, by go_num, by omega, hql, (HQ.out.set q _).congr (fun k _ => pt_set (by rw [HOV.out q hiq hql, HFV.out]; rfl) k)⟩
                case measure => simp [RowKit.intOf]; omega
              · obtain rfl : j = q := by omega
                have HQ := Lib.hid hWq
                clear hWq
                go_wp2
                go_roundw
                case rel => exact ⟨j, by first | rfl | go_num, hjn, HQ.out, .inr (.inr HJ.out.2.1)⟩
                case measure => simp [RowKit.intOf]; omega)
        · obtain rfl : i = j := by omega
          have HE := Lib.hid HJ.out.2.1
          have heq : ((i : Int) == (i : Int)) = true := by simp
          go_wp2
          go_roundw
          case rel => exact ⟨i + 1, by go_num, hlt, HX.out.1.congr (fun k _ => pt_skip (by rw [← HR5.out]; unfold B.ov; rw [if_neg (by simp [HE.out hlt])]) k), .inr (.inl (HE.out hlt))⟩
          case measure => simp [RowKit.intOf]; omega
    · obtain rfl : n = i := by omega
      have H5 : Hid (Wr w A g n (fun j => (r5 j : Int)) wr) := Lib.hid (hW.congr (fun j hj => pt_lo hj))
      clear hW hside
      go_wp2
      go_ret
      exact ⟨rfl, H5.out⟩
end Go.Proofs.Ytclblidfamabdaa
