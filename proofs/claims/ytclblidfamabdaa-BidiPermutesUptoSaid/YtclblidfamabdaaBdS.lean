/- bidi.stretches. -/
import Derived.Test.YtclblidfamabdaaBdM
import Derived.Deep.CutBlock
set_option linter.unusedVariables false
set_option linter.unusedSimpArgs false
namespace Go.Proofs.Ytclblidfamabdaa
open Go.RowKit Go.Shelf Go.Lib Go.BigFrame
attribute [local go_sem] Oper.semAt_some

/-- A row up to a place laid over. -/
def ovTo (p : Nat → Bool) (F : Nat → Nat → Nat) (n : Nat) (l : Nat → Nat) (i : Nat) (k : Nat) : Int := if k < i then (B.ov p F n l k : Int) else (l k : Int)

set_option maxRecDepth 1000000 in
set_option maxHeartbeats 4000000 in
theorem stretches_any (ofF clF : FuncId) (caps : Array Value) (g n : Nat) (l : Nat → Nat) (p : Nat → Bool) (F : Nat → Nat → Nat) (C : World → Prop) (w : World) (hn : n ≤ 4194304) (hg : g < w.heap.size)
    (hC : ∀ A A', Fr (fun k => k ≠ g) A A' → w.heap.size ≤ A.heap.size → C A → C A') (hCw : C w) (hR : Rw w g (fun k => (l k : Int)) n)
    (heo : ∀ args w, (callFunc ofF args).run Try.prog w = .ok (.enter ofF args) w) (hec : ∀ args w, (callFunc clF args).run Try.prog w = .ok (.enter clF args) w)
    (HO : ∀ (k : Nat) (W : World), k < n → Calls Try.prog ofF #[.int .i64 (l k : Int)] W fun e w' => e = .returned (.bool (p (l k))) ∧ W = w')
    (HCl : ∀ (cur : Nat → Int) (W : World) (i j : Nat), i < j → j ≤ n → C W → Rw W g cur n → (0 < i → cur (i - 1) = (l (i - 1) : Int)) → (j < n → cur j = (l j : Int)) → Calls Try.prog clF (#[.int .i64 (i : Int), .int .i64 (j : Int)] ++ caps) W fun e w' => e = .returned (.int .i64 (F i j : Int)) ∧ Below W.heap.size W w') :
    Calls Try.prog 81 #[.slice (some ⟨g, 0, none⟩) n n, .func (.func ofF) #[] #[], .func (.func clF) #[] caps] w fun e w' => (∃ v, e = .returned v) ∧ Fr (fun k => k ≠ g) w w' ∧ Rw w' g (fun k => (B.ov p F n l k : Int)) n := by
  have HO := Lib.hid HO
  have HCl := Lib.hid HCl
  have HC := Lib.hid hC
  have HR := Lib.hid (And.intro hCw hR)
  clear hC hCw hR
  go_enter Try.func81, Try.ntmps81
  go_wp2
  go_loopw [6] (fun iv wr => ∃ i : Nat, iv = .int .i64 (i : Int) ∧ i ≤ n ∧ Fr (fun k => k ≠ g) w wr ∧ Rw wr g (ovTo p F n l i) n ∧ (i = 0 ∨ p (l (i - 1)) = false ∨ (i < n → p (l i) = false))) (fun iv _ => n - (intOf iv).toNat)
  case atStart => exact ⟨0, rfl, Nat.zero_le _, Fr.refl _ _, HR.out.2.congr (fun j _ => by unfold ovTo; rw [if_neg (Nat.not_lt_zero _)]), .inl rfl⟩
  case round =>
    obtain ⟨i, rfl, hi, hFr, hRw, hside⟩ := hrel
    by_cases hlt : i < n
    · have HX := Lib.hid (And.intro hFr (And.intro hRw hside))
      clear hFr hRw hside
      go_upto_block 2 with fail
      go_cut [7] (fun jv wx => ∃ j : Nat, jv = .int .i64 (j : Int) ∧ wx = wr ∧ i ≤ j ∧ j ≤ n ∧ (∀ k, i ≤ k → k < j → p (l k) = true) ∧ (j < n → p (l j) = false))
      case first =>
        go_wp2
        go_loopw [7] (fun jv wx => ∃ j : Nat, jv = .int .i64 (j : Int) ∧ wx = wr ∧ i ≤ j ∧ j ≤ n ∧ (∀ k, i ≤ k → k < j → p (l k) = true)) (fun jv _ => n - (intOf jv).toNat)
        case atStart => exact ⟨i, rfl, rfl, Nat.le_refl _, hi, fun k h1 h2 => by omega⟩
        case round =>
          obtain ⟨j, rfl, rfl, hij, hjn, hall⟩ := hrel
          by_cases hjl : j < n
          · have c0 := (HX.out.2.1.at hjl).1
            rw [show ovTo p F n l i j = (l j : Int) by unfold ovTo; rw [if_neg (by omega)]] at c0
            have HOj := HO.out j
            obtain ⟨b, hb⟩ : ∃ b, p (l j) = b := ⟨_, rfl⟩
            rw [hb] at HOj
            have HOj := Lib.hid HOj
            have HB := Lib.hid hb
            have HA := Lib.hid hall
            clear hb hall
            cases b
            · go_wp2_with ((with_reducible refine (HOj.out _ hjl).mono ?_); rintro e w2 ⟨rfl, rfl⟩)
              go_meet
              exact ⟨j, rfl, rfl, hij, hjn, HA.out, fun _ => HB.out⟩
            · go_wp2_with ((with_reducible refine (HOj.out _ hjl).mono ?_); rintro e w2 ⟨rfl, rfl⟩)
              go_roundw
              case rel =>
                refine ⟨j + 1, by go_num, by trivial, by omega, hjl, fun k h1 h2 => ?_⟩
                rcases Nat.lt_or_ge k j with h | h
                · exact HA.out k h1 h
                · obtain rfl : k = j := by omega
                  exact HB.out
              case measure => simp [intOf]; omega
          · have HA := Lib.hid hall
            clear hall
            go_wp2
            go_meet
            exact ⟨j, rfl, rfl, hij, hjn, HA.out, fun h => absurd h hjl⟩
      case rest =>
        obtain ⟨j, rfl, rfl, hij, hjn, hall, hend⟩ := hcut
        have hrg : B.rgt p l n i = j := B.rgt_is p l n i j hij hjn hall hend
        have HJ := Lib.hid (And.intro hall (And.intro hend hrg))
        clear hall hend hrg
        by_cases hj : i < j
        · have hside : i = 0 ∨ p (l (i - 1)) = false := by
            rcases HX.out.2.2 with h | h | h
            · exact .inl h
            · exact .inr h
            · have := h hlt; rw [HJ.out.1 i (Nat.le_refl _) hj] at this; cases this
          have hov : ∀ k, i ≤ k → k < j → B.ov p F n l k = F i j := fun k h1 h2 => B.ov_in p F n l i j k hside HJ.out.2.2 hi h1 h2
          have HOV := Lib.hid hov
          have hov0 : 0 < i → ovTo p F n l i (i - 1) = (l (i - 1) : Int) := fun h0 => by
            unfold ovTo
            rw [if_pos (by omega)]
            rcases hside with h | h
            · omega
            · unfold B.ov; rw [if_neg (by simp [h])]
          have hovj : j < n → ovTo p F n l i j = (l j : Int) := fun _ => by unfold ovTo; rw [if_neg (by omega)]
          have CL := Lib.hid (HCl.out (ovTo p F n l i) wc i j hj hjn (HC.out _ _ HX.out.1 (Nat.le_refl _) HR.out.1) HX.out.2.1 hov0 hovj)
          obtain ⟨f, hf⟩ : ∃ f, F i j = f := ⟨_, rfl⟩
          rw [hf] at CL HOV
          clear hside hov hov0 hovj hf
          go_wp2_with ((with_reducible refine CL.out.mono ?_); rintro e w2 ⟨rfl, hb2⟩)
          have hR2 : Rw w2 g (ovTo p F n l i) n := HX.out.2.1.fr (Fr.of_below (S := fun k => k < wc.heap.size) hb2 (fun k _ h => h)) (by have := HX.out.1.size; show g < wc.heap.size; omega)
          have HR2 := Lib.hid hR2
          have HB2 := Lib.hid hb2
          clear hR2 hb2
          go_loopw [9] (fun qv wx => ∃ q : Nat, qv = .int .i64 (q : Int) ∧ i ≤ q ∧ q ≤ j ∧ Fr (fun k => k ≠ g) w2 wx ∧ Rw wx g (fun k => if k < q then (B.ov p F n l k : Int) else (l k : Int)) n) (fun qv _ => j - (intOf qv).toNat)
          case atStart => exact ⟨i, rfl, Nat.le_refl _, by omega, Fr.refl _ _, HR2.out⟩
          case round =>
            obtain ⟨q, rfl, hiq, hqj, hFq, hRq⟩ := hrel
            by_cases hql : q < j
            · have f0 := (hRq.at (show q < n by omega)).2
              obtain ⟨u0, c0⟩ : ∃ u, wr.cell? ⟨g, q, none⟩ = some u := ⟨_, (hRq.at (show q < n by omega)).1⟩
              have HQ := Lib.hid (And.intro hFq hRq)
              clear hFq hRq
              go_wp2
              go_roundw
              case rel =>
                refine ⟨q + 1, by go_num, by omega, hql, HQ.out.1.setCell _ _ (fun _ h => h rfl), (HQ.out.2.set q (f : Int)).congr (fun k hk => ?_)⟩
                unfold upd
                by_cases h1 : k = q
                · subst h1; rw [if_pos rfl, if_pos (by omega), HOV.out k hiq hql]
                · rw [if_neg h1]
                  show (if k < q then (B.ov p F n l k : Int) else (l k : Int)) = _
                  by_cases h2 : k < q
                  · rw [if_pos h2, if_pos (by omega)]
                  · rw [if_neg h2, if_neg (by omega)]
              case measure => simp [intOf]; omega
            · obtain rfl : j = q := by omega
              have HQ := Lib.hid (And.intro hFq hRq)
              clear hFq hRq
              go_wp2
              go_roundw
              case rel => exact ⟨j, by go_num, hjn, HX.out.1.trans ((Fr.of_below (S := fun k => k ≠ g) HB2.out (fun k hk _ => hk)).trans HQ.out.1), HQ.out.2, .inr (.inr HJ.out.2.1)⟩
              case measure => simp [intOf]; omega
        · obtain rfl : i = j := by omega
          have hend2 : i < n → p (l i) = false := HJ.out.2.1
          have HE := Lib.hid hend2
          clear hend2
          go_wp2
          go_roundw
          case rel =>
            refine ⟨i + 1, by go_num, hlt, HX.out.1, HX.out.2.1.congr (fun k hk => ?_), .inr (.inl (HE.out hlt))⟩
            unfold ovTo
            by_cases h1 : k < i
            · rw [if_pos h1, if_pos (by omega)]
            · rw [if_neg h1]
              by_cases h2 : k < i + 1
              · obtain rfl : k = i := by omega
                rw [if_pos h2]; unfold B.ov; rw [if_neg (by simp [HE.out hlt])]
              · rw [if_neg h2]
          case measure => simp [intOf]; omega
    · obtain rfl : n = i := by omega
      have HX := Lib.hid (And.intro hFr hRw)
      clear hFr hRw hside
      go_wp2
      go_end0
      exact ⟨⟨_, rfl⟩, HX.out.1, HX.out.2.congr (fun k hk => by unfold ovTo; rw [if_pos hk])⟩
end Go.Proofs.Ytclblidfamabdaa
