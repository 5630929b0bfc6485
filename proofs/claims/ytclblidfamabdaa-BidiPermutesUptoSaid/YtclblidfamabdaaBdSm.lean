/- Same, within; Visual at another base. -/
import Derived.Test.YtclblidfamabdaaBdVi
set_option linter.unusedVariables false
set_option linter.unusedSimpArgs false
namespace Go.Proofs.Ytclblidfamabdaa
open Go.RowKit Go.Shelf Go.Lib Go.BigFrame
attribute [local go_sem] Oper.semAt_some

set_option maxRecDepth 1000000 in
theorem same_any (a b : Value) (n m : Nat) (c d : Nat → Int) (w : World) (hn : n ≤ 8388608) (hm : m ≤ 8388608) (ha : Rd w a c n) (hb : Rd w b d m) :
    Calls Try.prog 20 #[a, b] w fun e w' => (∃ B, e = .returned (.bool B) ∧ (B = true ↔ n = m ∧ ∀ j, j < n → c j = d j)) ∧ Below w.heap.size w w' := by
  obtain ⟨RA, rc, rfl, hrl, hr1⟩ := ha
  obtain ⟨CA, cc, rfl, hcl, hc1⟩ := hb
  have HR := Lib.hid hr1
  have HC := Lib.hid hc1
  clear hr1 hc1
  by_cases hnm : n = m
  · subst hnm
    go_enter Try.func20, Try.ntmps20
    go_wp2
    go_loopw [5] (fun i wr => ∃ k : Nat, i = .int .i64 (k : Int) ∧ k ≤ n ∧ (∀ j, j < k → c j = d j) ∧ ∃ q, wr = w.drewN q) (fun i _ => n - (RowKit.intOf i).toNat)
    case atStart => exact ⟨0, rfl, Nat.zero_le _, fun j h => absurd h (Nat.not_lt_zero _), 0, rfl⟩
    case round =>
      obtain ⟨k, rfl, hk, hno, q, rfl⟩ := hrel
      by_cases hlt : k < n
      · obtain ⟨rg, ro, rfl, hrc⟩ := HR.out (by omega)
        obtain ⟨cg, co, rfl, hcc⟩ := HC.out (by omega)
        have r0 := hrc k hlt
        have c0 := hcc k hlt
        have HNO := Lib.hid hno
        obtain ⟨x, hx⟩ : ∃ x, c k = x := ⟨_, rfl⟩
        obtain ⟨y, hy⟩ : ∃ y, d k = y := ⟨_, rfl⟩
        rw [hx] at r0
        rw [hy] at c0
        have HX := Lib.hid (And.intro hx hy)
        clear hrc hcc hno hx hy
        by_cases hxy : x = y
        · subst hxy
          go_wp2
          go_quiet (fail)
          go_wp2
          go_roundw
          case rel =>
            refine ⟨k + 1, by go_num, hlt, fun j hj => ?_, ?_⟩
            · rcases Nat.lt_or_ge j k with h | h
              · exact HNO.out j h
              · obtain rfl : j = k := by omega
                rw [HX.out.1, HX.out.2]
            · first | exact ⟨_, rfl⟩ | exact ⟨q + nq, rfl⟩ | exact ⟨q + nq, by simp [World.drewN]⟩
          case measure => simp [RowKit.intOf]; omega
        · have hb : (x != y) = true := by simp [hxy]
          have HN := Lib.hid hxy
          clear hxy
          go_wp2
          go_quiet (fail)
          go_wp2
          go_ret
          exact ⟨⟨false, rfl, by constructor <;> intro h; cases h; exact absurd (HX.out.1.symm.trans ((h.2 k hlt).trans HX.out.2)) HN.out⟩, by (repeat' (first | (with_reducible exact Below.refl _ _) | (with_reducible assumption) | (with_reducible refine below_dn ?_ _) | (with_reducible refine Below.drew ?_) | (with_reducible refine Below.alloc ?_ ?_ _) | (with_reducible refine Below.setCell ?_ ?_ _) | go_size))⟩
      · obtain rfl : k = n := by omega
        have HNO := Lib.hid hno
        clear hno
        go_wp2
        go_ret
        exact ⟨⟨true, rfl, by simp; exact HNO.out⟩, by (repeat' (first | (with_reducible exact Below.refl _ _) | (with_reducible assumption) | (with_reducible refine below_dn ?_ _) | (with_reducible refine Below.drew ?_) | (with_reducible refine Below.alloc ?_ ?_ _) | (with_reducible refine Below.setCell ?_ ?_ _) | go_size))⟩
  · have hb : ((n : Int) != (m : Int)) = true := by simp; omega
    have HN := Lib.hid hnm
    clear hnm
    go_enter Try.func20, Try.ntmps20
    go_wp2
    go_ret
    exact ⟨⟨false, rfl, by constructor <;> intro h; cases h; exact absurd h.1 HN.out⟩, Below.refl _ _⟩
theorem within4_any (at_ : Int) (n : Nat) (w : World) (hn : 1 ≤ n) (hm : n ≤ 9223372036854775807) :
    Calls Try.prog 17 #[.int .i64 at_, .int .i64 (n : Int)] w fun e w' => e = .returned (.int .i64 (at_ % (n : Int))) ∧ w = w' := by
  have HT := Lib.hid (show at_.tmod (n : Int) = if 0 ≤ at_ then at_ % (n : Int) else - ((-at_) % (n : Int)) by
    split
    · exact Int.tmod_eq_emod_of_nonneg ‹_›
    · rw [← Int.neg_neg at_, Int.neg_tmod, Int.neg_neg, Int.tmod_eq_emod_of_nonneg (by omega)])
  have h1 := Int.emod_nonneg at_ (show (n : Int) ≠ 0 by omega)
  have h2 := Int.emod_lt_of_pos at_ (show 0 < (n : Int) by omega)
  have h3 := Int.emod_nonneg (-at_) (show (n : Int) ≠ 0 by omega)
  have h4 := Int.emod_lt_of_pos (-at_) (show 0 < (n : Int) by omega)
  have hneg : ¬ 0 ≤ at_ → (-at_) % (n : Int) ≠ 0 → at_ % (n : Int) = n - (-at_) % (n : Int) := fun _ hz => by
    have e : at_ = - (-at_) := by omega
    have q1 := Int.mul_ediv_add_emod (-at_) (n : Int)
    have e2 : at_ = ((n : Int) - (-at_) % (n : Int)) + (n : Int) * (-((-at_) / (n : Int)) - 1) := by
      rw [Int.mul_sub, Int.mul_neg]; omega
    rw [e2, Int.add_mul_emod_self_left, ← e2]
    exact Int.emod_eq_of_lt (by omega) (by omega)
  have hzer : ¬ 0 ≤ at_ → (-at_) % (n : Int) = 0 → at_ % (n : Int) = 0 := fun _ hz => by
    have q1 := Int.mul_ediv_add_emod (-at_) (n : Int)
    have e2 : at_ = 0 + (n : Int) * (-((-at_) / (n : Int))) := by rw [Int.mul_neg]; omega
    rw [e2, Int.add_mul_emod_self_left]; rfl
  have HN := Lib.hid hneg
  have HZ := Lib.hid hzer
  have H1 := Lib.hid h1
  have H2 := Lib.hid h2
  have H3 := Lib.hid h3
  have H4 := Lib.hid h4
  clear h1 h2 h3 h4 hneg hzer
  go_enter Try.func17, Try.ntmps17
  go_wp2
  · have hl : at_.tmod (n : Int) < 0 := by assumption
    go_ret
    refine ⟨rC_int ?_, rfl⟩
    have t := HT.out
    have h1 := H1.out
    have h2 := H2.out
    have h3 := H3.out
    have h4 := H4.out
    by_cases h0 : 0 ≤ at_
    · rw [if_pos h0] at t; omega
    · rw [if_neg h0] at t
      have := HN.out (by omega) (by omega)
      show wrap64 (at_.tmod n + n) = _
      rw [t, IntWalk.wrap64_in _ (by omega)]
      omega
  · have hl : 0 ≤ at_.tmod (n : Int) := by assumption
    go_ret
    refine ⟨rC_int ?_, rfl⟩
    have t := HT.out
    have h1 := H1.out
    have h3 := H3.out
    show at_.tmod n = _
    by_cases h0 : 0 ≤ at_
    · rw [if_pos h0] at t; exact t
    · rw [if_neg h0] at t
      have := HZ.out (by omega) (by omega)
      omega

end Go.Proofs.Ytclblidfamabdaa
