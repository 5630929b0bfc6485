/- The law's 'within'. -/
import Derived.Test.YtcngfcckajpkhaaCellK
set_option linter.unusedVariables false
set_option linter.unusedSimpArgs false
namespace Go.Proofs.Ytcngfcckajpkhaa
open Go.RowKit Go.Shelf Go.Lib Go.BigFrame
attribute [local go_sem] Oper.semAt_some

theorem within_any (at_ : Int) (n : Nat) (w : World) (hn : 1 ≤ n) (hm : n ≤ 9223372036854775807) :
    Calls Try.prog 28 #[.int .i64 at_, .int .i64 (n : Int)] w fun e w' => e = .returned (.int .i64 (at_ % (n : Int))) ∧ w = w' := by
  have HT := Lib.hid (show at_.tmod (n : Int) = if 0 ≤ at_ then at_ % (n : Int) else - ((-at_) % (n : Int)) by
    split
    · exact Int.tmod_eq_emod_of_nonneg ‹_›
    · rw [← Int.neg_neg at_, Int.neg_tmod, Int.neg_neg, Int.tmod_eq_emod_of_nonneg (by omega)])
  have h1 := Int.emod_nonneg at_ (show (n : Int) ≠ 0 by omega)
  have h2 := Int.emod_lt_of_pos at_ (show 0 < (n : Int) by omega)
  have h3 := Int.emod_nonneg (-at_) (show (n : Int) ≠ 0 by omega)
  have h4 := Int.emod_lt_of_pos (-at_) (show 0 < (n : Int) by omega)
  have hneg : ¬ 0 ≤ at_ → (-at_) % (n : Int) ≠ 0 → at_ % (n : Int) = n - (-at_) % (n : Int) := fun _ hz => by
    have e : at_ = - (-at_) := by omega
    have q1 := Int.mul_ediv_add_emod (-at_) (n : Int)
    have e2 : at_ = ((n : Int) - (-at_) % (n : Int)) + (n : Int) * (-((-at_) / (n : Int)) - 1) := by
      rw [Int.mul_sub, Int.mul_neg]; omega
    rw [e2, Int.add_mul_emod_self_left, ← e2]
    exact Int.emod_eq_of_lt (by omega) (by omega)
  have hzer : ¬ 0 ≤ at_ → (-at_) % (n : Int) = 0 → at_ % (n : Int) = 0 := fun _ hz => by
    have q1 := Int.mul_ediv_add_emod (-at_) (n : Int)
    have e2 : at_ = 0 + (n : Int) * (-((-at_) / (n : Int))) := by rw [Int.mul_neg]; omega
    rw [e2, Int.add_mul_emod_self_left]; rfl
  have HN := Lib.hid hneg
  have HZ := Lib.hid hzer
  have H1 := Lib.hid h1
  have H2 := Lib.hid h2
  have H3 := Lib.hid h3
  have H4 := Lib.hid h4
  clear h1 h2 h3 h4 hneg hzer
  go_enter Try.func28, Try.ntmps28
  go_wp2
  · have hl : at_.tmod (n : Int) < 0 := by assumption
    go_ret
    refine ⟨ret_int ?_, rfl⟩
    have t := HT.out
    have h1 := H1.out
    have h2 := H2.out
    have h3 := H3.out
    have h4 := H4.out
    by_cases h0 : 0 ≤ at_
    · rw [if_pos h0] at t; omega
    · rw [if_neg h0] at t
      have := HN.out (by omega) (by omega)
      show wrap64 (at_.tmod n + n) = _
      rw [t, IntWalk.wrap64_in _ (by omega)]
      omega
  · have hl : 0 ≤ at_.tmod (n : Int) := by assumption
    go_ret
    refine ⟨ret_int ?_, rfl⟩
    have t := HT.out
    have h1 := H1.out
    have h3 := H3.out
    show at_.tmod n = _
    by_cases h0 : 0 ≤ at_
    · rw [if_pos h0] at t; exact t
    · rw [if_neg h0] at t
      have := HZ.out (by omega) (by omega)
      omega

/-- A number within so many. -/
theorem within_nat (x : Int) (n : Nat) (w : World) (hn : 1 ≤ n) (hm : n ≤ 4611686018427387904) : ∃ k : Nat, k < n ∧ ∀ w, Calls Try.prog 28 #[.int .i64 x, .int .i64 (n : Int)] w fun e w' => e = .returned (.int .i64 (k : Int)) ∧ w = w' := by
  have h1 := Int.emod_nonneg x (show (n : Int) ≠ 0 by omega)
  have h2 := Int.emod_lt_of_pos x (show 0 < (n : Int) by omega)
  refine ⟨(x % (n : Int)).toNat, by omega, fun w => ?_⟩
  rw [show (((x % (n : Int)).toNat : Nat) : Int) = x % (n : Int) by omega]
  exact within_any x n w hn (by omega)
end Go.Proofs.Ytcngfcckajpkhaa
