/- Contracts of the small functions over numbers. -/
import Derived.Test.YtokbmihjpllgpaaDoorBase
set_option linter.unusedVariables false
namespace Go.Proofs.YtokbmihjpllgpaaDoor
open Go.RowKit Go.Lib

theorem r_int {k : IntKind} {a b : Int} (h : a = b) : Ending.returned (.int k a) = .returned (.int k b) := by rw [h]
theorem r_bool {a b : Bool} (h : a = b) : Ending.returned (.bool a) = .returned (.bool b) := by rw [h]

set_option maxRecDepth 1000000 in
theorem pairs_any (c : Nat) (w : World) : Calls Tryd.prog 33 #[.int .i32 (c : Int)] w fun e w' => e = .returned (.int .i64 (U.un c : Int)) ∧ w = w' := by
  by_cases h : c < 65536
  · have H := Lib.hid (show U.un c = 1 by unfold U.un; rw [if_pos h])
    have hb : decide ((65536 : Int) ≤ (c : Int)) = false := decide_eq_false (by omega)
    clear h
    go_enter Tryd.func33, Tryd.ntmps33
    go_wp2
    go_ret
    exact ⟨r_int (by rw [H.out]; rfl), rfl⟩
  · have H := Lib.hid (show U.un c = 2 by unfold U.un; rw [if_neg h])
    have hb : decide ((65536 : Int) ≤ (c : Int)) = true := decide_eq_true (by omega)
    clear h
    go_enter Tryd.func33, Tryd.ntmps33
    go_wp2
    go_ret
    exact ⟨r_int (by rw [H.out]; rfl), rfl⟩

/-- A unit that is one. -/
def isUnit (u : Int) : Bool := decide (1 ≤ u ∧ u ≤ 3)

theorem known_any (u : Int) (w : World) : Calls Tryd.prog 32 #[.int .i64 u] w fun e w' => e = .returned (.bool (isUnit u)) ∧ w = w' := by
  by_cases h : 1 ≤ u
  · have H := Lib.hid (show isUnit u = decide (u ≤ 3) by unfold isUnit; rw [decide_eq_decide]; exact ⟨fun x => x.2, fun x => ⟨h, x⟩⟩)
    go_enter Tryd.func32, Tryd.ntmps32
    go_wp2
    go_ret
    exact ⟨r_bool H.out.symm, rfl⟩
  · have H := Lib.hid (show isUnit u = false by unfold isUnit; rw [decide_eq_false_iff_not]; omega)
    go_enter Tryd.func32, Tryd.ntmps32
    go_wp2
    go_ret
    exact ⟨r_bool H.out.symm, rfl⟩

theorem within_any (at_ : Int) (n : Nat) (w : World) (hn : 1 ≤ n) (hm : n ≤ 9223372036854775807) :
    Calls Tryd.prog 13 #[.int .i64 at_, .int .i64 (n : Int)] w fun e w' => e = .returned (.int .i64 (at_ % (n : Int))) ∧ w = w' := by
  have HT := Lib.hid (show at_.tmod (n : Int) = if 0 ≤ at_ then at_ % (n : Int) else - ((-at_) % (n : Int)) by
    split
    · exact Int.tmod_eq_emod_of_nonneg ‹_›
    · rw [← Int.neg_neg at_, Int.neg_tmod, Int.neg_neg, Int.tmod_eq_emod_of_nonneg (by omega)])
  have h1 := Int.emod_nonneg at_ (show (n : Int) ≠ 0 by omega)
  have h2 := Int.emod_lt_of_pos at_ (show 0 < (n : Int) by omega)
  have h3 := Int.emod_nonneg (-at_) (show (n : Int) ≠ 0 by omega)
  have h4 := Int.emod_lt_of_pos (-at_) (show 0 < (n : Int) by omega)
  have hneg : ¬ 0 ≤ at_ → (-at_) % (n : Int) ≠ 0 → at_ % (n : Int) = n - (-at_) % (n : Int) := fun _ hz => by
    have e : at_ = - (-at_) := by omega
    have q1 := Int.mul_ediv_add_emod (-at_) (n : Int)
    have e2 : at_ = ((n : Int) - (-at_) % (n : Int)) + (n : Int) * (-((-at_) / (n : Int)) - 1) := by
      rw [Int.mul_sub, Int.mul_neg]; omega
    rw [e2, Int.add_mul_emod_self_left, ← e2]
    exact Int.emod_eq_of_lt (by omega) (by omega)
  have hzer : ¬ 0 ≤ at_ → (-at_) % (n : Int) = 0 → at_ % (n : Int) = 0 := fun _ hz => by
    have q1 := Int.mul_ediv_add_emod (-at_) (n : Int)
    have e2 : at_ = 0 + (n : Int) * (-((-at_) / (n : Int))) := by rw [Int.mul_neg]; omega
    rw [e2, Int.add_mul_emod_self_left]; rfl
  have HN := Lib.hid hneg
  have HZ := Lib.hid hzer
  have H1 := Lib.hid h1
  have H2 := Lib.hid h2
  have H3 := Lib.hid h3
  have H4 := Lib.hid h4
  clear h1 h2 h3 h4 hneg hzer
  go_enter Tryd.func13, Tryd.ntmps13
  go_wp2
  · have hl : at_.tmod (n : Int) < 0 := by assumption
    go_ret
    refine ⟨r_int ?_, rfl⟩
    have t := HT.out
    have h1 := H1.out
    have h2 := H2.out
    have h3 := H3.out
    have h4 := H4.out
    by_cases h0 : 0 ≤ at_
    · rw [if_pos h0] at t; omega
    · rw [if_neg h0] at t
      have := HN.out (by omega) (by omega)
      show wrap64 (at_.tmod n + n) = _
      rw [t, IntWalk.wrap64_in _ (by omega)]
      omega
  · have hl : 0 ≤ at_.tmod (n : Int) := by assumption
    go_ret
    refine ⟨r_int ?_, rfl⟩
    have t := HT.out
    have h1 := H1.out
    have h3 := H3.out
    show at_.tmod n = _
    by_cases h0 : 0 ≤ at_
    · rw [if_pos h0] at t; exact t
    · rw [if_neg h0] at t
      have := HZ.out (by omega) (by omega)
      omega
end Go.Proofs.YtokbmihjpllgpaaDoor
