/- The law of the names of the fourth chapter. -/
import Derived.Test.YtclblidfamabdaaBdHe
set_option linter.unusedVariables false
set_option linter.unusedSimpArgs false
namespace Go.Proofs.Ytclblidfamabdaa
open Go.RowKit Go.Shelf Go.Lib Go.BigFrame
attribute [local go_sem] Oper.semAt_some

theorem word_text (w : World) : Calls Try.prog 55 #[.int .i64 24] w fun e w' => e = .returned (.string ⟨#[116, 101, 120, 116]⟩) ∧ Below w.heap.size w w' := by
  go_enter Try.func55, Try.ntmps55
  go_wp2
  go_ret
  exact ⟨rfl, Below.refl _ _⟩
theorem error_text (w : World) : Calls Try.prog 27 #[.int .i64 24] w fun e w' => e = .returned (.string ⟨#[116, 101, 120, 116]⟩) ∧ Below w.heap.size w w' := by
  go_enter Try.func27, Try.ntmps27
  go_wp2_with (go_at_call 55; refine (word_text _).mono ?_; rintro e w1 ⟨rfl, hb1⟩)
  go_ret
  exact ⟨rfl, hb1⟩
theorem bidiNames_law (w : World) : Calls Try.prog 11 #[] w fun e w' => e = .returned (.bool true) ∧ Below w.heap.size w w' := by
  go_enter Try.func11, Try.ntmps11
  go_wp2_with (first
    | (go_at_call 16; refine (head_any _).mono ?_; rintro e w1 ⟨rfl, hb1⟩)
    | (go_at_call 27; refine (error_text _).mono ?_; rintro e w2 ⟨rfl, hb2⟩))
  go_ret
  refine ⟨rfl, ?_⟩
  repeat (first | assumption | refine bst ?_ ‹_›)
end Go.Proofs.Ytclblidfamabdaa
