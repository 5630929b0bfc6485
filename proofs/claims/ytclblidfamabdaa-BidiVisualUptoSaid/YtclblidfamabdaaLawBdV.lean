/- The law of what is seen: as the document's. -/
import Derived.Test.YtclblidfamabdaaBdRy
import Derived.Test.YtclblidfamabdaaG10
import Derived.Test.YtclblidfamabdaaG11
import Derived.Test.YtclblidfamabdaaLawBdL
set_option linter.unusedVariables false
set_option linter.unusedSimpArgs false
namespace Go.Proofs.Ytclblidfamabdaa
open Go.RowKit Go.Shelf Go.Lib Go.BigFrame
attribute [local go_sem] Oper.semAt_some

/-- Both tell another base than 0 and 1. -/
theorem visualR_bad (s : ByteArray) (base : Int) (h0 : base ≠ 0) (h1 : base ≠ 1) (w : World) :
    Calls Try.prog 26 #[.string s, .int .i64 base] w fun e w' => e = .returned (.tuple #[.string ⟨#[]⟩, .int .i64 1]) ∧ Below w.heap.size w w' := by
  have LV := Lib.hid (fun w => levelsR_bad s base h0 h1 w)
  clear h0 h1
  go_enter Try.func26, Try.ntmps26
  go_wp2_with (go_at_call 19; (with_reducible refine (LV.out _).mono ?_); rintro e w1 ⟨rfl, rfl⟩)
  refine bodyPost_ret (results_tmp2 rfl _ _ _) rfl ?_
  exact ⟨rfl, Below.refl _ _⟩
theorem visual_bad (s : ByteArray) (base : Int) (h0 : base ≠ 0) (h1 : base ≠ 1) (w : World) :
    Calls Try.prog 25 #[.string s, .int .i64 base] w fun e w' => e = .returned (.tuple #[.string ⟨#[]⟩, .int .i64 1]) ∧ Below w.heap.size w w' := by
  have LV := Lib.hid (fun w => levels_bad s base h0 h1 w)
  clear h0 h1
  refine (callsIn_wide (n := 0)).1 (callsIn_of_wp_marks Try.func25 rfl trivial (wpIn_wide.2 ?_) rfl)
  simp only [Try.ntmps25, List.size_toArray, List.length_cons, List.length_nil, Nat.reduceAdd, Nat.reduceSub, Array.replicate_succ, Array.replicate_zero, List.push_toArray, List.append_toArray, List.nil_append, List.cons_append]
  go_wp2_with (go_at_call 18; (with_reducible refine (LV.out _).mono ?_); rintro e w1 ⟨rfl, rfl⟩)
  exact ⟨_, results_tmp2 rfl _ _ _, rfl, (Below.refl _ _).alloc (Nat.le_refl _) _⟩

set_option maxRecDepth 1000000 in
set_option maxHeartbeats 4000000 in
theorem bidiVisual_law (x0 : ByteArray) (x1 : Int) (hs : x0.size ≤ 1048576) (h1w : (Lit.int .i64 x1).wf = true) (w : World) :
    Calls Try.prog 7 #[.string x0, .int .i64 x1] w fun e w' => e = .returned (.bool true) ∧ Below w.heap.size w w' := by
  have hs4 : x0.size ≤ 4194304 := by omega
  have HE := Lib.hid (fun w => head_any w)
  have LL : Hid (∃ (t : ByteArray) (er : Int), (∀ w, Calls Try.prog 25 #[.string x0, .int .i64 x1] w fun e w' => e = .returned (.tuple #[.string t, .int .i64 er]) ∧ Below w.heap.size w w') ∧ (∀ w, Calls Try.prog 26 #[.string x0, .int .i64 x1] w fun e w' => e = .returned (.tuple #[.string t, .int .i64 er]) ∧ Below w.heap.size w w')) := Lib.hid (by
    by_cases hb : x1 = 0 ∨ x1 = 1
    · obtain ⟨b, hb2, rfl⟩ : ∃ b : Nat, (b = 0 ∨ b = 1) ∧ x1 = (b : Int) := ⟨x1.toNat, by omega, by omega⟩
      exact ⟨(visV x0 b).1, ((visV x0 b).2 : Int), fun w => visual_any x0 b hb2 w hs4, fun w => visualR_any x0 b hb2 w hs4⟩
    · exact ⟨⟨#[]⟩, 1, fun w => visual_bad x0 x1 (fun h => hb (.inl h)) (fun h => hb (.inr h)) w, fun w => visualR_bad x0 x1 (fun h => hb (.inl h)) (fun h => hb (.inr h)) w⟩)
  obtain ⟨t, er, LA, LB⟩ := LL.out
  have LA := Lib.hid LA
  have LB := Lib.hid LB
  clear LL
  go_enter Try.func7, Try.ntmps7
  go_wp2_with (first
    | (go_at_call 25; (with_reducible refine (LA.out _).mono ?_); rintro e w1 ⟨rfl, hb1⟩)
    | (go_at_call 26; (with_reducible refine (LB.out _).mono ?_); rintro e w2 ⟨rfl, hb2⟩)
    | (go_at_call 16; (with_reducible refine (HE.out _).mono ?_); rintro e w6 ⟨rfl, hb6⟩)
    | fail)
  go_ret
  exact ⟨rfl, bst (bst hb1 hb2) hb6⟩
end Go.Proofs.Ytclblidfamabdaa
