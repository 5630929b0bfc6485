/- The law of the places. -/
import Derived.Test.YtokbmihjpllgpaaPlaceR
set_option linter.unusedVariables false
namespace Go.Proofs.Ytokbmihjpllgpaa
open Go.RowKit Go.Shelf Go.Lib Go.BigFrame
attribute [local go_sem] Oper.semAt_some

set_option maxRecDepth 1000000 in
/-- The reference's Place, whatever it is given. -/
theorem placeR_any (s : ByteArray) (at_ f t : Int) (w : World) (hs : s.size ≤ 4194304) (hat : at_ ≤ 9223372036854775807) :
    Calls Try.prog 28 #[.string s, .int .i64 at_, .int .i64 f, .int .i64 t] w fun e w' =>
      e = .returned (.tuple #[.int .i64 ((placeI s at_ f t).1 : Int), .int .i64 ((placeI s at_ f t).2 : Int)]) ∧ Below w.heap.size w w' := by
  by_cases hf : isUnit f = true
  · by_cases ht : isUnit t = true
    · by_cases h0 : at_ < 0
      · have hp : placeI s at_ f t = (0, 1) := by unfold placeI; rw [hf, ht, if_neg (by simp), if_pos h0]
        rw [hp]
        have KF := Lib.hid hf
        have KT := Lib.hid ht
        clear hf ht hp
        go_enter Try.func28, Try.ntmps28
        go_wp2_with (first | (go_at_call 54; refine (unit_any _ _).mono ?_; rintro e w' ⟨rfl, rfl⟩; first | rw [KF.out] | rw [KT.out]))
        go_ret2
        exact ⟨rfl, Below.refl _ _⟩
      · obtain ⟨f', rfl⟩ : ∃ n : Nat, f = n := ⟨f.toNat, by unfold isUnit at hf; have := of_decide_eq_true hf; omega⟩
        obtain ⟨t', rfl⟩ : ∃ n : Nat, t = n := ⟨t.toNat, by unfold isUnit at ht; have := of_decide_eq_true ht; omega⟩
        obtain ⟨a', rfl⟩ : ∃ n : Nat, at_ = n := ⟨at_.toNat, by omega⟩
        have h1 : 1 ≤ f' ∧ f' ≤ 3 := by unfold isUnit at hf; have := of_decide_eq_true hf; omega
        have h2 : 1 ≤ t' ∧ t' ≤ 3 := by unfold isUnit at ht; have := of_decide_eq_true ht; omega
        rw [placeI_main s a' f' t' h1 h2]
        exact placeR_main s a' f' t' w hs h1 h2 (by omega)
    · have hp : placeI s at_ f t = (0, 5) := by unfold placeI; rw [if_pos (by simp [ht])]
      rw [hp]
      have KF := Lib.hid hf
      have KT := Lib.hid (Bool.eq_false_iff.2 ht)
      clear hf ht hp
      go_enter Try.func28, Try.ntmps28
      go_wp2_with (first | (go_at_call 54; refine (unit_any _ _).mono ?_; rintro e w' ⟨rfl, rfl⟩; first | rw [KF.out] | rw [KT.out]))
      go_ret2
      exact ⟨rfl, Below.refl _ _⟩
  · have hp : placeI s at_ f t = (0, 5) := by unfold placeI; rw [if_pos (by simp [hf])]
    rw [hp]
    have KF := Lib.hid (Bool.eq_false_iff.2 hf)
    clear hf hp
    go_enter Try.func28, Try.ntmps28
    go_wp2_with (first | (go_at_call 54; refine (unit_any _ _).mono ?_; rintro e w' ⟨rfl, rfl⟩; first | rw [KF.out]))
    go_ret2
    exact ⟨rfl, Below.refl _ _⟩

set_option maxRecDepth 1000000 in
set_option maxHeartbeats 1000000 in
theorem utfPlaces_law (s : ByteArray) (at_ f t : Int) (hs : s.size ≤ 1048576) (h1 : (Lit.int .i64 at_).wf = true) (h2 : (Lit.int .i64 f).wf = true) (h3 : (Lit.int .i64 t).wf = true) (w : World) :
    Calls Try.prog 4 #[.string s, .int .i64 at_, .int .i64 f, .int .i64 t] w fun e w' => e = .returned (.bool true) ∧ Below w.heap.size w w' := by
  have hb : -9223372036854775808 ≤ at_ ∧ at_ ≤ 9223372036854775807 := by simpa [Lit.wf, IntKind.min, IntKind.max, IntKind.signed, IntKind.bits] using h1
  have p1 := fun w => place_any s at_ f t w (by omega) hb.2
  have p2 := fun w => placeR_any s at_ f t w (by omega) hb.2
  obtain ⟨r1, r2, hr⟩ : ∃ r1 r2, placeI s at_ f t = (r1, r2) := ⟨_, _, rfl⟩
  rw [hr] at p1 p2
  have P1 := Lib.hid p1
  have P2 := Lib.hid p2
  clear p1 p2 hr h1 h2 h3 hb
  go_enter Try.func4, Try.ntmps4
  go_wp2_with (first
    | (go_at_call 19; refine (head_any _).mono ?_; rintro e w1 ⟨rfl, hb1⟩)
    | (go_at_call 27; refine (P1.out _).mono ?_; rintro e w2 ⟨rfl, hb2⟩)
    | (go_at_call 28; refine (P2.out _).mono ?_; rintro e w3 ⟨rfl, hb3⟩))
  go_ret
  refine ⟨rfl, ?_⟩
  repeat (first | assumption | refine bst ?_ ‹_›)
end Go.Proofs.Ytokbmihjpllgpaa
