/- The law of the cuts. -/
import Derived.Test.YtokbmihjpllgpaaCutsP
set_option linter.unusedVariables false
namespace Go.Proofs.Ytokbmihjpllgpaa
open Go.RowKit Go.Shelf Go.Lib Go.BigFrame
attribute [local go_sem] Oper.semAt_some

set_option maxRecDepth 1000000 in
theorem allR_any (s : ByteArray) (u : Int) (w : World) (hs : s.size ≤ 1048576) (hu : isUnit u = true) :
    Calls Try.prog 57 #[.string s, .int .i64 u] w fun e w' => e = .returned (.int .i64 (total s u : Int)) ∧ Below w.heap.size w w' := by
  have hu' : u = 1 ∨ u = 2 ∨ u = 3 := by unfold isUnit at hu; have := of_decide_eq_true hu; omega
  rcases hu' with rfl | rfl | rfl
  · rw [total_1]
    go_enter Try.func57, Try.ntmps57
    go_wp2
    go_ret
    exact ⟨rfl, Below.refl _ _⟩
  · rw [total_2]
    go_enter Try.func57, Try.ntmps57
    go_wp2_with (go_at_call 24; refine (countR_any _ _ (by omega)).mono ?_; rintro e w1 ⟨rfl, hb1⟩)
    go_ret
    exact ⟨rfl, hb1⟩
  · rw [total_3]
    go_enter Try.func57, Try.ntmps57
    go_wp2_with (go_at_call 26; refine (pairsR_any _ _ (by omega)).mono ?_; rintro e w1 ⟨rfl, hb1⟩)
    go_ret
    exact ⟨rfl, hb1⟩

set_option maxRecDepth 1000000 in
set_option maxHeartbeats 4000000 in
theorem cut_utf (s : ByteArray) (u a b n P1 E1 P2 E2 : Int) (S : ByteArray) (E : Int) (w : World) (hz : s.size ≤ 1048576) (hu : isUnit u = true)
    (h1 : ∀ w, Calls Try.prog 27 #[.string s, .int .i64 a, .int .i64 u, .int .i64 1] w fun e w' => e = .returned (.tuple #[.int .i64 P1, .int .i64 E1]) ∧ Below w.heap.size w w')
    (h2 : ∀ w, Calls Try.prog 27 #[.string s, .int .i64 b, .int .i64 u, .int .i64 1] w fun e w' => e = .returned (.tuple #[.int .i64 P2, .int .i64 E2]) ∧ Below w.heap.size w w')
    (hc : CutOk s a b n P1 E1 P2 E2 S E) :
    Calls Try.prog 44 #[.string s, .int .i64 u, .int .i64 a, .int .i64 b] w fun e w' => e = .returned (.tuple #[.string S, .int .i64 E]) ∧ Below w.heap.size w w' := by
  have HU := Lib.hid hu
  have H1 := Lib.hid h1
  have H2 := Lib.hid h2
  clear hu h1 h2
  unfold CutOk at hc
  rcases hc with ⟨_, rfl, rfl, rfl⟩ | ⟨_, _, rfl | rfl, _, rfl, rfl, rfl⟩ | ⟨_, _, _, _, rfl | rfl, rfl | rfl, hl, rfl, rfl⟩ | ⟨_, _, _, _, hl, rfl, rfl | rfl, rfl, rfl⟩ | ⟨_, _, _, _, hl, rfl, rfl, rfl, rfl⟩ | ⟨_, _, _, _, hl, rfl, rfl, p1, p2, rfl, rfl, hpp, hps, rfl, rfl⟩
  all_goals go_enter Try.func44, Try.ntmps44
  all_goals go_wp2_with (first
    | (go_at_call 53; refine (known_any _ _).mono ?_; rintro e w' ⟨rfl, rfl⟩; rw [HU.out])
    | (go_at_call 27; first
      | ((with_reducible refine (H1.out _).mono ?_); rintro e w1 ⟨rfl, hb1⟩)
      | ((with_reducible refine (H2.out _).mono ?_); rintro e w2 ⟨rfl, hb2⟩)))
  all_goals go_ret2
  all_goals exact ⟨rfl, bst hb1 hb2⟩

set_option maxRecDepth 1000000 in
set_option maxHeartbeats 4000000 in
theorem cut_ref (s : ByteArray) (u a b n P1 E1 P2 E2 : Int) (S : ByteArray) (E : Int) (w : World) (hz : s.size ≤ 1048576) (hu : isUnit u = true)
    (h0 : ∀ w, Calls Try.prog 57 #[.string s, .int .i64 u] w fun e w' => e = .returned (.int .i64 n) ∧ Below w.heap.size w w')
    (h1 : ∀ w, Calls Try.prog 28 #[.string s, .int .i64 a, .int .i64 u, .int .i64 1] w fun e w' => e = .returned (.tuple #[.int .i64 P1, .int .i64 E1]) ∧ Below w.heap.size w w')
    (h2 : ∀ w, Calls Try.prog 28 #[.string s, .int .i64 b, .int .i64 u, .int .i64 1] w fun e w' => e = .returned (.tuple #[.int .i64 P2, .int .i64 E2]) ∧ Below w.heap.size w w')
    (hc : CutOk s a b n P1 E1 P2 E2 S E) :
    Calls Try.prog 45 #[.string s, .int .i64 u, .int .i64 a, .int .i64 b] w fun e w' => e = .returned (.tuple #[.string S, .int .i64 E]) ∧ Below w.heap.size w w' := by
  have HU := Lib.hid hu
  have H0 := Lib.hid h0
  have H1 := Lib.hid h1
  have H2 := Lib.hid h2
  clear hu h1 h2 h0
  unfold CutOk at hc
  have neg : ∀ x y : Int, x ≤ y → ¬ y < x := fun x y h => by omega
  have hc' : ((a < 0) ∧ S = none_ ∧ E = 1) ∨ (¬ a < 0 ∧ n < a ∧ S = none_ ∧ E = 1) ∨ (¬ a < 0 ∧ ¬ n < a ∧ b < 0 ∧ S = none_ ∧ E = 1) ∨ (¬ a < 0 ∧ ¬ n < a ∧ ¬ b < 0 ∧ n < b ∧ S = none_ ∧ E = 1) ∨
      (¬ a < 0 ∧ ¬ n < a ∧ ¬ b < 0 ∧ ¬ n < b ∧ b < a ∧ S = none_ ∧ E = 1) ∨ (¬ a < 0 ∧ ¬ n < a ∧ ¬ b < 0 ∧ ¬ n < b ∧ ¬ b < a ∧ E1 = 21 ∧ S = none_ ∧ E = 21) ∨ (¬ a < 0 ∧ ¬ n < a ∧ ¬ b < 0 ∧ ¬ n < b ∧ ¬ b < a ∧ E1 = 0 ∧ E2 = 21 ∧ S = none_ ∧ E = 21) ∨
      (¬ a < 0 ∧ ¬ n < a ∧ ¬ b < 0 ∧ ¬ n < b ∧ ¬ b < a ∧ E1 = 0 ∧ E2 = 0 ∧ ∃ p1 p2 : Nat, P1 = p1 ∧ P2 = p2 ∧ p1 ≤ p2 ∧ p2 ≤ s.size ∧ S = s.extract p1 p2 ∧ E = 0) := by
    rcases hc with ⟨h, _, q1, q2⟩ | ⟨g1, g2, _, h, _, q1, q2⟩ | ⟨g1, g2, g3, g4, _, _, hl, q1, q2⟩ | ⟨g1, g2, g3, g4, hl, e1, _, q1, q2⟩ | ⟨g1, g2, g3, g4, hl, e1, e2, q1, q2⟩ | ⟨g1, g2, g3, g4, hl, e1, e2, p1, p2, q⟩
    · by_cases ha : a < 0
      · exact .inl ⟨ha, q1, q2⟩
      · exact .inr (.inl ⟨ha, by omega, q1, q2⟩)
    · by_cases hb : b < 0
      · exact .inr (.inr (.inl ⟨by omega, by omega, hb, q1, q2⟩))
      · exact .inr (.inr (.inr (.inl ⟨by omega, by omega, hb, by omega, q1, q2⟩)))
    · exact .inr (.inr (.inr (.inr (.inl ⟨by omega, by omega, by omega, by omega, hl, q1, q2⟩))))
    · exact .inr (.inr (.inr (.inr (.inr (.inl ⟨by omega, by omega, by omega, by omega, hl, e1, q1, q2⟩)))))
    · exact .inr (.inr (.inr (.inr (.inr (.inr (.inl ⟨by omega, by omega, by omega, by omega, hl, e1, e2, q1, q2⟩))))))
    · exact .inr (.inr (.inr (.inr (.inr (.inr (.inr ⟨by omega, by omega, by omega, by omega, hl, e1, e2, p1, p2, q⟩))))))
  clear hc
  rcases hc' with ⟨g1, rfl, rfl⟩ | ⟨g1, g2, rfl, rfl⟩ | ⟨g1, g2, g3, rfl, rfl⟩ | ⟨g1, g2, g3, g4, rfl, rfl⟩ | ⟨g1, g2, g3, g4, g5, rfl, rfl⟩ | ⟨g1, g2, g3, g4, g5, rfl, rfl, rfl⟩ | ⟨g1, g2, g3, g4, g5, rfl, rfl, rfl, rfl⟩ | ⟨g1, g2, g3, g4, g5, rfl, rfl, p1, p2, rfl, rfl, hpp, hps, rfl, rfl⟩
  all_goals go_enter Try.func45, Try.ntmps45
  all_goals go_wp2_with (first
    | (go_at_call 54; refine (unit_any _ _).mono ?_; rintro e w' ⟨rfl, rfl⟩; rw [HU.out])
    | (go_at_call 57; refine (H0.out _).mono ?_; rintro e w0 ⟨rfl, hb0⟩)
    | (go_at_call 28; first
      | ((with_reducible refine (H1.out _).mono ?_); rintro e w1 ⟨rfl, hb1⟩)
      | ((with_reducible refine (H2.out _).mono ?_); rintro e w2 ⟨rfl, hb2⟩)))
  all_goals go_ret2
  all_goals first | exact ⟨rfl, hb0⟩ | exact ⟨rfl, bst hb0 hb1⟩ | exact ⟨rfl, bst (bst hb0 hb1) hb2⟩

set_option maxRecDepth 1000000 in
set_option maxHeartbeats 1000000 in
theorem utfCuts_law (s : ByteArray) (u a b : Int) (hs : s.size ≤ 1048576) (x1 : (Lit.int .i64 u).wf = true) (x2 : (Lit.int .i64 a).wf = true) (x3 : (Lit.int .i64 b).wf = true) (w : World) :
    Calls Try.prog 13 #[.string s, .int .i64 u, .int .i64 a, .int .i64 b] w fun e w' => e = .returned (.bool true) ∧ Below w.heap.size w w' := by
  have y2 : -9223372036854775808 ≤ a ∧ a ≤ 9223372036854775807 := by simpa [Lit.wf, IntKind.min, IntKind.max, IntKind.signed, IntKind.bits] using x2
  have y3 : -9223372036854775808 ≤ b ∧ b ≤ 9223372036854775807 := by simpa [Lit.wf, IntKind.min, IntKind.max, IntKind.signed, IntKind.bits] using x3
  clear x1 x2 x3
  have both : ∃ (S : ByteArray) (E : Int), (∀ w, Calls Try.prog 44 #[.string s, .int .i64 u, .int .i64 a, .int .i64 b] w fun e w' => e = .returned (.tuple #[.string S, .int .i64 E]) ∧ Below w.heap.size w w') ∧
      (∀ w, Calls Try.prog 45 #[.string s, .int .i64 u, .int .i64 a, .int .i64 b] w fun e w' => e = .returned (.tuple #[.string S, .int .i64 E]) ∧ Below w.heap.size w w') := by
    by_cases hu : isUnit u = true
    · obtain ⟨S, E, hc⟩ := cutOk_is s u a b hu
      exact ⟨S, E, fun w => cut_utf s u a b _ _ _ _ _ S E w hs hu (fun w => place_any s a u 1 w (by omega) y2.2) (fun w => place_any s b u 1 w (by omega) y3.2) hc,
        fun w => cut_ref s u a b _ _ _ _ _ S E w hs hu (fun w => allR_any s u w hs hu) (fun w => placeR_any s a u 1 w (by omega) y2.2) (fun w => placeR_any s b u 1 w (by omega) y3.2) hc⟩
    · have HU := Lib.hid (Bool.eq_false_iff.2 hu)
      clear hu
      refine ⟨none_, 5, fun w => ?_, fun w => ?_⟩
      · go_enter Try.func44, Try.ntmps44
        go_wp2_with (go_at_call 53; refine (known_any _ _).mono ?_; rintro e w' ⟨rfl, rfl⟩; rw [HU.out])
        go_ret2
        exact ⟨rfl, Below.refl _ _⟩
      · go_enter Try.func45, Try.ntmps45
        go_wp2_with (go_at_call 54; refine (unit_any _ _).mono ?_; rintro e w' ⟨rfl, rfl⟩; rw [HU.out])
        go_ret2
        exact ⟨rfl, Below.refl _ _⟩
  obtain ⟨S, E, p1, p2⟩ := both
  have P1 := Lib.hid p1
  have P2 := Lib.hid p2
  clear p1 p2 y2 y3
  go_enter Try.func13, Try.ntmps13
  go_wp2_with (first
    | (go_at_call 19; refine (head_any _).mono ?_; rintro e w1 ⟨rfl, hb1⟩)
    | (go_at_call 44; refine (P1.out _).mono ?_; rintro e w2 ⟨rfl, hb2⟩)
    | (go_at_call 45; refine (P2.out _).mono ?_; rintro e w3 ⟨rfl, hb3⟩))
  go_ret
  refine ⟨rfl, ?_⟩
  repeat (first | assumption | refine bst ?_ ‹_›)
end Go.Proofs.Ytokbmihjpllgpaa
