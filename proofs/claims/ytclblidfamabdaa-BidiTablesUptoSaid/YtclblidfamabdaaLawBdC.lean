/- The law of classes and mirrored runes. -/
import Derived.Test.YtclblidfamabdaaG11
import Derived.Test.YtclblidfamabdaaBdRc
set_option linter.unusedVariables false
set_option linter.unusedSimpArgs false
namespace Go.Proofs.Ytclblidfamabdaa
open Go.RowKit Go.Shelf Go.Lib Go.BigFrame
attribute [local go_sem] Oper.semAt_some

set_option maxRecDepth 1000000 in
theorem bidiClasses_law (r : Int) (h0 : (Lit.int .i32 r).wf = true) (w : World) :
    Calls Try.prog 3 #[.int .i32 r] w fun e w' => e = .returned (.bool true) ∧ Below w.heap.size w w' := by
  have hr : -2147483648 ≤ r ∧ r ≤ 2147483647 := by simpa [Lit.wf, IntKind.min, IntKind.max, IntKind.signed, IntKind.bits] using h0
  have hm := mir_range r hr.1 hr.2
  have CA := Lib.hid (fun w => class_any r w)
  have CR := Lib.hid (fun w => classR_any r w)
  have MA := Lib.hid (fun w => mirror_any r w)
  have MR := Lib.hid (fun w => mirrorR_any r w)
  obtain ⟨K, hK⟩ : ∃ K, B.cls r = K := ⟨_, rfl⟩
  obtain ⟨M, hM⟩ : ∃ M, B.mir r = M := ⟨_, rfl⟩
  rw [hK] at CA CR
  rw [hM] at MA MR hm
  have w1 : IntKind.i64.wrap r = r := IntWalk.i64_in _ (by omega)
  have w2 : IntKind.i64.wrap M = M := IntWalk.i64_in _ (by omega)
  clear hK hM h0
  go_enter Try.func3, Try.ntmps3
  go_wp2_with (first
    | (go_at_call 12; (with_reducible refine (CA.out _).mono ?_); rintro e wa ⟨rfl, rfl⟩)
    | (go_at_call 13; (with_reducible refine (CR.out _).mono ?_); rintro e wb ⟨rfl, hb1⟩)
    | (go_at_call 14; (with_reducible refine (MA.out _).mono ?_); rintro e wc ⟨rfl, hb2⟩)
    | (go_at_call 15; (with_reducible refine (MR.out _).mono ?_); rintro e wd ⟨rfl, hb3⟩)
    | (go_at_call 16; (with_reducible refine (head_any _).mono ?_); rintro e we ⟨rfl, hb4⟩)
    | fail)
  go_ret
  exact ⟨rfl, bst (bst (bst hb1 hb2) hb3) hb4⟩
set_option maxRecDepth 1000000 in
theorem bidiTables_law (f0 m0 : Int) (h1 : (Lit.int .i64 f0).wf = true) (h2 : (Lit.int .i64 m0).wf = true) (w : World) :
    Calls Try.prog 4 #[.int .i64 f0, .int .i64 m0] w fun e w' => e = .returned (.bool true) ∧ Below w.heap.size w w' := by
  have W1 : Hid (∀ x w, Calls Try.prog 17 #[.int .i64 x, .int .i64 1114368] w fun e w' => e = .returned (.int .i64 (x % 1114368)) ∧ w = w') := Lib.hid (fun x w => within4_any x 1114368 w (by omega) (by omega))
  have CA := Lib.hid (fun r w => class_any r w)
  have CR := Lib.hid (fun r w => classR_any r w)
  have MA := Lib.hid (fun r w => mirror_any r w)
  have MR := Lib.hid (fun r w => mirrorR_any r w)
  obtain ⟨F, hF⟩ : ∃ F : Nat, f0 % 1114368 = (F : Int) := ⟨(f0 % 1114368).toNat, by omega⟩
  obtain ⟨N, hN⟩ : ∃ N : Nat, m0 % 1114368 = (N : Int) := ⟨(m0 % 1114368).toNat, by omega⟩
  have hF2 : F < 1114368 := by omega
  have hN2 : N < 1114368 := by omega
  have W2 : Hid (∀ w, Calls Try.prog 17 #[.int .i64 f0, .int .i64 1114368] w fun e w' => e = .returned (.int .i64 (F : Int)) ∧ w = w') := Lib.hid (fun w => hF ▸ W1.out f0 w)
  have W3 : Hid (∀ w, Calls Try.prog 17 #[.int .i64 m0, .int .i64 1114368] w fun e w' => e = .returned (.int .i64 (N : Int)) ∧ w = w') := Lib.hid (fun w => hN ▸ W1.out m0 w)
  clear hF hN h1 h2 W1
  go_enter Try.func4, Try.ntmps4
  go_wp2_with (first
    | (go_at_call 17; (with_reducible refine (W2.out _).mono ?_); rintro e wa ⟨rfl, rfl⟩)
    | (go_at_call 17; (with_reducible refine (W3.out _).mono ?_); rintro e wa ⟨rfl, rfl⟩)
    | fail)
  go_loopw [5] (fun iv wx => ∃ i : Nat, iv = .int .i64 (i : Int) ∧ i ≤ N ∧ Below w.heap.size w wx) (fun iv _ => N - (RowKit.intOf iv).toNat)
  case atStart => exact ⟨0, rfl, Nat.zero_le _, Below.refl _ _⟩
  case round =>
    obtain ⟨i, rfl, hi, hB⟩ := hrel
    have HB := Lib.hid hB
    clear hB
    by_cases hlt : i < N
    · have C1 := Lib.hid (CA.out ((F : Int) + (i : Int)))
      have C2 := Lib.hid (CR.out ((F : Int) + (i : Int)))
      have C3 := Lib.hid (MA.out ((F : Int) + (i : Int)))
      have C4 := Lib.hid (MR.out ((F : Int) + (i : Int)))
      have hm := mir_range ((F : Int) + (i : Int)) (by omega) (by omega)
      obtain ⟨K, hK⟩ : ∃ K, B.cls ((F : Int) + (i : Int)) = K := ⟨_, rfl⟩
      obtain ⟨M, hM⟩ : ∃ M, B.mir ((F : Int) + (i : Int)) = M := ⟨_, rfl⟩
      rw [hK] at C1 C2
      rw [hM] at C3 C4 hm
      have w1 : IntKind.i32.wrap ((F : Int) + (i : Int)) = (F : Int) + (i : Int) := by unfold IntKind.wrap; simp [IntKind.bits, IntKind.signed]; omega
      have w2 : IntKind.i64.wrap M = M := IntWalk.i64_in _ (by omega)
      clear hK hM
      go_wp2_with (first
        | (go_at_call 12; (with_reducible refine (C1.out _).mono ?_); rintro e wa ⟨rfl, rfl⟩)
        | (go_at_call 13; (with_reducible refine (C2.out _).mono ?_); rintro e wb ⟨rfl, hb1⟩)
        | (go_at_call 14; (with_reducible refine (C3.out _).mono ?_); rintro e wc ⟨rfl, hb2⟩)
        | (go_at_call 15; (with_reducible refine (C4.out _).mono ?_); rintro e wd ⟨rfl, hb3⟩)
        | fail)
      go_roundw
      case rel => exact ⟨i + 1, by go_num, hlt, bst (bst (bst HB.out hb1) hb2) hb3⟩
      case measure => simp [RowKit.intOf]; omega
    · go_wp2_with (go_at_call 16; (with_reducible refine (head_any _).mono ?_); rintro e we ⟨rfl, hb4⟩)
      go_ret
      exact ⟨rfl, bst HB.out hb4⟩
end Go.Proofs.Ytclblidfamabdaa
