/- The law of the ways back. -/
import Derived.Test.YtokbmihjpllgpaaBackP
import Derived.Test.YtokbmihjpllgpaaLawCuts
set_option linter.unusedVariables false
namespace Go.Proofs.Ytokbmihjpllgpaa
open Go.RowKit Go.Shelf Go.Lib Go.BigFrame
attribute [local go_sem] Oper.semAt_some

set_option maxRecDepth 1000000 in
/-- The law's size of a text. -/
theorem sizeL_any (s : ByteArray) (u : Int) (w : World) (hs : s.size ≤ 1048576) (hu : isUnit u = true) :
    Calls Try.prog 32 #[.string s, .int .i64 u] w fun e w' => e = .returned (.int .i64 (total s u : Int)) ∧ Below w.heap.size w w' := by
  have hu' : u = 1 ∨ u = 2 ∨ u = 3 := by unfold isUnit at hu; have := of_decide_eq_true hu; omega
  rcases hu' with rfl | rfl | rfl
  · rw [total_1]
    go_enter Try.func32, Try.ntmps32
    go_wp2
    go_ret
    exact ⟨rfl, Below.refl _ _⟩
  · rw [total_2]
    go_enter Try.func32, Try.ntmps32
    go_wp2_with (go_at_call 23; refine (count_any _ _ (by omega)).mono ?_; rintro e w1 ⟨rfl, hb1⟩)
    go_ret
    exact ⟨rfl, hb1⟩
  · rw [total_3]
    go_enter Try.func32, Try.ntmps32
    go_wp2_with (go_at_call 25; refine (pairs_utf _ _ (by omega)).mono ?_; rintro e w1 ⟨rfl, hb1⟩)
    go_ret
    exact ⟨rfl, hb1⟩

theorem total_le (s : ByteArray) (x : Nat) (h : x < 3) : total s (1 + (x : Int)) = U.usum (1 + x) (U.toks s.data.toList) ∧ U.usum (1 + x) (U.toks s.data.toList) ≤ 4 * s.size := by
  refine ⟨by rw [total, show (1 + (x : Int)).toNat = 1 + x by omega], ?_⟩
  have := us_le (1 + x) (U.signs s.data.toList) (signs_len4 _)
  rw [us, tk_signs] at this
  have := signs_len_le s
  omega

theorem place_eq (s : ByteArray) (a x y : Nat) (hx : x < 3) (hy : y < 3) : placeI s (a : Int) (1 + (x : Int)) (1 + (y : Int)) = U.place (1 + x) (1 + y) a (U.toks s.data.toList) :=
  placeI_main s a (1 + x) (1 + y) (by omega) (by omega)

/-- What a call of Place answers. -/
abbrev PlC (s : ByteArray) (a f t p e : Int) : Prop := ∀ w, Calls Try.prog 27 #[.string s, .int .i64 a, .int .i64 f, .int .i64 t] w fun r w' => r = .returned (.tuple #[.int .i64 p, .int .i64 e]) ∧ Below w.heap.size w w'
theorem plC (s : ByteArray) (a f t : Int) (p e : Nat) (hs : s.size ≤ 1048576) (ha : a ≤ 9223372036854775807) (h : placeI s a f t = (p, e)) : PlC s a f t p e := fun w => by
  have := place_any s a f t w (by omega) ha
  rw [h] at this
  exact this
/-- What the law's loop asks of the first signs. -/
theorem loop_facts (s : ByteArray) (hs : s.size ≤ 1048576) (i : Nat) (x : U.Sg) (hx : (U.signs s.data.toList)[i]? = some x) (hi : i ≤ 4194304) : ∃ u : Nat, PlC s (i : Int) 2 1 (x.at_ : Int) 0 ∧ PlC s (i : Int) 2 3 (u : Int) 0 ∧ PlC s (u : Int) 3 1 (x.at_ : Int) 0 ∧ u ≤ 4 * s.size := by
  have hf := U.fit_toks s.data.toList
  have ha := U.put_at_take (U.toks s.data.toList) 0 i x hx
  rw [Nat.zero_add] at ha
  have hil : i ≤ (U.toks s.data.toList).length := by
    have := (List.getElem?_eq_some_iff.1 hx).1
    rw [toks_signs]
    omega
  have e2 : U.usum 2 ((U.toks s.data.toList).take i) = i := by rw [U.usum_two, List.length_take, Nat.min_eq_left hil]
  have p1 := U.place_take 2 1 i _ hf
  have p2 := U.place_take 2 3 i _ hf
  have p3 := U.place_take 3 1 i _ hf
  rw [e2] at p1 p2
  rw [← ha] at p1 p3
  have hu : U.usum 3 ((U.toks s.data.toList).take i) ≤ 4 * s.size := by
    have h1 : U.usum 3 ((U.toks s.data.toList).take i) ≤ U.usum 3 (U.toks s.data.toList) := by
      conv => rhs; rw [← List.take_append_drop i (U.toks s.data.toList), U.usum_append]
      omega
    have h2 := us_le 3 (U.signs s.data.toList) (signs_len4 _)
    rw [us, tk_signs] at h2
    have := signs_len_le s
    omega
  refine ⟨_, plC s _ _ _ _ _ hs (by omega) ?_, plC s _ _ _ _ _ hs (by omega) ?_, plC s _ _ _ _ _ hs (by omega) ?_, hu⟩
  · exact (placeI_main s i 2 1 (by omega) (by omega)).trans p1
  · exact (placeI_main s i 2 3 (by omega) (by omega)).trans p2
  · exact (placeI_main s _ 3 1 (by omega) (by omega)).trans p3

set_option maxRecDepth 1000000 in
set_option maxHeartbeats 8000000 in
theorem utfBack_law (s : ByteArray) (at_ f t : Int) (hs : s.size ≤ 1048576) (h1 : (Lit.int .i64 at_).wf = true) (h2 : (Lit.int .i64 f).wf = true) (h3 : (Lit.int .i64 t).wf = true) (w : World) :
    Calls Try.prog 6 #[.string s, .int .i64 at_, .int .i64 f, .int .i64 t] w fun e w' => e = .returned (.bool true) ∧ Below w.heap.size w w' := by
  obtain ⟨x, hx, hx3⟩ : ∃ x : Nat, f % 3 = x ∧ x < 3 := ⟨(f % 3).toNat, by omega, by omega⟩
  obtain ⟨y, hy, hy3⟩ : ∃ y : Nat, t % 3 = y ∧ y < 3 := ⟨(t % 3).toNat, by omega, by omega⟩
  have wf : ∀ w, Calls Try.prog 31 #[.int .i64 f, .int .i64 3] w fun e w' => e = .returned (.int .i64 (x : Int)) ∧ w = w' := fun w => by
    have := within_any f 3 w (by omega) (by omega); rw [show f % ((3 : Nat) : Int) = x from hx] at this; exact this
  have wt : ∀ w, Calls Try.prog 31 #[.int .i64 t, .int .i64 3] w fun e w' => e = .returned (.int .i64 (y : Int)) ∧ w = w' := fun w => by
    have := within_any t 3 w (by omega) (by omega); rw [show t % ((3 : Nat) : Int) = y from hy] at this; exact this
  have ux : isUnit (1 + (x : Int)) = true := decide_eq_true (by omega)
  have uy : isUnit (1 + (y : Int)) = true := decide_eq_true (by omega)
  have s1 := fun w => sizeL_any s (1 + (x : Int)) w hs ux
  have s2 := fun w => sizeL_any s (1 + (y : Int)) w hs uy
  obtain ⟨t1, t2⟩ := total_le s x hx3
  obtain ⟨t3, t4⟩ := total_le s y hy3
  rw [t1] at s1
  rw [t3] at s2
  have hf := U.fit_toks s.data.toList
  have pend : U.place (1 + x) (1 + y) (U.usum (1 + x) (U.toks s.data.toList)) (U.toks s.data.toList) = (U.usum (1 + y) (U.toks s.data.toList), 0) := by
    have := U.place_pre (1 + x) (1 + y) (U.toks s.data.toList) [] hf; rwa [List.append_nil] at this
  have pzero : U.place (1 + x) (1 + y) 0 (U.toks s.data.toList) = (0, 0) := U.place_pre (1 + x) (1 + y) [] (U.toks s.data.toList) (fun _ h => by cases h)
  have hback := fun a => U.back_facts (1 + x) (1 + y) a (U.toks s.data.toList) hf
  obtain ⟨N, hN⟩ : ∃ N, U.usum (1 + x) (U.toks s.data.toList) = N := ⟨_, rfl⟩
  obtain ⟨M, hM⟩ : ∃ M, U.usum (1 + y) (U.toks s.data.toList) = M := ⟨_, rfl⟩
  rw [hN] at s1 t2 pend hback
  rw [hM] at s2 t4 pend hback
  obtain ⟨a, ha, haN⟩ : ∃ a : Nat, at_ % ((N : Int) + 1) = a ∧ a ≤ N := ⟨(at_ % ((N : Int) + 1)).toNat, by
    have := Int.emod_nonneg at_ (show (N : Int) + 1 ≠ 0 by omega); omega, by
    have := Int.emod_lt_of_pos at_ (show 0 < (N : Int) + 1 by omega); have := Int.emod_nonneg at_ (show (N : Int) + 1 ≠ 0 by omega); omega⟩
  have wa : ∀ w, Calls Try.prog 31 #[.int .i64 at_, .int .i64 ((N : Int) + 1)] w fun e w' => e = .returned (.int .i64 (a : Int)) ∧ w = w' := fun w => by
    have := within_any at_ (N + 1) w (by omega) (by omega); rw [show at_ % ((N + 1 : Nat) : Int) = a from ha] at this; exact this
  have c4 : PlC s (N : Int) (1 + (x : Int)) (1 + (y : Int)) (M : Int) 0 := plC s _ _ _ _ _ hs (by omega) ((place_eq s N x y hx3 hy3).trans pend)
  have c5 : PlC s 0 (1 + (x : Int)) (1 + (y : Int)) 0 0 := plC s _ _ _ 0 0 hs (by omega) ((place_eq s 0 x y hx3 hy3).trans pzero)
  have hb := hback a haN
  have LF := Lib.hid (loop_facts s hs)
  have hll := signs_len_le s
  have ALL := Lib.hid (fun w => all_any s w (by omega))
  obtain ⟨l, hl⟩ : ∃ l, U.signs s.data.toList = l := ⟨_, rfl⟩
  rw [hl] at LF hll ALL
  have WF := Lib.hid wf
  have WT := Lib.hid wt
  have WA := Lib.hid wa
  have S1 := Lib.hid s1
  have S2 := Lib.hid s2
  have C4 := Lib.hid c4
  have C5 := Lib.hid c5
  have PE := Lib.hid (place_eq s)
  clear wf wt wa s1 s2 c4 c5 ux uy t1 t3 hf pzero hback hN hM ha hx hy h1 h2 h3 hl
  rcases hb with ⟨e1, hne⟩ | ⟨th, e1, hth, e2, ⟨q1, q2⟩ | ⟨q1, q2⟩ | ⟨nx, q1, q2, q3⟩⟩
  · have C1 := Lib.hid (plC s (a : Int) (1 + (x : Int)) (1 + (y : Int)) 0 21 hs (by omega) ((PE.out a x y hx3 hy3).trans e1))
    have hne' : ¬ (1 + (x : Int)) = 2 := by omega
    clear PE e1 hne pend
    go_enter Try.func6, Try.ntmps6
    go_wp2_with (first
      | (go_at_call 31; first | ((with_reducible refine (WF.out _).mono ?_); rintro e w' ⟨rfl, rfl⟩) | ((with_reducible refine (WT.out _).mono ?_); rintro e w' ⟨rfl, rfl⟩) | ((with_reducible refine (WA.out _).mono ?_); rintro e w' ⟨rfl, rfl⟩))
      | (go_at_call 32; first | ((with_reducible refine (S1.out _).mono ?_); rintro e w1 ⟨rfl, hb1⟩) | ((with_reducible refine (S2.out _).mono ?_); rintro e w2 ⟨rfl, hb2⟩))
      | (go_at_call 27; first | ((with_reducible refine (C1.out _).mono ?_); rintro e w3 ⟨rfl, hb3⟩) | ((with_reducible refine (C2.out _).mono ?_); rintro e w4 ⟨rfl, hb4⟩) | ((with_reducible refine (C3.out _).mono ?_); rintro e w5 ⟨rfl, hb5⟩) | ((with_reducible refine (C4.out _).mono ?_); rintro e w6 ⟨rfl, hb6⟩) | ((with_reducible refine (C5.out _).mono ?_); rintro e w7 ⟨rfl, hb7⟩))
      | (go_at_call 21; refine (ALL.out _).mono ?_; rintro e w8 ⟨v8, rfl, hb8, hrow⟩; obtain ⟨A, cp, rfl, hA⟩ := own_form hrow))
    have hB0 : Below w.heap.size w w8 := by repeat (first | assumption | refine bst ?_ ‹_›)
    have hB0' := Lib.hid hB0
    clear hB0
    try clear C1
    try clear C2
    try clear C3
    clear C4 C5 WF WT WA S1 S2
    go_loopw [21] (fun i wr => ∃ k : Nat, i = .int .i64 (k : Int) ∧ k ≤ l.length ∧ k ≤ 50 ∧ Below w.heap.size w wr ∧ Below w8.heap.size w8 wr) (fun i _ => l.length - (intOf i).toNat)
    case atStart => exact ⟨0, rfl, Nat.zero_le _, by omega, hB0'.out, Below.refl _ _⟩
    case round =>
      obtain ⟨k, rfl, hk, hk50, hB, hB8⟩ := hrel
      by_cases hlt : k < l.length
      · by_cases h50 : k < 50
        · obtain ⟨g, rfl⟩ := hA (by omega)
          obtain ⟨z, hz⟩ : ∃ s, l[k]? = some s := ⟨_, List.getElem?_eq_getElem hlt⟩
          have CS := Lib.hid (fun (wq : World) (hq : Below w8.heap.size w8 wq) => cellsS_at (own_below hrow hq) hz)
          obtain ⟨u, p1, p2, p3, hul⟩ := LF.out k z hz (by omega)
          have Q1 := Lib.hid p1
          have Q2 := Lib.hid p2
          have Q3 := Lib.hid p3
          clear p1 p2 p3 hz hrow hA
          go_wp2_with (go_at_call 27; first | ((with_reducible refine (Q1.out _).mono ?_); rintro e w10 ⟨rfl, hb10⟩) | ((with_reducible refine (Q2.out _).mono ?_); rintro e w11 ⟨rfl, hb11⟩) | ((with_reducible refine (Q3.out _).mono ?_); rintro e w12 ⟨rfl, hb12⟩; obtain ⟨d0, d1, d2, d3⟩ := CS.out _ (bst (bst (bst hB8 hb10) hb11) hb12)))
          go_roundw
          case rel => exact ⟨k + 1, by go_num, hlt, h50, bst (bst (bst hB hb10) hb11) hb12, bst (bst (bst hB8 hb10) hb11) hb12⟩
          case measure => simp [intOf]; omega
        · go_wp2_with (go_at_call 19; refine (head_any _).mono ?_; rintro e w13 ⟨rfl, hb13⟩)
          go_ret
          exact ⟨rfl, bst hB hb13⟩
      · go_wp2_with (go_at_call 19; refine (head_any _).mono ?_; rintro e w13 ⟨rfl, hb13⟩)
        go_ret
        exact ⟨rfl, bst hB hb13⟩
  all_goals have C1 := Lib.hid (plC s (a : Int) (1 + (x : Int)) (1 + (y : Int)) th 0 hs (by omega) ((PE.out a x y hx3 hy3).trans e1))
  all_goals have C2 := Lib.hid (plC s (th : Int) (1 + (y : Int)) (1 + (x : Int)) a 0 hs (by omega) ((PE.out th y x hy3 hx3).trans e2))
  · have C3 := Lib.hid (plC s ((a : Int) + 1) (1 + (x : Int)) (1 + (y : Int)) 0 1 hs (by omega) ((PE.out (a + 1) x y hx3 hy3).trans q2))
    subst q1
    rw [e1] at pend
    obtain rfl := (Prod.mk.inj pend).1
    clear PE e1 e2 q2 pend
    go_enter Try.func6, Try.ntmps6
    go_wp2_with (first
      | (go_at_call 31; first | ((with_reducible refine (WF.out _).mono ?_); rintro e w' ⟨rfl, rfl⟩) | ((with_reducible refine (WT.out _).mono ?_); rintro e w' ⟨rfl, rfl⟩) | ((with_reducible refine (WA.out _).mono ?_); rintro e w' ⟨rfl, rfl⟩))
      | (go_at_call 32; first | ((with_reducible refine (S1.out _).mono ?_); rintro e w1 ⟨rfl, hb1⟩) | ((with_reducible refine (S2.out _).mono ?_); rintro e w2 ⟨rfl, hb2⟩))
      | (go_at_call 27; first | ((with_reducible refine (C1.out _).mono ?_); rintro e w3 ⟨rfl, hb3⟩) | ((with_reducible refine (C2.out _).mono ?_); rintro e w4 ⟨rfl, hb4⟩) | ((with_reducible refine (C3.out _).mono ?_); rintro e w5 ⟨rfl, hb5⟩) | ((with_reducible refine (C4.out _).mono ?_); rintro e w6 ⟨rfl, hb6⟩) | ((with_reducible refine (C5.out _).mono ?_); rintro e w7 ⟨rfl, hb7⟩))
      | (go_at_call 21; refine (ALL.out _).mono ?_; rintro e w8 ⟨v8, rfl, hb8, hrow⟩; obtain ⟨A, cp, rfl, hA⟩ := own_form hrow))
    have hB0 : Below w.heap.size w w8 := by repeat (first | assumption | refine bst ?_ ‹_›)
    have hB0' := Lib.hid hB0
    clear hB0
    try clear C1
    try clear C2
    try clear C3
    clear C4 C5 WF WT WA S1 S2
    go_loopw [21] (fun i wr => ∃ k : Nat, i = .int .i64 (k : Int) ∧ k ≤ l.length ∧ k ≤ 50 ∧ Below w.heap.size w wr ∧ Below w8.heap.size w8 wr) (fun i _ => l.length - (intOf i).toNat)
    case atStart => exact ⟨0, rfl, Nat.zero_le _, by omega, hB0'.out, Below.refl _ _⟩
    case round =>
      obtain ⟨k, rfl, hk, hk50, hB, hB8⟩ := hrel
      by_cases hlt : k < l.length
      · by_cases h50 : k < 50
        · obtain ⟨g, rfl⟩ := hA (by omega)
          obtain ⟨z, hz⟩ : ∃ s, l[k]? = some s := ⟨_, List.getElem?_eq_getElem hlt⟩
          have CS := Lib.hid (fun (wq : World) (hq : Below w8.heap.size w8 wq) => cellsS_at (own_below hrow hq) hz)
          obtain ⟨u, p1, p2, p3, hul⟩ := LF.out k z hz (by omega)
          have Q1 := Lib.hid p1
          have Q2 := Lib.hid p2
          have Q3 := Lib.hid p3
          clear p1 p2 p3 hz hrow hA
          go_wp2_with (go_at_call 27; first | ((with_reducible refine (Q1.out _).mono ?_); rintro e w10 ⟨rfl, hb10⟩) | ((with_reducible refine (Q2.out _).mono ?_); rintro e w11 ⟨rfl, hb11⟩) | ((with_reducible refine (Q3.out _).mono ?_); rintro e w12 ⟨rfl, hb12⟩; obtain ⟨d0, d1, d2, d3⟩ := CS.out _ (bst (bst (bst hB8 hb10) hb11) hb12)))
          go_roundw
          case rel => exact ⟨k + 1, by go_num, hlt, h50, bst (bst (bst hB hb10) hb11) hb12, bst (bst (bst hB8 hb10) hb11) hb12⟩
          case measure => simp [intOf]; omega
        · go_wp2_with (go_at_call 19; refine (head_any _).mono ?_; rintro e w13 ⟨rfl, hb13⟩)
          go_ret
          exact ⟨rfl, bst hB hb13⟩
      · go_wp2_with (go_at_call 19; refine (head_any _).mono ?_; rintro e w13 ⟨rfl, hb13⟩)
        go_ret
        exact ⟨rfl, bst hB hb13⟩
  · have C3 := Lib.hid (plC s ((a : Int) + 1) (1 + (x : Int)) (1 + (y : Int)) 0 21 hs (by omega) ((PE.out (a + 1) x y hx3 hy3).trans q2))
    have q1' : (a : Int) < (N : Int) := by omega
    have q1'' : ¬ (a : Int) = (N : Int) := by omega
    clear PE e1 e2 q2 pend
    go_enter Try.func6, Try.ntmps6
    go_wp2_with (first
      | (go_at_call 31; first | ((with_reducible refine (WF.out _).mono ?_); rintro e w' ⟨rfl, rfl⟩) | ((with_reducible refine (WT.out _).mono ?_); rintro e w' ⟨rfl, rfl⟩) | ((with_reducible refine (WA.out _).mono ?_); rintro e w' ⟨rfl, rfl⟩))
      | (go_at_call 32; first | ((with_reducible refine (S1.out _).mono ?_); rintro e w1 ⟨rfl, hb1⟩) | ((with_reducible refine (S2.out _).mono ?_); rintro e w2 ⟨rfl, hb2⟩))
      | (go_at_call 27; first | ((with_reducible refine (C1.out _).mono ?_); rintro e w3 ⟨rfl, hb3⟩) | ((with_reducible refine (C2.out _).mono ?_); rintro e w4 ⟨rfl, hb4⟩) | ((with_reducible refine (C3.out _).mono ?_); rintro e w5 ⟨rfl, hb5⟩) | ((with_reducible refine (C4.out _).mono ?_); rintro e w6 ⟨rfl, hb6⟩) | ((with_reducible refine (C5.out _).mono ?_); rintro e w7 ⟨rfl, hb7⟩))
      | (go_at_call 21; refine (ALL.out _).mono ?_; rintro e w8 ⟨v8, rfl, hb8, hrow⟩; obtain ⟨A, cp, rfl, hA⟩ := own_form hrow))
    have hB0 : Below w.heap.size w w8 := by repeat (first | assumption | refine bst ?_ ‹_›)
    have hB0' := Lib.hid hB0
    clear hB0
    try clear C1
    try clear C2
    try clear C3
    clear C4 C5 WF WT WA S1 S2
    go_loopw [21] (fun i wr => ∃ k : Nat, i = .int .i64 (k : Int) ∧ k ≤ l.length ∧ k ≤ 50 ∧ Below w.heap.size w wr ∧ Below w8.heap.size w8 wr) (fun i _ => l.length - (intOf i).toNat)
    case atStart => exact ⟨0, rfl, Nat.zero_le _, by omega, hB0'.out, Below.refl _ _⟩
    case round =>
      obtain ⟨k, rfl, hk, hk50, hB, hB8⟩ := hrel
      by_cases hlt : k < l.length
      · by_cases h50 : k < 50
        · obtain ⟨g, rfl⟩ := hA (by omega)
          obtain ⟨z, hz⟩ : ∃ s, l[k]? = some s := ⟨_, List.getElem?_eq_getElem hlt⟩
          have CS := Lib.hid (fun (wq : World) (hq : Below w8.heap.size w8 wq) => cellsS_at (own_below hrow hq) hz)
          obtain ⟨u, p1, p2, p3, hul⟩ := LF.out k z hz (by omega)
          have Q1 := Lib.hid p1
          have Q2 := Lib.hid p2
          have Q3 := Lib.hid p3
          clear p1 p2 p3 hz hrow hA
          go_wp2_with (go_at_call 27; first | ((with_reducible refine (Q1.out _).mono ?_); rintro e w10 ⟨rfl, hb10⟩) | ((with_reducible refine (Q2.out _).mono ?_); rintro e w11 ⟨rfl, hb11⟩) | ((with_reducible refine (Q3.out _).mono ?_); rintro e w12 ⟨rfl, hb12⟩; obtain ⟨d0, d1, d2, d3⟩ := CS.out _ (bst (bst (bst hB8 hb10) hb11) hb12)))
          go_roundw
          case rel => exact ⟨k + 1, by go_num, hlt, h50, bst (bst (bst hB hb10) hb11) hb12, bst (bst (bst hB8 hb10) hb11) hb12⟩
          case measure => simp [intOf]; omega
        · go_wp2_with (go_at_call 19; refine (head_any _).mono ?_; rintro e w13 ⟨rfl, hb13⟩)
          go_ret
          exact ⟨rfl, bst hB hb13⟩
      · go_wp2_with (go_at_call 19; refine (head_any _).mono ?_; rintro e w13 ⟨rfl, hb13⟩)
        go_ret
        exact ⟨rfl, bst hB hb13⟩
  · have C3 := Lib.hid (plC s ((a : Int) + 1) (1 + (x : Int)) (1 + (y : Int)) nx 0 hs (by omega) ((PE.out (a + 1) x y hx3 hy3).trans q2))
    have q1' : (a : Int) < (N : Int) := by omega
    have q1'' : ¬ (a : Int) = (N : Int) := by omega
    have q3' : ¬ (nx : Int) ≤ (th : Int) := by omega
    clear PE e1 e2 q2 pend
    go_enter Try.func6, Try.ntmps6
    go_wp2_with (first
      | (go_at_call 31; first | ((with_reducible refine (WF.out _).mono ?_); rintro e w' ⟨rfl, rfl⟩) | ((with_reducible refine (WT.out _).mono ?_); rintro e w' ⟨rfl, rfl⟩) | ((with_reducible refine (WA.out _).mono ?_); rintro e w' ⟨rfl, rfl⟩))
      | (go_at_call 32; first | ((with_reducible refine (S1.out _).mono ?_); rintro e w1 ⟨rfl, hb1⟩) | ((with_reducible refine (S2.out _).mono ?_); rintro e w2 ⟨rfl, hb2⟩))
      | (go_at_call 27; first | ((with_reducible refine (C1.out _).mono ?_); rintro e w3 ⟨rfl, hb3⟩) | ((with_reducible refine (C2.out _).mono ?_); rintro e w4 ⟨rfl, hb4⟩) | ((with_reducible refine (C3.out _).mono ?_); rintro e w5 ⟨rfl, hb5⟩) | ((with_reducible refine (C4.out _).mono ?_); rintro e w6 ⟨rfl, hb6⟩) | ((with_reducible refine (C5.out _).mono ?_); rintro e w7 ⟨rfl, hb7⟩))
      | (go_at_call 21; refine (ALL.out _).mono ?_; rintro e w8 ⟨v8, rfl, hb8, hrow⟩; obtain ⟨A, cp, rfl, hA⟩ := own_form hrow))
    have hB0 : Below w.heap.size w w8 := by repeat (first | assumption | refine bst ?_ ‹_›)
    have hB0' := Lib.hid hB0
    clear hB0
    try clear C1
    try clear C2
    try clear C3
    clear C4 C5 WF WT WA S1 S2
    go_loopw [21] (fun i wr => ∃ k : Nat, i = .int .i64 (k : Int) ∧ k ≤ l.length ∧ k ≤ 50 ∧ Below w.heap.size w wr ∧ Below w8.heap.size w8 wr) (fun i _ => l.length - (intOf i).toNat)
    case atStart => exact ⟨0, rfl, Nat.zero_le _, by omega, hB0'.out, Below.refl _ _⟩
    case round =>
      obtain ⟨k, rfl, hk, hk50, hB, hB8⟩ := hrel
      by_cases hlt : k < l.length
      · by_cases h50 : k < 50
        · obtain ⟨g, rfl⟩ := hA (by omega)
          obtain ⟨z, hz⟩ : ∃ s, l[k]? = some s := ⟨_, List.getElem?_eq_getElem hlt⟩
          have CS := Lib.hid (fun (wq : World) (hq : Below w8.heap.size w8 wq) => cellsS_at (own_below hrow hq) hz)
          obtain ⟨u, p1, p2, p3, hul⟩ := LF.out k z hz (by omega)
          have Q1 := Lib.hid p1
          have Q2 := Lib.hid p2
          have Q3 := Lib.hid p3
          clear p1 p2 p3 hz hrow hA
          go_wp2_with (go_at_call 27; first | ((with_reducible refine (Q1.out _).mono ?_); rintro e w10 ⟨rfl, hb10⟩) | ((with_reducible refine (Q2.out _).mono ?_); rintro e w11 ⟨rfl, hb11⟩) | ((with_reducible refine (Q3.out _).mono ?_); rintro e w12 ⟨rfl, hb12⟩; obtain ⟨d0, d1, d2, d3⟩ := CS.out _ (bst (bst (bst hB8 hb10) hb11) hb12)))
          go_roundw
          case rel => exact ⟨k + 1, by go_num, hlt, h50, bst (bst (bst hB hb10) hb11) hb12, bst (bst (bst hB8 hb10) hb11) hb12⟩
          case measure => simp [intOf]; omega
        · go_wp2_with (go_at_call 19; refine (head_any _).mono ?_; rintro e w13 ⟨rfl, hb13⟩)
          go_ret
          exact ⟨rfl, bst hB hb13⟩
      · go_wp2_with (go_at_call 19; refine (head_any _).mono ?_; rintro e w13 ⟨rfl, hb13⟩)
        go_ret
        exact ⟨rfl, bst hB hb13⟩
end Go.Proofs.Ytokbmihjpllgpaa
