/- The law of the cuts of cuts: the walk. -/
import Derived.Test.YtokbmihjpllgpaaLawCutOf
set_option linter.unusedVariables false
namespace Go.Proofs.Ytokbmihjpllgpaa
open Go.RowKit Go.Shelf Go.Lib Go.BigFrame
attribute [local go_sem] Oper.semAt_some

/-- What a call of 'within' answers. -/
abbrev WiC (a n : Int) (r : Nat) : Prop := ∀ w, Calls Try.prog 31 #[.int .i64 a, .int .i64 n] w fun e w' => e = .returned (.int .i64 (r : Int)) ∧ w = w'
theorem wiC (a : Int) (n : Nat) (hn : n ≤ 9223372036854775806) : ∃ r : Nat, r ≤ n ∧ ∀ k : Int, k = (n : Int) + 1 → WiC a k r := by
  have h1 := Int.emod_nonneg a (show ((n + 1 : Nat) : Int) ≠ 0 by omega)
  have h2 := Int.emod_lt_of_pos a (show 0 < ((n + 1 : Nat) : Int) by omega)
  refine ⟨(a % ((n + 1 : Nat) : Int)).toNat, by omega, fun k hk w => ?_⟩
  have := within_any a (n + 1) w (by omega) (by omega)
  rw [show k = ((n + 1 : Nat) : Int) by omega, show (((a % ((n + 1 : Nat) : Int)).toNat : Nat) : Int) = a % ((n + 1 : Nat) : Int) by omega]
  exact this

set_option maxRecDepth 1000000 in
set_option maxHeartbeats 8000000 in
theorem utfCutOf_law (s : ByteArray) (u a_ b_ c_ d_ : Int) (hs : s.size ≤ 1048576) (h1 : (Lit.int .i64 u).wf = true) (h2 : (Lit.int .i64 a_).wf = true) (h3 : (Lit.int .i64 b_).wf = true) (h4 : (Lit.int .i64 c_).wf = true) (h5 : (Lit.int .i64 d_).wf = true) (w : World) :
    Calls Try.prog 14 #[.string s, .int .i64 u, .int .i64 a_, .int .i64 b_, .int .i64 c_, .int .i64 d_] w fun e w' => e = .returned (.bool true) ∧ Below w.heap.size w w' := by
  clear h1 h2 h3 h4 h5
  obtain ⟨x, hx, wu0⟩ := wiC u 2 (by omega)
  have wu : WiC u 3 x := wu0 3 rfl
  have hx3 : x < 3 := by omega
  have ux : isUnit (1 + (x : Int)) = true := decide_eq_true (by omega)
  have s1 := fun w => sizeL_any s (1 + (x : Int)) w hs ux
  obtain ⟨t1, t2⟩ := total_le s x hx3
  rw [t1] at s1
  have hfacts := cutOf_facts s x
  obtain ⟨N, hN⟩ : ∃ N, U.usum (1 + x) (U.toks s.data.toList) = N := ⟨_, rfl⟩
  rw [hN] at s1 t2 hfacts
  obtain ⟨a, ha, wa0⟩ := wiC a_ N (by omega)
  have wa : WiC a_ ((N : Int) + 1) a := wa0 _ rfl
  obtain ⟨b0, hb0, wb0⟩ := wiC b_ (N - a) (by omega)
  have wb : WiC b_ ((N : Int) - (a : Int) + 1) b0 := wb0 _ (by omega)
  have hf := hfacts a b0 hs hx3 (by omega)
  have WU := Lib.hid wu
  have WA := Lib.hid wa
  have WB := Lib.hid wb
  have S1 := Lib.hid s1
  have US := Lib.hid ux
  clear wu wa wb s1 wu0 wa0 wb0 hfacts t1 hN ux hx
  rcases hf with ⟨c1, hx1⟩ | ⟨p, f, r, c1, hps, htp, hcd, cf, cr, hfpr, m1, m2⟩
  · have C1 : Hid (CutC s (1 + (x : Int)) (a : Int) ((a : Int) + (b0 : Int)) none_ 21) := Lib.hid c1
    have hx1' : ¬ (1 + (x : Int)) = 2 := by omega
    have hnl : none_.toList = [] := by rw [ByteArray.toList_eq]; rfl
    clear c1 hx1
    go_enter Try.func14, Try.ntmps14
    go_wp2_with (first
      | (go_at_call 19; refine (head_any _).mono ?_; rintro e w1 ⟨rfl, hb1⟩)
      | (go_at_call 31; first | ((with_reducible refine (WU.out _).mono ?_); rintro e w' ⟨rfl, rfl⟩) | ((with_reducible refine (WA.out _).mono ?_); rintro e w' ⟨rfl, rfl⟩) | ((with_reducible refine (WB.out _).mono ?_); rintro e w' ⟨rfl, rfl⟩))
      | (go_at_call 32; ((with_reducible refine (S1.out _).mono ?_); rintro e w2 ⟨rfl, hb2⟩))
      | (go_at_call 44; ((with_reducible refine (C1.out _).mono ?_); rintro e w3 ⟨rfl, hb3⟩)))
    go_ret
    refine ⟨r_bool (by simp only [bne_iff_ne, ne_eq]; exact hx1'), ?_⟩
    repeat (first | assumption | refine bst ?_ ‹_›)
  · have C1 : Hid (CutC s (1 + (x : Int)) (a : Int) ((a : Int) + (b0 : Int)) p 0) := Lib.hid c1
    obtain ⟨c, hc, wc0⟩ := wiC c_ b0 (by omega)
    obtain ⟨d, hd, wd0⟩ := wiC d_ (b0 - c) (by omega)
    have wc : WiC c_ ((a : Int) + (b0 : Int) - (a : Int) + 1) c := wc0 _ (by omega)
    have wd : WiC d_ ((a : Int) + (b0 : Int) - (a : Int) - (c : Int) + 1) d := wd0 _ (by omega)
    obtain ⟨Q, E, cq, cr2⟩ := hcd c (c + d) (by omega) (by omega)
    have s2 := fun w => sizeL_any p (1 + (x : Int)) w hps US.out
    rw [htp] at s2
    have WC := Lib.hid wc
    have WD := Lib.hid wd
    have S2 := Lib.hid s2
    have CQ : Hid (CutC p (1 + (x : Int)) (c : Int) ((c : Int) + (d : Int)) Q E) := Lib.hid cq
    have CR : Hid (CutC s (1 + (x : Int)) ((a : Int) + (c : Int)) ((a : Int) + ((c : Int) + (d : Int))) Q E) := Lib.hid cr2
    have CF := Lib.hid cf
    have CT : Hid (CutC s (1 + (x : Int)) ((a : Int) + (b0 : Int)) (N : Int) r 0) := Lib.hid cr
    have M1 := Lib.hid m1
    have M2 := Lib.hid m2
    have hz : f.size + p.size + r.size = s.size := by have := congrArg ByteArray.size hfpr; rwa [ByteArray.size_append, ByteArray.size_append] at this
    have hz1 : f.size + p.size + r.size ≤ 1048576 := by omega
    clear hz
    clear c1 wc wd wc0 wd0 cq cr2 cf cr m1 m2 hcd s2 htp
    go_enter Try.func14, Try.ntmps14
    go_wp2_with (first
      | (go_at_call 19; refine (head_any _).mono ?_; rintro e w1 ⟨rfl, hb1⟩)
      | (go_at_call 31; first | ((with_reducible refine (WU.out _).mono ?_); rintro e w' ⟨rfl, rfl⟩) | ((with_reducible refine (WA.out _).mono ?_); rintro e w' ⟨rfl, rfl⟩) | ((with_reducible refine (WB.out _).mono ?_); rintro e w' ⟨rfl, rfl⟩) | ((with_reducible refine (WC.out _).mono ?_); rintro e w' ⟨rfl, rfl⟩) | ((with_reducible refine (WD.out _).mono ?_); rintro e w' ⟨rfl, rfl⟩))
      | (go_at_call 32; first | ((with_reducible refine (S1.out _).mono ?_); rintro e w2 ⟨rfl, hb2⟩) | ((with_reducible refine (S2.out _).mono ?_); rintro e w2 ⟨rfl, hb4⟩))
      | (go_at_call 44; first | ((with_reducible refine (C1.out _).mono ?_); rintro e w3 ⟨rfl, hb3⟩) | ((with_reducible refine (CQ.out _).mono ?_); rintro e w3 ⟨rfl, hb5⟩) | ((with_reducible refine (CR.out _).mono ?_); rintro e w3 ⟨rfl, hb6⟩) | ((with_reducible refine (CF.out _).mono ?_); rintro e w3 ⟨rfl, hb7⟩) | ((with_reducible refine (CT.out _).mono ?_); rintro e w3 ⟨rfl, hb8⟩))
      | (go_at_call 29; first | ((with_reducible refine (M1.out _).mono ?_); rintro e w3 ⟨rfl, hb9⟩) | ((with_reducible refine (M2.out _).mono ?_); rintro e w3 ⟨rfl, hb10⟩)))
    go_ret
    refine ⟨rfl, ?_⟩
    repeat (first | assumption | refine bst ?_ ‹_›)
end Go.Proofs.Ytokbmihjpllgpaa
