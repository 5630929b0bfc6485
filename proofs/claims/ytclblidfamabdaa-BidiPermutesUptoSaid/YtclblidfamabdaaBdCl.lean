/- slices.Clone of numbers; parts of rows. -/
import Derived.Test.YtclblidfamabdaaBdR
import Derived.Lib.SliceRun
set_option linter.unusedVariables false
set_option linter.unusedSimpArgs false
namespace Go.Proofs.Ytclblidfamabdaa
open Go.RowKit Go.Shelf Go.Lib Go.BigFrame
attribute [local go_sem] Oper.semAt_some

theorem eql_slice_nil (w : World) (a : Option Addr) (l c : Nat) : (binOp .eql 29 (.slice a l c) (.slice none 0 0)).run Try.prog w = .ok (.bool a.isNone) w :=
  Lib.run_eql_slice_nil (P := Try.prog) w 29 3 a l c 0 0 Try.underlying29
theorem own_empty (W : World) (b : Nat) (hb : b ≤ W.heap.size) : (W.alloc (.cells #[] 3)).ownsRow b 3 1 (.slice (some ⟨W.heap.size, 0, none⟩) 0 0) 0 [] :=
  ⟨by simp, .inr ⟨W.heap.size, 0, _, rfl, hb, World.alloc_heap_new W _, Nat.zero_le _, by simp only [maxLen]; omega, by simp, by simp⟩⟩
set_option maxRecDepth 1000000 in
theorem clone_nil (w : World) : Calls Try.prog 33 #[.slice none 0 0] w fun e w' => e = .returned (.slice none 0 0) ∧ w = w' := by
  have he := eql_slice_nil w none 0 0
  go_enter Try.func33, Try.ntmps33
  go_wp2
  go_ret
  exact ⟨rfl, rfl⟩
set_option maxRecDepth 1000000 in
theorem clone_some (g o n cap : Nat) (c : Nat → Int) (w : World) (hn : n ≤ 4194304) (hc : ∀ j, j < n → w.cell? ⟨g, o + j, none⟩ = some (.int .i64 (c j))) :
    Calls Try.prog 33 #[.slice (some ⟨g, o, none⟩) n cap] w fun e w' => ∃ v, e = .returned v ∧ Below w.heap.size w w' ∧ w'.ownsRow w.heap.size 3 1 v n (ns c n) := by
  obtain ⟨i0, hi, hz0, hz1, hz2⟩ := info_parts Try.infoIn
  have hnews : ∀ (W : World), Below w.heap.size w W → ∀ (j : Nat) (u : Value), (ns c n)[j]? = some u → W.cell? ((⟨g, o, none⟩ : Addr).add j) = some u := fun W hW j u hu => by
    have hj : j < n := by have := (List.getElem?_eq_some_iff.1 hu).1; rwa [ns_length] at this
    rw [ns_at c hj] at hu
    cases hu
    rw [Go.WideShapes.add_plain]
    exact (World.cell?_of_block (hW.block _ (World.block_lt_of_cell? _ _ (hc j hj)))).trans (hc j hj)
  have HN := Lib.hid hnews
  have hone : ∀ u ∈ ns c n, u.oneCell' = true := by intro u hu; simp [ns] at hu; obtain ⟨_, _, rfl⟩ := hu; rfl
  have hlen := ns_length c n
  obtain ⟨L, hL⟩ : ∃ L, ns c n = L := ⟨_, rfl⟩
  rw [hL] at hone hlen HN ⊢
  have HLen := Lib.hid (show L.length = n * 1 by rw [hlen, Nat.mul_one])
  have he := eql_slice_nil w (some ⟨g, o, none⟩) n cap
  clear hc hnews hL hlen
  go_enter Try.func33, Try.ntmps33
  go_wp2_with (at_builtin; go_must (refine wpList_append_own _ rfl _ _ 29 rfl w.heap.size 3 i0 _ 1 8 Try.underlying29 hi hz0 hz1 hz2 rfl (by decide) _ _ _ rfl (own_empty w _ (Nat.le_refl _)) ⟨g, o, none⟩ n cap L rfl HLen.out (HN.out _ ((Below.refl _ _).alloc (Nat.le_refl _) _)) hone (by unfold maxLen; omega) (by omega) (by simp) ?_); intro v' w2 hown hg _; rw [Nat.zero_add, List.nil_append] at hown)
  go_ret
  exact ⟨_, rfl, ((Below.refl _ _).alloc (Nat.le_refl _) _).grown hg (by simp) (fun q e => by have := Option.some.inj e; simp at this; omega), hown⟩
end Go.Proofs.Ytclblidfamabdaa
