/- The law's 'all': the signs that utf.Signs tells, in a slice. -/
import Derived.Test.YtokbmihjpllgpaaDoorSigns
import Derived.Test.YtokbmihjpllgpaaDoorColl
set_option linter.unusedVariables false
namespace Go.Proofs.YtokbmihjpllgpaaDoor
open Go.RowKit Go.Shelf Go.Lib
attribute [local go_sem] Oper.semAt_some

/-- A sign's cells. -/
def cellS (x : U.Sg) : List Value := [.int .i64 (x.at_ : Int), .int .i64 (x.len : Int), .int .i32 (x.rune : Int), .bool x.bad]
def cellsS (l : List U.Sg) : List Value := l.flatMap cellS
theorem cellsS_snoc (l : List U.Sg) (x : U.Sg) : cellsS (l ++ [x]) = cellsS l ++ cellS x := by simp [cellsS]

theorem Tryd.infoSg : (Tryd.prog.info? 40).map (fun i => (i.zero, i.size, i.bytes)) = some (some (.agg #[.int .i64 0, .int .i64 0, .int .i32 0, .bool false]), 4, 24) := by kernel_rfl

theorem enters_signs : ∀ args w, (callFunc 34 args).run Tryd.prog w = .ok (.enter 34 args) w := enters_of Tryd.func34 (by kernel_rfl) rfl

theorem signs_call (s : ByteArray) (w : World) :
    Calls Tryd.prog 27 #[.string s] w fun e w' => e = .returned (.func (.func 34) #[] #[.pointer (some ⟨w.heap.size, 0, none⟩)]) ∧ w.alloc (.cells #[.string s] 9) = w' := by
  go_enter Tryd.func27, Tryd.ntmps27
  go_wp2
  go_ret
  exact ⟨rfl, rfl⟩

set_option maxRecDepth 1000000 in
theorem all_any (s : ByteArray) (w : World) (hs : s.size ≤ 4194304) :
    Calls Tryd.prog 15 #[.string s] w fun e w' => ∃ v, e = .returned v ∧ Below w.heap.size w w' ∧
      w'.ownsRow w.heap.size 40 4 v (U.signs s.data.toList).length (cellsS (U.signs s.data.toList)) := by
  obtain ⟨i0, hi, hz0, hz1, hz2⟩ := info_parts Tryd.infoSg
  refine (callsIn_wide (n := 0)).1 (callsIn_of_wp_marks Tryd.func15 rfl trivial (wpIn_wide.2 ?_) rfl)
  simp only [Tryd.ntmps15, List.size_toArray, List.length_cons, List.length_nil, Nat.reduceAdd, Nat.reduceSub, Array.replicate_succ, Array.replicate_zero, List.push_toArray, List.append_toArray, List.nil_append, List.cons_append]
  go_wp2_with (go_at_call 27; refine (signs_call _ _).mono ?_; rintro e w' ⟨rfl, rfl⟩)
  obtain ⟨W0, hW0⟩ : ∃ W0, (w.alloc (.cells #[.slice none 0 0] 35)).alloc (.cells #[.string s] 9) = W0 := ⟨_, rfl⟩
  rw [hW0]
  have hz : W0.heap.size = w.heap.size + 2 := by rw [← hW0]; simp
  have hb0 : W0.heap[w.heap.size]? = some (.cells #[.slice none 0 0] 35 (0, 0)) := by
    rw [← hW0]; exact (Below.heap_alloc _ _ _ (by simp)).trans (World.alloc_heap_new w _)
  have hb1 : W0.cell? ⟨w.heap.size + 1, 0, none⟩ = some (.string s) := by
    rw [← hW0]; have := (cell_new (w.alloc (.cells #[.slice none 0 0] 35)) (.string s) 9).1; rwa [World.size_alloc] at this
  have hbel : Below w.heap.size w W0 := by rw [← hW0]; exact ((Below.refl _ _).alloc (Nat.le_refl _) _).alloc (by simp) _
  clear hW0
  have hlen := toks_len (s := s)
  rw [show (U.toks s.data.toList).length = (U.signs s.data.toList).length by rw [U.signs, U.put_length]] at hlen
  refine wp_rf W0 rfl enters_signs (signs_in s hs (w.heap.size + 1) W0 hb1) (Fr.refl _ _) (fun k h => by omega) (fun _ => rfl)
    (fun pre W => Coll w w.heap.size 35 40 4 (W0.heap.size + 3) pre.length (cellsS pre) W) (fun _ _ _ => False) ?hI (fun _ _ _ _ _ h => h) ?h0 ?round ?done ?stop
  case hI =>
    intro pre A B hf h
    exact h.fr (lo := W0.heap.size) (hi := W0.heap.size + 3) (by omega) (by omega) h.size (Nat.le_refl _) hf
  case h0 => exact ⟨hbel, _, hb0, World.ownsRow_nil _ _ _ _⟩
  case round =>
    rintro pre x post W hx hsz ⟨hB, v, hv, hrow⟩
    have HX := Lib.hid hx
    clear hx
    unfold encS
    gi_wp2
    refine ⟨(Fr.refl _ _).alloc _, fun W3 hf3 hs3 hr3 => ?_⟩
    have hlt := (Array.getElem?_eq_some_iff.1 hv).1
    have hx3 : W3.heap[W.heap.size]? = some (.cells #[.int .i64 (x.at_ : Int), .int .i64 (x.len : Int), .int .i32 (x.rune : Int), .bool x.bad] 40 (0, 0)) :=
      (hf3.block W.heap.size (by simp) (by omega)).trans (World.alloc_heap_new W _)
    have hv3 : W3.heap[w.heap.size]? = some (.cells #[v] 35 (0, 0)) :=
      (hf3.block w.heap.size (by simp; omega) (by omega)).trans ((Below.heap_alloc W _ _ hlt).trans hv)
    have hrow3 : W3.ownsRow (W0.heap.size + 3) 40 4 v pre.length (cellsS pre) := ownsRow_fr (hrow.alloc _) hf3 (fun k hk => by omega)
    have hB3 : Below w.heap.size w W3 := (hB.alloc hB.size _).trans (hf3.toBelow (fun k hk => by omega) (by simp; have := hB.size; omega))
    have hz3 : W.heap.size + 1 = W3.heap.size := by rw [hs3]; simp
    have c0 : W3.cell? ⟨W.heap.size, 0, none⟩ = some (.int .i64 (x.at_ : Int)) := by simp [World.cell?, hx3]
    have c1 : W3.cell? ⟨W.heap.size, 1, none⟩ = some (.int .i64 (x.len : Int)) := by simp [World.cell?, hx3]
    have c2 : W3.cell? ⟨W.heap.size, 2, none⟩ = some (.int .i32 (x.rune : Int)) := by simp [World.cell?, hx3]
    have c3 : W3.cell? ⟨W.heap.size, 3, none⟩ = some (.bool x.bad) := by simp [World.cell?, hx3]
    have cv := (cell_of_block hv3).1
    have fv := (cell_of_block hv3).2
    have hpl : pre.length ≤ 4194304 := by have := congrArg List.length HX.out; simp at this; omega
    have hnw : ∀ j u, (cellS x)[j]? = some u → (W3.alloc (.cells #[.int .i64 (x.at_ : Int), .int .i64 (x.len : Int), .int .i32 (x.rune : Int), .bool x.bad] 40)).cell? ((⟨W3.heap.size, 0, none⟩ : Addr).add j) = some u :=
      World.news_of_block (World.alloc_heap_new W3 _)
    have KF : ∀ v' w1, w1.ownsRow (W0.heap.size + 3) 40 4 v' (pre.length + 1) (cellsS pre ++ cellS x) → (W3.alloc (.cells #[.int .i64 (x.at_ : Int), .int .i64 (x.len : Int), .int .i32 (x.rune : Int), .bool x.bad] 40)).grownBy w1 v.ownBlock →
        Coll w w.heap.size 35 40 4 (W0.heap.size + 3) (pre.length + 1) (cellsS pre ++ cellS x) (w1.setCell ⟨w.heap.size, 0, none⟩ v') ∧ Fr (fun k => k = w.heap.size + 1 ∨ W0.heap.size ≤ k ∧ k < W0.heap.size + 2 + 1) W3 (w1.setCell ⟨w.heap.size, 0, none⟩ v') ∧ w1.heap[w.heap.size]? = some (.cells #[v] 35 (0, 0)) :=
      fun v' w1 hown hg => Coll.append hB3 hv3 hrow3 (Nat.le_refl _) (by omega) ((Fr.refl _ _).alloc _) ((Below.refl _ _).alloc (Nat.le_refl _) _) hown hg (fun k hk => by omega)
    have hbs : W0.heap.size + 3 ≤ W3.heap.size := by omega
    clear hf3 hs3 hr3 hx3 hB hv hrow hlt hv3
    gi_wp2_with (gi_at_builtin; refine wpListIn_append_own _ rfl _ _ 35 rfl (W0.heap.size + 3) 40 i0 _ 4 24 Tryd.underlying35 hi hz0 hz1 hz2 rfl (by decide) _ _ _ rfl (hrow3.alloc _) ⟨W3.heap.size, 0, none⟩ 1 1 (cellS x) rfl rfl hnw (by simp [cellS, Value.oneCell']) (by unfold maxLen; omega) (by omega) (by simp; omega) ?_; intro v' w1 hown hg _; obtain ⟨g', cap', rfl⟩ := ownsRow_succ hown; obtain ⟨q1, q2, q3⟩ := KF _ w1 hown hg; have cv1 := (cell_of_block q3).1; have fv1 := (cell_of_block q3).2)
    refine ⟨q2, ?_⟩
    show Coll _ _ _ _ _ _ (pre ++ [x]).length (cellsS (pre ++ [x])) _
    rw [List.length_append, cellsS_snoc]
    exact q1
  case done =>
    rintro W ⟨hB, v, hv, hrow⟩ hD
    have cv := (cell_of_block hv).1
    go_wp2
    refine ⟨by simp, .inl ⟨_, _, rfl, run_takeDeferred hD, ?_⟩⟩
    refine ⟨_, results_tmp rfl _ _ _, v, rfl, ?_, ?_⟩
    · exact (Fr.of_below (S := fun k => k < w.heap.size) hB (fun k _ h => h)).putObj _ _ (fun _ h => by omega) |>.toBelow (fun k h => h) (Nat.le_refl _)
    · exact ownsRow_base (ownsRow_fr (S := fun k => W0.heap.size + 3 ≤ k) hrow ((Fr.refl _ _).putObj _ _ (fun _ h => by omega)) (fun k h => h)) (by omega)
  case stop =>
    intro c pre W _ _ h
    exact h.elim
end Go.Proofs.YtokbmihjpllgpaaDoor
