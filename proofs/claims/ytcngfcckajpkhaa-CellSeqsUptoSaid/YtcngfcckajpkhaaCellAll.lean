/- The law's 'all': the clusters that cell.Clusters tells, in a slice. -/
import Derived.Test.YtcngfcckajpkhaaCellK
import Derived.Deep.AppendLies
set_option linter.unusedVariables false
set_option linter.unusedSimpArgs false
namespace Go.Proofs.Ytcngfcckajpkhaa
open Go.RowKit Go.Shelf Go.Lib Go.BigFrame
attribute [local go_sem] Oper.semAt_some

def cellsC (l : List C.Cl) : List Value := l.flatMap cellC
theorem cellsC_snoc (l : List C.Cl) (x : C.Cl) : cellsC (l ++ [x]) = cellsC l ++ cellC x := by simp [cellsC]
theorem Try.infoCl : (Try.prog.info? 33).map (fun i => (i.zero, i.size, i.bytes)) = some (some (.agg #[.int .i64 0, .int .i64 0, .int .i64 0, .int .i64 0, .int .i64 0]), 5, 40) := by kernel_rfl

set_option maxRecDepth 1000000 in
set_option maxHeartbeats 2000000 in
theorem all_any (s : ByteArray) (most : Nat) (w : World) (hs : s.size ≤ 4194304) (hm : (C.clus (U.toks s.data.toList)).length ≤ most) (hmx : most ≤ 1099511627776) :
    Calls Try.prog 23 #[.string s, .int .i64 (most : Int)] w fun e w' => ∃ v, e = .returned (.tuple #[v, .bool true]) ∧ Below w.heap.size w w' ∧
      w'.ownsRow w.heap.size 33 5 v (C.clus (U.toks s.data.toList)).length (cellsC (C.clus (U.toks s.data.toList))) := by
  obtain ⟨i0, hi, hz0, hz1, hz2⟩ := info_parts Try.infoCl
  have hnil : ∀ (lb : Array Value) (w : World), (binOp .eql 44 (.func (.func 48) #[] lb) .nilFunc).run Try.prog w = .ok (.bool false) w := fun _ _ => by kernel_rfl
  have hlen : (C.clus (U.toks s.data.toList)).length ≤ s.size := Nat.le_trans (C.clus_length_le _) toks_len
  refine (callsIn_wide (n := 0)).1 (callsIn_of_wp_marks Try.func23 rfl trivial (wpIn_wide.2 ?_) rfl)
  simp only [Try.ntmps23, List.size_toArray, List.length_cons, List.length_nil, Nat.reduceAdd, Nat.reduceSub, Array.replicate_succ, Array.replicate_zero, List.push_toArray, List.append_toArray, List.nil_append, List.cons_append]
  go_wp2_with (go_at_call 30; refine (clusters_call _ _).mono ?_; rintro e w' ⟨rfl, rfl⟩)
  obtain ⟨W0, hW0⟩ : ∃ W0, ((w.alloc (.cells #[.int .i64 (most : Int)] 3)).alloc (.cells #[.string s] 9)).alloc (.cells #[.slice none 0 0] 29) = W0 := ⟨_, rfl⟩
  rw [hW0]
  have hz : W0.heap.size = w.heap.size + 3 := by rw [← hW0]; simp
  have hb0 : W0.heap[w.heap.size + 2]? = some (.cells #[.slice none 0 0] 29 (0, 0)) := by
    rw [← hW0]
    have := World.alloc_heap_new ((w.alloc (.cells #[.int .i64 (most : Int)] 3)).alloc (.cells #[.string s] 9)) (.cells #[.slice none 0 0] 29)
    rw [World.size_alloc, World.size_alloc] at this
    exact this
  have hbm : W0.heap[w.heap.size]? = some (.cells #[.int .i64 (most : Int)] 3 (0, 0)) := by
    rw [← hW0]
    exact (Below.heap_alloc _ _ _ (by simp; omega)).trans ((Below.heap_alloc _ _ _ (by simp)).trans (World.alloc_heap_new w _))
  have hb1 : W0.cell? ⟨w.heap.size + 1, 0, none⟩ = some (.string s) := by
    rw [← hW0]
    have := (cell_new (w.alloc (.cells #[.int .i64 (most : Int)] 3)) (.string s) 9).1
    rw [World.size_alloc] at this
    rw [World.cell?_of_block (Below.heap_alloc _ _ _ (by simp))]
    exact this
  have hbel : Below w.heap.size w W0 := by rw [← hW0]; exact (((Below.refl _ _).alloc (Nat.le_refl _) _).alloc (by simp) _).alloc (by simp; omega) _
  clear hW0
  refine wp_rf W0 rfl enters_clusters (clusters_in s hs (w.heap.size + 1) W0 hb1) (Fr.refl _ _) (fun k h => by omega) (fun _ => rfl)
    (fun pre W => Coll w (w.heap.size + 2) 29 33 5 (W0.heap.size + 8) pre.length (cellsC pre) W ∧ W.heap[w.heap.size]? = some (.cells #[.int .i64 (most : Int)] 3 (0, 0))) (fun _ _ _ => False) ?hI (fun _ _ _ _ _ h => h) ?h0 ?round ?done ?stop
  case hI =>
    rintro pre A B hf ⟨h, h2⟩
    exact ⟨h.fr (lo := W0.heap.size) (hi := W0.heap.size + 8) (by omega) (by omega) h.size (Nat.le_refl _) hf, (hf.block _ (Array.getElem?_eq_some_iff.1 h2).1 (.inl (by omega))).trans h2⟩
  case h0 => exact ⟨⟨hbel, _, hb0, World.ownsRow_nil _ _ _ _⟩, hbm⟩
  case round =>
    rintro pre x post W hx hsz ⟨⟨hB, v, hv, hrow⟩, hbm⟩
    have hpl : pre.length + 1 ≤ most := by have := congrArg List.length hx; simp at this; omega
    have hpl2 : pre.length ≤ 4194304 := by have := congrArg List.length hx; simp at this; omega
    have HX := Lib.hid hx
    clear hx
    unfold encC
    gi_wp2
    refine ⟨(Fr.refl _ _).alloc _, fun W3 hf3 hs3 hr3 => ?_⟩
    have hlt := (Array.getElem?_eq_some_iff.1 hv).1
    have hltm := (Array.getElem?_eq_some_iff.1 hbm).1
    have hx3 : W3.heap[W.heap.size]? = some (.cells #[.int .i64 (x.at_ : Int), .int .i64 (x.len : Int), .int .i64 (x.frm : Int), .int .i64 (x.to_ : Int), .int .i64 (x.cells : Int)] 33 (0, 0)) := rx_new hf3 (by omega)
    have hv3 : W3.heap[w.heap.size + 2]? = some (.cells #[v] 29 (0, 0)) := rx_old hf3 hv (by omega)
    have hm3 : W3.heap[w.heap.size]? = some (.cells #[.int .i64 (most : Int)] 3 (0, 0)) := rx_old hf3 hbm (by omega)
    have hrow3 : W3.ownsRow (W0.heap.size + 8) 33 5 v pre.length (cellsC pre) := ownsRow_fr (hrow.alloc _) hf3 (fun k hk => by omega)
    have hB3 : Below w.heap.size w W3 := (hB.alloc hB.size _).trans (hf3.toBelow (fun k hk => by omega) (by simp; have := hB.size; omega))
    have hz3 : W.heap.size + 1 = W3.heap.size := by rw [hs3]; simp
    have c0 : W3.cell? ⟨W.heap.size, 0, none⟩ = some (.int .i64 (x.at_ : Int)) := by simp [World.cell?, hx3]
    have c1 : W3.cell? ⟨W.heap.size, 1, none⟩ = some (.int .i64 (x.len : Int)) := by simp [World.cell?, hx3]
    have c2 : W3.cell? ⟨W.heap.size, 2, none⟩ = some (.int .i64 (x.frm : Int)) := by simp [World.cell?, hx3]
    have c3 : W3.cell? ⟨W.heap.size, 3, none⟩ = some (.int .i64 (x.to_ : Int)) := by simp [World.cell?, hx3]
    have c4 : W3.cell? ⟨W.heap.size, 4, none⟩ = some (.int .i64 (x.cells : Int)) := by simp [World.cell?, hx3]
    have cv := (cell_of_block hv3).1
    have fv := (cell_of_block hv3).2
    have hnw : ∀ j u, (cellC x)[j]? = some u → (W3.alloc (.cells #[.int .i64 (x.at_ : Int), .int .i64 (x.len : Int), .int .i64 (x.frm : Int), .int .i64 (x.to_ : Int), .int .i64 (x.cells : Int)] 33)).cell? ((⟨W3.heap.size, 0, none⟩ : Addr).add j) = some u :=
      World.news_of_block (World.alloc_heap_new W3 _)
    have KF : ∀ v' w1, w1.ownsRow (W0.heap.size + 8) 33 5 v' (pre.length + 1) (cellsC pre ++ cellC x) → (W3.alloc (.cells #[.int .i64 (x.at_ : Int), .int .i64 (x.len : Int), .int .i64 (x.frm : Int), .int .i64 (x.to_ : Int), .int .i64 (x.cells : Int)] 33)).grownBy w1 v.ownBlock →
        (Coll w (w.heap.size + 2) 29 33 5 (W0.heap.size + 8) (pre.length + 1) (cellsC pre ++ cellC x) (w1.setCell ⟨w.heap.size + 2, 0, none⟩ v') ∧ Fr (fun k => k = w.heap.size + 1 ∨ W0.heap.size ≤ k ∧ k < W0.heap.size + 2 + 6 ∨ k = w.heap.size) W3 (w1.setCell ⟨w.heap.size + 2, 0, none⟩ v') ∧ w1.heap[w.heap.size + 2]? = some (.cells #[v] 29 (0, 0))) :=
      fun v' w1 hown hg => Coll.append hB3 hv3 hrow3 (by omega) (by omega) ((Fr.refl _ _).alloc _) ((Below.refl _ _).alloc (Nat.le_refl _) _) hown hg (fun k hk => by omega)
    have hbs : W0.heap.size + 8 ≤ W3.heap.size := by omega
    have HM := Lib.hid hm3
    have hml := (Array.getElem?_eq_some_iff.1 hm3).1
    clear hf3 hs3 hr3 hx3 hB hv hrow hlt hv3 hm3
    gi_wp2_with (gi_at_builtin; refine wpListIn_append_own _ rfl _ _ 29 rfl (W0.heap.size + 8) 33 i0 _ 5 40 Try.underlying29 hi hz0 hz1 hz2 rfl (by decide) _ _ _ rfl (hrow3.alloc _) ⟨W3.heap.size, 0, none⟩ 1 1 (cellC x) rfl rfl hnw (by simp [cellC, Value.oneCell']) (by unfold maxLen; omega) (by omega) (by simp; omega) ?_; intro v' w1 hown hg _; obtain ⟨g', cap', rfl⟩ := ownsRow_succ hown; obtain ⟨q1, q2, q3⟩ := KF _ w1 hown hg; have cv1 := (cell_of_block q3).1; have fv1 := (cell_of_block q3).2; have hmm := (q2.block _ hml (.inr (.inr rfl))).trans HM.out; have cm1 := (cell_of_block hmm).1)
    refine ⟨q2.mono (fun k _ h => h.elim .inl (fun h => .inr (.inl h))), ?_, hmm⟩
    show Coll _ _ _ _ _ _ (pre ++ [x]).length (cellsC (pre ++ [x])) _
    rw [List.length_append, cellsC_snoc]
    exact q1
  case done =>
    rintro W ⟨⟨hB, v, hv, hrow⟩, hbm⟩ hD
    have cv := (cell_of_block hv).1
    go_wp2
    refine ⟨by simp, .inl ⟨_, _, rfl, run_takeDeferred hD, ?_⟩⟩
    refine ⟨_, results_tmp2 rfl _ _ _, v, rfl, ?_, ?_⟩
    · exact (Fr.of_below (S := fun k => k < w.heap.size) hB (fun k _ h => h)).putObj _ _ (fun _ h => by omega) |>.toBelow (fun k h => h) (Nat.le_refl _)
    · exact ownsRow_base (ownsRow_fr (S := fun k => W0.heap.size + 8 ≤ k) hrow ((Fr.refl _ _).putObj _ _ (fun _ h => by omega)) (fun k h => h)) (by omega)
  case stop =>
    intro c pre W _ _ h
    exact h.elim
end Go.Proofs.Ytcngfcckajpkhaa
