/- utf.Bads: the places of the bad signs. -/
import Derived.Test.YtokbmihjpllgpaaDoorTextR
set_option linter.unusedVariables false
namespace Go.Proofs.YtokbmihjpllgpaaDoor
open Go.RowKit Go.Shelf Go.Lib Go.BigFrame
attribute [local go_sem] Oper.semAt_some

set_option maxRecDepth 1000000 in
set_option maxHeartbeats 1000000 in
theorem badsU_any (s : ByteArray) (w : World) (hs : s.size ≤ 4194304) :
    Calls Tryd.prog 18 #[.string s] w fun e w' => ∃ v, e = .returned v ∧ Below w.heap.size w w' ∧
      w'.ownsRow w.heap.size 3 1 v (badsL (U.signs s.data.toList)).length (nums (badsL (U.signs s.data.toList))) := by
  obtain ⟨i0, hi, hz0, hz1, hz2⟩ := info_parts Tryd.infoInt
  refine (callsIn_wide (n := 0)).1 (callsIn_of_wp_marks Tryd.func18 rfl trivial (wpIn_wide.2 ?_) rfl)
  simp only [Tryd.ntmps18, List.size_toArray, List.length_cons, List.length_nil, Nat.reduceAdd, Nat.reduceSub, Array.replicate_succ, Array.replicate_zero, List.push_toArray, List.append_toArray, List.nil_append, List.cons_append]
  go_wp2_with (go_at_call 27; refine (signs_call _ _).mono ?_; rintro e w' ⟨rfl, rfl⟩)
  obtain ⟨W0, hW0⟩ : ∃ W0, (w.alloc (.cells #[.slice none 0 0] 23)).alloc (.cells #[.string s] 9) = W0 := ⟨_, rfl⟩
  rw [hW0]
  have hz : W0.heap.size = w.heap.size + 2 := by rw [← hW0]; simp
  have hb0 : W0.heap[w.heap.size]? = some (.cells #[.slice none 0 0] 23 (0, 0)) := by
    rw [← hW0]; exact (Below.heap_alloc _ _ _ (by simp)).trans (World.alloc_heap_new w _)
  have hb1 : W0.cell? ⟨w.heap.size + 1, 0, none⟩ = some (.string s) := by
    rw [← hW0]; have := (cell_new (w.alloc (.cells #[.slice none 0 0] 23)) (.string s) 9).1; rwa [World.size_alloc] at this
  have hbel : Below w.heap.size w W0 := by rw [← hW0]; exact ((Below.refl _ _).alloc (Nat.le_refl _) _).alloc (by simp) _
  clear hW0
  have hlen := signs_len_le s
  refine wp_rf W0 rfl enters_signs (signs_in s hs (w.heap.size + 1) W0 hb1) (Fr.refl _ _) (fun k h => by omega) (fun _ => rfl)
    (fun pre W => Coll w w.heap.size 23 3 1 (W0.heap.size + 3) (badsL pre).length (nums (badsL pre)) W) (fun _ _ _ => False) ?hI (fun _ _ _ _ _ h => h) ?h0 ?round ?done ?stop
  case hI =>
    intro pre A B hf h
    exact h.fr (lo := W0.heap.size) (hi := W0.heap.size + 3) (by omega) (by omega) h.size (Nat.le_refl _) hf
  case h0 => exact ⟨hbel, _, hb0, World.ownsRow_nil _ _ _ _⟩
  case round =>
    rintro pre x post W hx hsz ⟨hB, v, hv, hrow⟩
    have HX := Lib.hid hx
    clear hx
    unfold encS
    gi_wp2
    refine ⟨(Fr.refl _ _).alloc _, fun W3 hf3 hs3 hr3 => ?_⟩
    have hlt := (Array.getElem?_eq_some_iff.1 hv).1
    have hx3 : W3.heap[W.heap.size]? = some (.cells #[.int .i64 (x.at_ : Int), .int .i64 (x.len : Int), .int .i32 (x.rune : Int), .bool x.bad] 40 (0, 0)) := rx_new hf3 (by omega)
    have hv3 : W3.heap[w.heap.size]? = some (.cells #[v] 23 (0, 0)) := rx_old hf3 hv (by omega)
    have hrow3 : W3.ownsRow (W0.heap.size + 3) 3 1 v (badsL pre).length (nums (badsL pre)) := ownsRow_fr (hrow.alloc _) hf3 (fun k hk => by omega)
    have hB3 : Below w.heap.size w W3 := (hB.alloc hB.size _).trans (hf3.toBelow (fun k hk => by omega) (by simp; have := hB.size; omega))
    have hz3 : W.heap.size + 1 = W3.heap.size := by rw [hs3]; simp
    have c0 : W3.cell? ⟨W.heap.size, 0, none⟩ = some (.int .i64 (x.at_ : Int)) := by simp [World.cell?, hx3]
    have c3 : W3.cell? ⟨W.heap.size, 3, none⟩ = some (.bool x.bad) := by simp [World.cell?, hx3]
    have cv := (cell_of_block hv3).1
    have fv := (cell_of_block hv3).2
    have hpl : pre.length ≤ 4194304 := by have := congrArg List.length HX.out; simp at this; omega
    have hbl := badsL_len pre
    have HS := Lib.hid (badsL_snoc pre x)
    obtain ⟨bd, hbd⟩ : ∃ b, x.bad = b := ⟨_, rfl⟩
    rw [hbd] at c3
    have HBd := Lib.hid hbd
    have HColl : Hid (Coll w w.heap.size 23 3 1 (W0.heap.size + 3) (badsL pre).length (nums (badsL pre)) W3) := Lib.hid ⟨hB3, v, hv3, hrow3⟩
    have KF : ∀ v' w1, w1.ownsRow (W0.heap.size + 3) 3 1 v' ((badsL pre).length + 1) (nums (badsL pre) ++ [.int .i64 (x.at_ : Int)]) → (W3.alloc (.cells #[.int .i64 (x.at_ : Int)] 3)).grownBy w1 v.ownBlock →
        Coll w w.heap.size 23 3 1 (W0.heap.size + 3) ((badsL pre).length + 1) (nums (badsL pre) ++ [.int .i64 (x.at_ : Int)]) (w1.setCell ⟨w.heap.size, 0, none⟩ v') ∧ Fr (fun k => k = w.heap.size + 1 ∨ W0.heap.size ≤ k ∧ k < W0.heap.size + 2 + 1) W3 (w1.setCell ⟨w.heap.size, 0, none⟩ v') ∧ w1.heap[w.heap.size]? = some (.cells #[v] 23 (0, 0)) :=
      fun v' w1 hown hg => Coll.append hB3 hv3 hrow3 (Nat.le_refl _) (by omega) ((Fr.refl _ _).alloc _) ((Below.refl _ _).alloc (Nat.le_refl _) _) hown hg (fun k hk => by omega)
    have hbs : W0.heap.size + 3 ≤ W3.heap.size := by omega
    clear hf3 hs3 hr3 hx3 hB hv hrow hlt hv3 hbd
    cases bd
    · gi_wp2
      refine ⟨Fr.refl _ _, ?_⟩
      show Coll _ _ _ _ _ _ (badsL (pre ++ [x])).length (nums (badsL (pre ++ [x]))) _
      rw [HS.out, HBd.out, if_neg (by simp), List.append_nil]
      exact HColl.out
    · gi_wp2_with (gi_at_builtin; refine wpListIn_append_own _ rfl _ _ 23 rfl (W0.heap.size + 3) 3 i0 _ 1 8 Tryd.underlying23 hi hz0 hz1 hz2 rfl (by decide) _ _ _ rfl (hrow3.alloc _) ⟨W3.heap.size, 0, none⟩ 1 1 [.int .i64 (x.at_ : Int)] rfl rfl (World.news_of_block (World.alloc_heap_new W3 _)) (by simp [Value.oneCell']) (by unfold maxLen; omega) (by omega) (by simp; omega) ?_; intro v' w1 hown hg _; obtain ⟨g', cap', rfl⟩ := ownsRow_succ hown; obtain ⟨q1, q2, q3⟩ := KF _ w1 hown hg; have cv1 := (cell_of_block q3).1; have fv1 := (cell_of_block q3).2)
      refine ⟨q2, ?_⟩
      show Coll _ _ _ _ _ _ (badsL (pre ++ [x])).length (nums (badsL (pre ++ [x]))) _
      rw [HS.out, HBd.out, if_pos rfl, List.length_append, nums_snoc]
      exact q1
  case done =>
    rintro W ⟨hB, v, hv, hrow⟩ hD
    have cv := (cell_of_block hv).1
    go_wp2
    refine ⟨by simp, .inl ⟨_, _, rfl, run_takeDeferred hD, ?_⟩⟩
    refine ⟨_, results_tmp rfl _ _ _, v, rfl, ?_, ?_⟩
    · exact (Fr.of_below (S := fun k => k < w.heap.size) hB (fun k _ h => h)).putObj _ _ (fun _ h => by omega) |>.toBelow (fun k h => h) (Nat.le_refl _)
    · exact ownsRow_base (ownsRow_fr (S := fun k => W0.heap.size + 3 ≤ k) hrow ((Fr.refl _ _).putObj _ _ (fun _ h => by omega)) (fun k h => h)) (by omega)
  case stop =>
    intro c pre W _ _ h
    exact h.elim

end Go.Proofs.YtokbmihjpllgpaaDoor
