/- bidi.classes: the walk. -/
import Derived.Test.YtclblidfamabdaaBdK
import Derived.Shelf.RegionOpen
import Derived.Laws.DeepStrings4
import Derived.OwnWalkIn
set_option linter.unusedVariables false
set_option linter.unusedSimpArgs false
namespace Go.Proofs.Ytclblidfamabdaa
open Go.RowKit Go.Shelf Go.Lib Go.BigFrame
attribute [local go_sem] Oper.semAt_some

section
variable {F : Fence} {n : Nat} {P : Program} {w : World}
theorem step_append_in {ops : Array Oper} {o : Oper} {a : Act} {K : Act → World → Prop} {Q : Exit → Act → World → Prop} {E : Prop} {R : Value → World → Prop} (hgd : o.guard = none) (s x : Operand) (t : TypeId)
    (ho : o.op = .call { callee := .builtin .append, args := #[s, x], argTypes := #[t, t] }) (v xv : Value) (hs : a.eval s = v) (hx : a.eval x = xv)
    (hr : ∃ v' w', (Builtin.append_ #[t, t] o.type #[v, xv]).run P w = .ok v' w' ∧ R v' w') (h : ∀ v' w', R v' w' → K (a.put o.dst v') w') :
    if Region.wanted o (yielded ops a.tmps) = true then Oper.wpIn F n P o a w K Q else E := by
  have hw : Region.wanted o (yielded ops a.tmps) = true := by simp [Region.wanted, hgd]
  rw [if_pos hw]
  obtain ⟨v', w', hrun, r1⟩ := hr
  unfold Oper.wpIn
  refine ⟨?_, ?_⟩
  · simp [Oper.about, ho, resolve, Target.leads, Sem.run_pure]
  · rw [Oper.semAt_plain F _ _ (by rw [ho]; intro c hc'; cases hc')]
    simp [execOp, ho, resolve, invoke, builtin, hs, hx, hrun, Result.andThen]
    exact h _ _ r1
end
def kcI (l : List U.Tk) (k : Nat) : Int := (B.kcl l k : Int)
set_option maxRecDepth 1000000 in
set_option maxHeartbeats 4000000 in
theorem classes_any (s : ByteArray) (w : World) (hs : s.size ≤ 4194304) :
    Calls Try.prog 32 #[.string s] w fun e w' => ∃ v, e = .returned v ∧ Below w.heap.size w w' ∧ w'.ownsRow w.heap.size 3 1 v (C.clus (U.toks s.data.toList)).length (ns (kcI (U.toks s.data.toList)) (C.clus (U.toks s.data.toList)).length) := by
  obtain ⟨i0, hi, hz0, hz1, hz2⟩ := info_parts Try.infoIn
  have hlen : (C.clus (U.toks s.data.toList)).length ≤ s.size := Nat.le_trans (C.clus_length_le _) toks_len
  have hlw := U.wsum_toks s.data.toList
  rw [← U.size_eq] at hlw
  obtain ⟨R, hR⟩ : ∃ R, kcI (U.toks s.data.toList) = R := ⟨_, rfl⟩
  have HR := Lib.hid hR
  rw [hR]
  clear hR
  refine (callsIn_wide (n := 0)).1 (callsIn_of_wp_marks Try.func32 rfl trivial (wpIn_wide.2 ?_) rfl)
  simp only [Try.ntmps32, List.size_toArray, List.length_cons, List.length_nil, Nat.reduceAdd, Nat.reduceSub, Array.replicate_succ, Array.replicate_zero, List.push_toArray, List.append_toArray, List.nil_append, List.cons_append]
  go_wp2_with (go_at_call 47; refine (clusters_call _ _).mono ?_; rintro e w' ⟨rfl, rfl⟩)
  obtain ⟨W0, hW0⟩ : ∃ W0, ((w.alloc (.cells #[.string s] 9)).alloc (.cells #[.slice none 0 0] 29)).alloc (.cells #[.string s] 9) = W0 := ⟨_, rfl⟩
  rw [hW0]
  have hz : W0.heap.size = w.heap.size + 3 := by rw [← hW0]; simp
  have hb0 : W0.heap[w.heap.size + 1]? = some (.cells #[.slice none 0 0] 29 (0, 0)) := by
    rw [← hW0]
    have := World.alloc_heap_new (w.alloc (.cells #[.string s] 9)) (.cells #[.slice none 0 0] 29)
    rw [World.size_alloc] at this
    exact (Below.heap_alloc _ _ _ (by simp)).trans this
  have hbm : W0.heap[w.heap.size]? = some (.cells #[.string s] 9 (0, 0)) := by
    rw [← hW0]
    exact (Below.heap_alloc _ _ _ (by simp; omega)).trans ((Below.heap_alloc _ _ _ (by simp)).trans (World.alloc_heap_new w _))
  have hb1 : W0.cell? ⟨w.heap.size + 2, 0, none⟩ = some (.string s) := by
    rw [← hW0]
    have := (cell_new ((w.alloc (.cells #[.string s] 9)).alloc (.cells #[.slice none 0 0] 29)) (.string s) 9).1
    rw [World.size_alloc, World.size_alloc] at this
    exact this
  have hbel : Below w.heap.size w W0 := by rw [← hW0]; exact (((Below.refl _ _).alloc (Nat.le_refl _) _).alloc (by simp) _).alloc (by simp; omega) _
  clear hW0
  refine wp_rf W0 rfl enters_clusters (clusters_in s hs (w.heap.size + 2) W0 hb1) (Fr.refl _ _) (fun k h => by omega) (fun _ => rfl)
    (fun pre W => Coll w (w.heap.size + 1) 29 3 1 (W0.heap.size + 8) pre.length (ns R pre.length) W ∧ W.heap[w.heap.size]? = some (.cells #[.string s] 9 (0, 0))) (fun _ _ _ => False) ?hI (fun _ _ _ _ _ h => h) ?h0 ?round ?done ?stop
  case hI =>
    rintro pre A B hf ⟨h, h2⟩
    exact ⟨h.fr (lo := W0.heap.size) (hi := W0.heap.size + 8) (by omega) (by omega) h.size (Nat.le_refl _) hf, (hf.block _ (Array.getElem?_eq_some_iff.1 h2).1 (.inl (by omega))).trans h2⟩
  case h0 => exact ⟨⟨hbel, _, hb0, World.ownsRow_nil _ _ _ _⟩, hbm⟩
  case round =>
    rintro pre x post W hx hsz ⟨⟨hB, v, hv, hrow⟩, hbm⟩
    have hpl2 : pre.length ≤ 4194304 := by have := congrArg List.length hx; simp at this; omega
    have hxk : (C.clus (U.toks s.data.toList))[pre.length]? = some x := by rw [hx]; simp
    obtain ⟨e1, e2, e3, e4, e5, e6, e7, e8, e9, e10⟩ := C.clus_steps _ (C.toks_14 _) pre.length x hxk
    obtain ⟨hps, wd, hdec⟩ := part_first s pre.length x hxk
    have hal : x.at_ + x.len ≤ s.size := by omega
    have hRk : R pre.length = (B.cls (C.rune (U.toks s.data.toList) (C.sgF (U.toks s.data.toList) pre.length) : Int) : Int) := by rw [← HR.out]; rfl
    obtain ⟨rn, hrn⟩ : ∃ rn, C.rune (U.toks s.data.toList) (C.sgF (U.toks s.data.toList) pre.length) = rn := ⟨_, rfl⟩
    rw [hrn] at hRk hdec
    obtain ⟨part, hpart⟩ : ∃ p, s.extract x.at_ (x.at_ + x.len) = p := ⟨_, rfl⟩
    rw [hpart] at hps hdec
    have hsl : ∀ W : World, (Instr.slice 9 (.string s) (some (.int .i64 (x.at_ : Int))) (some (.int .i64 ((x.at_ : Int) + (x.len : Int)))) none).run Try.prog W = .ok (.string part) W := fun W => by
      rw [run_slice_string_if W 9 s .i64 .i64 (x.at_ : Int) ((x.at_ : Int) + (x.len : Int)) Try.underlying9, if_pos ⟨by omega, by omega⟩, if_pos ⟨by omega, by omega⟩, show (x.at_ : Int).toNat = x.at_ by omega, show ((x.at_ : Int) + (x.len : Int)).toNat = x.at_ + x.len by omega, hpart]
    have HPT := Lib.hid hpart
    have HRK := Lib.hid hRk
    clear hx hxk e1 e2 e3 e4 e5 e6 e7 e8 e9 e10 hrn hpart hRk
    unfold encC
    gi_wp2
    refine ⟨(Fr.refl _ _).alloc _, fun W3 hf3 hs3 hr3 => ?_⟩
    have hlt := (Array.getElem?_eq_some_iff.1 hv).1
    have hltm := (Array.getElem?_eq_some_iff.1 hbm).1
    have hx3 : W3.heap[W.heap.size]? = some (.cells #[.int .i64 (x.at_ : Int), .int .i64 (x.len : Int), .int .i64 (x.frm : Int), .int .i64 (x.to_ : Int), .int .i64 (x.cells : Int)] 75 (0, 0)) := rx_new hf3 (by omega)
    have hv3 : W3.heap[w.heap.size + 1]? = some (.cells #[v] 29 (0, 0)) := rx_old hf3 hv (by omega)
    have hm3 : W3.heap[w.heap.size]? = some (.cells #[.string s] 9 (0, 0)) := rx_old hf3 hbm (by omega)
    have hrow3 : W3.ownsRow (W0.heap.size + 8) 3 1 v pre.length (ns R pre.length) := ownsRow_fr (hrow.alloc _) hf3 (fun k hk => by omega)
    have hB3 : Below w.heap.size w W3 := (hB.alloc hB.size _).trans (hf3.toBelow (fun k hk => by omega) (by simp; have := hB.size; omega))
    have hz3 : W.heap.size + 1 = W3.heap.size := by rw [hs3]; simp
    have c0 : W3.cell? ⟨W.heap.size, 0, none⟩ = some (.int .i64 (x.at_ : Int)) := by simp [World.cell?, hx3]
    have c1 : W3.cell? ⟨W.heap.size, 1, none⟩ = some (.int .i64 (x.len : Int)) := by simp [World.cell?, hx3]
    have cm := (cell_of_block hm3).1
    have hbs : W0.heap.size + 8 ≤ W3.heap.size := by omega
    have HM := Lib.hid hm3
    have hml := (Array.getElem?_eq_some_iff.1 hm3).1
    clear hf3 hs3 hr3 hx3 hB hv hrow hlt hm3
    gi_wp2
    gi_loopw [] (fun wr => wr = W3.iter part 0) (fun _ => 0)
    case atStart => rfl
    case round =>
      obtain rfl := hrel
      have hit := World.iter_heap W3 part 0
      have hnx : ∀ ty, (Instr.next (.pointer (some ⟨W3.heap.size, 0, none⟩)) true ty).run Try.prog (W3.iter part 0) = _ := fun ty => run_next_any_at _ W3.heap.size part 0 ty hit hps
      rw [hdec] at hnx
      simp only at hnx
      have hA0 : Below W3.heap.size W3 ((W3.iter part 0).iterAt W3.heap.size part (0 + wd)) := ((Below.refl _ _).alloc (Nat.le_refl _) _).trans (((Fr.refl (fun k => k < W3.heap.size) (W3.iter part 0)).iterAt _ _ _ (fun _ h => by omega)).toBelow (fun k h => h) (by simp [World.iter]))
      obtain ⟨A1, hA1⟩ : ∃ A1, (W3.iter part 0).iterAt W3.heap.size part (0 + wd) = A1 := ⟨_, rfl⟩
      rw [hA1] at hnx hA0
      have cv : A1.cell? ⟨w.heap.size + 1, 0, none⟩ = some v := (World.cell?_of_block (hA0.block _ (Array.getElem?_eq_some_iff.1 hv3).1)).trans (cell_of_block hv3).1
      have hrow1 := own_below (b := W0.heap.size + 8) hrow3 hA0
      have hB1 := bst hB3 (hA0.mono (Nat.le_refl _))
      have HH := Lib.hid (And.intro hA0 (And.intro hrow1 hB1))
      clear hA1 hdec hA0 hit hrow1 hB1
      gi_wp2
      have hA0 := HH.out.1
      have hdl : A1.drew.heap.size = A1.heap.size := rfl
      have cvd : A1.drew.cell? ⟨w.heap.size + 1, 0, none⟩ = some v := cv
      have cva : ∀ o, (A1.drew.alloc o).cell? ⟨w.heap.size + 1, 0, none⟩ = some v := fun o => (World.cell?_of_block (Below.heap_alloc _ _ _ (World.block_lt_of_cell? _ _ cvd))).trans cvd
      have cva2 : ∀ o, (A1.alloc o).drew.cell? ⟨w.heap.size + 1, 0, none⟩ = some v := cva
      obtain ⟨cl, hcl⟩ : ∃ c, (B.cls (rn : Int) : Int) = c := ⟨_, rfl⟩
      have HCE := Lib.hid hcl
      have HCLS := Lib.hid (show R pre.length = cl by rw [HRK.out, hcl])
      let RR : Value → World → Prop := fun v' w1 => w1.ownsRow (W0.heap.size + 8) 3 1 v' (pre.length + 1) (ns R pre.length ++ [.int .i64 cl]) ∧ (A1.drew.alloc (.cells #[.int .i64 cl] 3)).grownBy w1 v.ownBlock
      have APP : Hid (∃ v' w', (Builtin.append_ #[29, 29] 29 #[v, .slice (some ⟨A1.heap.size, 0, none⟩) 1 1]).run Try.prog (A1.drew.alloc (.cells #[.int .i64 cl] 3)) = .ok v' w' ∧ RR v' w') := Lib.hid (by
        obtain ⟨v', w', h1, h2, h3, _⟩ := run_append_own (P := Try.prog) (A1.drew.alloc (.cells #[.int .i64 cl] 3)) (W0.heap.size + 8) 29 29 3 i0 _ 1 8 Try.underlying29 hi hz0 hz1 hz2 rfl (by decide) v pre.length (ns R pre.length) ((show A1.drew.ownsRow _ _ _ _ _ _ from HH.out.2.1).alloc _) ⟨A1.heap.size, 0, none⟩ 1 1 [.int .i64 cl] rfl (World.news_of_block (World.alloc_heap_new A1.drew _)) (by simp [Value.oneCell']) (by unfold maxLen; omega) (by omega) (by have := hA0.size; simp; omega)
        exact ⟨v', w', h1, h2, h3⟩)
      have KF : Hid (∀ v' w1, w1.ownsRow (W0.heap.size + 8) 3 1 v' (pre.length + 1) (ns R pre.length ++ [.int .i64 cl]) → (A1.drew.alloc (.cells #[.int .i64 cl] 3)).grownBy w1 v.ownBlock →
        (Coll w (w.heap.size + 1) 29 3 1 (W0.heap.size + 8) (pre.length + 1) (ns R pre.length ++ [.int .i64 cl]) (w1.setCell ⟨w.heap.size + 1, 0, none⟩ v') ∧ Fr (fun k => k = w.heap.size + 2 ∨ W0.heap.size ≤ k ∧ k < W0.heap.size + 2 + 6 ∨ k = w.heap.size) W3 (w1.setCell ⟨w.heap.size + 1, 0, none⟩ v') ∧ w1.heap[w.heap.size + 1]? = some (.cells #[v] 29 (0, 0)))) := Lib.hid (fun v' w1 hown hg => by
        have hD : Below W3.heap.size W3 (A1.drew.alloc (.cells #[.int .i64 cl] 3)) := (hA0.drew).alloc hA0.size _
        exact Coll.append hB3 hv3 hrow3 (by omega) (by omega) (Fr.of_below hD (fun k hk _ => hk)) hD hown hg (fun k hk => by omega))
      clear hA0 hdl hcl
      refine wpIn_region_any (by kernel_rfl) ?_
      try (change wpAnyIn _ _ _ _ _ _ _ _ _ (World.drew _))
      refine wpAnyIn_ready (rs := [0, 1]) (by kernel_rfl) (by simp) ?_
      refine AllReadyIn.cons rfl (fun K hK => ?_) (AllReadyIn.cons rfl (fun K hK => ?_) AllReadyIn.nil)
      · go_simp
        refine hK _ _ ?_; clear hK K
        refine wpAnyIn_ready (rs := [1]) (by kernel_rfl) (by simp) ?_
        refine AllReadyIn.cons rfl (fun K hK => ?_) AllReadyIn.nil
        go_simp
        refine hK _ _ ?_; clear hK K
        refine wpAnyIn_ready (rs := [2]) (by kernel_rfl) (by simp) ?_
        refine AllReadyIn.cons rfl (fun K hK => ?_) AllReadyIn.nil
        go_simp
        refine ⟨trivial, rfl, ?_⟩; refine (CallsIn.inRound _ (callsIn_wide.2 (class_any _ _))).mono ?_; rintro e w' ⟨rfl, rfl⟩; rw [HCE.out]
        refine hK _ _ ?_; clear hK K
        refine wpAnyIn_ready (rs := [3]) (by kernel_rfl) (by simp) ?_
        refine AllReadyIn.cons rfl (fun K hK => ?_) AllReadyIn.nil
        go_simp
        refine hK _ _ ?_; clear hK K
        refine wpAnyIn_ready (rs := [4]) (by kernel_rfl) (by simp) ?_
        refine AllReadyIn.cons rfl (fun K hK => ?_) AllReadyIn.nil
        refine step_append_in (R := RR) (by rfl) (.tmp 23) (.tmp 26) 29 (by rfl) _ _ (by rfl) (by rfl) APP.out ?_
        rintro v' w1 ⟨hown, hg⟩
        obtain ⟨g', cap', rfl⟩ := ownsRow_succ hown
        refine hK _ _ ?_; clear hK K
        obtain ⟨q1, q2, q3⟩ := KF.out _ _ hown hg
        have cv1 := (cell_of_block q3).1
        have fv1 := (cell_of_block q3).2
        refine wpAnyIn_ready (rs := [5]) (by kernel_rfl) (by simp) ?_
        refine AllReadyIn.cons rfl (fun K hK => ?_) AllReadyIn.nil
        go_simp
        refine hK _ _ ?_; clear hK K
        refine wpAnyIn_done (by kernel_rfl) ?_ _
        (gi_wp2; exact ⟨q2.mono (fun k _ h => h.elim .inl (fun h => .inr (.inl h))), by show Coll _ _ _ _ _ _ (pre ++ [x]).length (ns R (pre ++ [x]).length) _; rw [List.length_append, show [x].length = 1 from rfl, ns_succ, HCLS.out]; exact q1, (q2.block _ hml (.inr (.inr rfl))).trans HM.out⟩)
      · go_simp
        refine hK _ _ ?_; clear hK K
        refine wpAnyIn_ready (rs := [0, 2]) (by kernel_rfl) (by simp) ?_
        refine AllReadyIn.cons rfl (fun K hK => ?_) (AllReadyIn.cons rfl (fun K hK => ?_) AllReadyIn.nil)
        · go_simp
          refine hK _ _ ?_; clear hK K
          refine wpAnyIn_ready (rs := [2]) (by kernel_rfl) (by simp) ?_
          refine AllReadyIn.cons rfl (fun K hK => ?_) AllReadyIn.nil
          go_simp
          refine ⟨trivial, rfl, ?_⟩; refine (CallsIn.inRound _ (callsIn_wide.2 (class_any _ _))).mono ?_; rintro e w' ⟨rfl, rfl⟩; rw [HCE.out]
          refine hK _ _ ?_; clear hK K
          refine wpAnyIn_ready (rs := [3]) (by kernel_rfl) (by simp) ?_
          refine AllReadyIn.cons rfl (fun K hK => ?_) AllReadyIn.nil
          go_simp
          refine hK _ _ ?_; clear hK K
          refine wpAnyIn_ready (rs := [4]) (by kernel_rfl) (by simp) ?_
          refine AllReadyIn.cons rfl (fun K hK => ?_) AllReadyIn.nil
          refine step_append_in (R := RR) (by rfl) (.tmp 23) (.tmp 26) 29 (by rfl) _ _ (by rfl) (by rfl) APP.out ?_
          rintro v' w1 ⟨hown, hg⟩
          obtain ⟨g', cap', rfl⟩ := ownsRow_succ hown
          refine hK _ _ ?_; clear hK K
          obtain ⟨q1, q2, q3⟩ := KF.out _ _ hown hg
          have cv1 := (cell_of_block q3).1
          have fv1 := (cell_of_block q3).2
          refine wpAnyIn_ready (rs := [5]) (by kernel_rfl) (by simp) ?_
          refine AllReadyIn.cons rfl (fun K hK => ?_) AllReadyIn.nil
          go_simp
          refine hK _ _ ?_; clear hK K
          refine wpAnyIn_done (by kernel_rfl) ?_ _
          (gi_wp2; exact ⟨q2.mono (fun k _ h => h.elim .inl (fun h => .inr (.inl h))), by show Coll _ _ _ _ _ _ (pre ++ [x]).length (ns R (pre ++ [x]).length) _; rw [List.length_append, show [x].length = 1 from rfl, ns_succ, HCLS.out]; exact q1, (q2.block _ hml (.inr (.inr rfl))).trans HM.out⟩)
        · go_simp
          refine ⟨trivial, rfl, ?_⟩; refine (CallsIn.inRound _ (callsIn_wide.2 (class_any _ _))).mono ?_; rintro e w' ⟨rfl, rfl⟩; rw [HCE.out]
          refine hK _ _ ?_; clear hK K
          refine wpAnyIn_ready (rs := [0, 3]) (by kernel_rfl) (by simp) ?_
          refine AllReadyIn.cons rfl (fun K hK => ?_) (AllReadyIn.cons rfl (fun K hK => ?_) AllReadyIn.nil)
          · go_simp
            refine hK _ _ ?_; clear hK K
            refine wpAnyIn_ready (rs := [3]) (by kernel_rfl) (by simp) ?_
            refine AllReadyIn.cons rfl (fun K hK => ?_) AllReadyIn.nil
            go_simp
            refine hK _ _ ?_; clear hK K
            refine wpAnyIn_ready (rs := [4]) (by kernel_rfl) (by simp) ?_
            refine AllReadyIn.cons rfl (fun K hK => ?_) AllReadyIn.nil
            refine step_append_in (R := RR) (by rfl) (.tmp 23) (.tmp 26) 29 (by rfl) _ _ (by rfl) (by rfl) APP.out ?_
            rintro v' w1 ⟨hown, hg⟩
            obtain ⟨g', cap', rfl⟩ := ownsRow_succ hown
            refine hK _ _ ?_; clear hK K
            obtain ⟨q1, q2, q3⟩ := KF.out _ _ hown hg
            have cv1 := (cell_of_block q3).1
            have fv1 := (cell_of_block q3).2
            refine wpAnyIn_ready (rs := [5]) (by kernel_rfl) (by simp) ?_
            refine AllReadyIn.cons rfl (fun K hK => ?_) AllReadyIn.nil
            go_simp
            refine hK _ _ ?_; clear hK K
            refine wpAnyIn_done (by kernel_rfl) ?_ _
            (gi_wp2; exact ⟨q2.mono (fun k _ h => h.elim .inl (fun h => .inr (.inl h))), by show Coll _ _ _ _ _ _ (pre ++ [x]).length (ns R (pre ++ [x]).length) _; rw [List.length_append, show [x].length = 1 from rfl, ns_succ, HCLS.out]; exact q1, (q2.block _ hml (.inr (.inr rfl))).trans HM.out⟩)
          · go_simp
            refine hK _ _ ?_; clear hK K
            refine wpAnyIn_ready (rs := [0]) (by kernel_rfl) (by simp) ?_
            refine AllReadyIn.cons rfl (fun K hK => ?_) AllReadyIn.nil
            go_simp
            refine hK _ _ ?_; clear hK K
            refine wpAnyIn_ready (rs := [4]) (by kernel_rfl) (by simp) ?_
            refine AllReadyIn.cons rfl (fun K hK => ?_) AllReadyIn.nil
            refine step_append_in (R := RR) (by rfl) (.tmp 23) (.tmp 26) 29 (by rfl) _ _ (by rfl) (by rfl) APP.out ?_
            rintro v' w1 ⟨hown, hg⟩
            obtain ⟨g', cap', rfl⟩ := ownsRow_succ hown
            refine hK _ _ ?_; clear hK K
            obtain ⟨q1, q2, q3⟩ := KF.out _ _ hown hg
            have cv1 := (cell_of_block q3).1
            have fv1 := (cell_of_block q3).2
            refine wpAnyIn_ready (rs := [5]) (by kernel_rfl) (by simp) ?_
            refine AllReadyIn.cons rfl (fun K hK => ?_) AllReadyIn.nil
            go_simp
            refine hK _ _ ?_; clear hK K
            refine wpAnyIn_done (by kernel_rfl) ?_ _
            (gi_wp2; exact ⟨q2.mono (fun k _ h => h.elim .inl (fun h => .inr (.inl h))), by show Coll _ _ _ _ _ _ (pre ++ [x]).length (ns R (pre ++ [x]).length) _; rw [List.length_append, show [x].length = 1 from rfl, ns_succ, HCLS.out]; exact q1, (q2.block _ hml (.inr (.inr rfl))).trans HM.out⟩)
  case done =>
    rintro W ⟨⟨hB, v, hv, hrow⟩, hbm⟩ hD
    have cv := (cell_of_block hv).1
    go_wp2
    refine ⟨by simp, .inl ⟨_, _, rfl, run_takeDeferred hD, ?_⟩⟩
    refine ⟨_, results_tmp rfl _ _ _, v, rfl, ?_, ?_⟩
    · exact (Fr.of_below (S := fun k => k < w.heap.size) hB (fun k _ h => h)).putObj _ _ (fun _ h => by omega) |>.toBelow (fun k h => h) (Nat.le_refl _)
    · exact ownsRow_base (ownsRow_fr (S := fun k => W0.heap.size + 8 ≤ k) hrow ((Fr.refl _ _).putObj _ _ (fun _ h => by omega)) (fun k h => h)) (by omega)
  case stop =>
    intro c pre W _ _ h
    exact h.elim
end Go.Proofs.Ytclblidfamabdaa
