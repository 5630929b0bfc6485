/- Classes of a text's clusters, plain: the first rune of each. -/
import Derived.Test.YtclblidfamabdaaG5
import Derived.Test.YtclblidfamabdaaG6
import Derived.Shelf.RegionOpen
import Derived.Laws.DeepStrings4
import Derived.OwnWalkIn
set_option linter.unusedVariables false
namespace Go.Proofs.Ytclblidfamabdaa
open Go.RowKit Go.Shelf Go.Lib

/-- The class of a text's k-th cluster. -/
def B.kcl (l : List U.Tk) (k : Nat) : Nat := B.cls (C.rune l (C.sgF l k) : Int)
theorem B.kcl_le (l : List U.Tk) (k : Nat) : 1 ≤ B.kcl l k ∧ B.kcl l k ≤ 17 := B.cls_le _

theorem ext_list (s : ByteArray) (a b : Nat) : (s.extract a b).data.toList = (s.data.toList.drop a).take (b - a) := by
  cases s with
  | mk d =>
    simp [ByteArray.extract, ByteArray.copySlice]
theorem part_toks (s : ByteArray) (k : Nat) (x : C.Cl) (hk : (C.clus (U.toks s.data.toList))[k]? = some x) : U.toks (s.extract x.at_ (x.at_ + x.len)).data.toList = ((U.toks s.data.toList).drop x.frm).take (x.to_ - x.frm) := by
  obtain ⟨e1, e2, e3, e4, e5, e6, e7, e8, e9, e10⟩ := C.clus_steps _ (C.toks_14 _) k x hk
  rw [ext_list, Nat.add_sub_cancel_left, e1, e2, e3]
  have h := U.toks_cut ((U.toks s.data.toList).drop (C.sgF (U.toks s.data.toList) k)) ((U.toks s.data.toList).take (C.sgF (U.toks s.data.toList) k)) s.data.toList (List.take_append_drop _ _).symm
  have e : U.wsum ((U.toks s.data.toList).take (C.sgF (U.toks s.data.toList) k)) = C.atF (U.toks s.data.toList) k := rfl
  rw [e] at h
  obtain ⟨l, hl⟩ : ∃ l, U.toks s.data.toList = l := ⟨_, rfl⟩
  obtain ⟨n, hn⟩ : ∃ n, C.sgF l (k + 1) - C.sgF l k = n := ⟨_, rfl⟩
  rw [hl] at h e4 e5 ⊢
  rw [hn]
  have h2 := U.toks_cut ((l.drop (C.sgF l k)).drop n) ((l.drop (C.sgF l k)).take n) (s.data.toList.drop (C.atF l k)) (h.2.trans (List.take_append_drop _ _).symm)
  have ew : U.wsum ((l.drop (C.sgF l k)).take n) = x.len := by
    have e5' : C.sgF l (k + 1) = C.sgF l k + n := by omega
    have e6' : C.atF l (k + 1) = U.wsum (l.take (C.sgF l k + n)) := by rw [← e5']; rfl
    have e7' : C.atF l k = U.wsum (l.take (C.sgF l k)) := rfl
    rw [List.take_add, C.wsum_app] at e6'
    omega
  rw [ew] at h2
  exact h2.1
theorem part_first (s : ByteArray) (k : Nat) (x : C.Cl) (hk : (C.clus (U.toks s.data.toList))[k]? = some x) : 0 < (s.extract x.at_ (x.at_ + x.len)).size ∧ ∃ wd, Utf8.decode (s.extract x.at_ (x.at_ + x.len)) 0 = (C.rune (U.toks s.data.toList) (C.sgF (U.toks s.data.toList) k), wd) := by
  have hp := part_toks s k x hk
  obtain ⟨e1, e2, e3, e4, e5, e6, e7, e8, e9, e10⟩ := C.clus_steps _ (C.toks_14 _) k x hk
  obtain ⟨p, hpp⟩ : ∃ p, s.extract x.at_ (x.at_ + x.len) = p := ⟨_, rfl⟩
  rw [hpp, e2, e3] at hp
  rw [hpp]
  obtain ⟨l, hl⟩ : ∃ l, U.toks s.data.toList = l := ⟨_, rfl⟩
  rw [hl] at hp e5 e6 ⊢
  have hlen := U.wsum_toks p.data.toList
  have h0 : 0 < p.size := by
    rcases Nat.eq_zero_or_pos p.size with h | h
    · exfalso
      have hz : p.data.toList = [] := by
        have := U.size_eq p
        exact List.length_eq_zero_iff.1 (by omega)
      rw [hz, U.toks_nil] at hp
      have := congrArg List.length hp
      simp at this
      omega
    · exact h
  refine ⟨h0, ?_⟩
  have ht := toks_at h0
  obtain ⟨c, wd, hd⟩ : ∃ c wd, Utf8.decode p 0 = (c, wd) := ⟨_, _, rfl⟩
  rw [hd, List.drop_zero] at ht
  refine ⟨wd, ?_⟩
  rw [hd]
  rw [ht] at hp
  have h1 := congrArg (fun q => q[0]?) hp
  simp only [List.getElem?_cons_zero] at h1
  rw [List.getElem?_take, if_pos (by omega), List.getElem?_drop, Nat.add_zero] at h1
  unfold C.rune
  rw [← h1]
  rfl
end Go.Proofs.Ytclblidfamabdaa

/- bidi.classes: the walk. -/
set_option linter.unusedVariables false
set_option linter.unusedSimpArgs false
namespace Go.Proofs.Ytclblidfamabdaa
open Go.RowKit Go.Shelf Go.Lib Go.BigFrame
attribute [local go_sem] Oper.semAt_some

section
variable {F : Fence} {n : Nat} {P : Program} {w : World}
theorem step_append_in {ops : Array Oper} {o : Oper} {a : Act} {K : Act → World → Prop} {Q : Exit → Act → World → Prop} {E : Prop} {R : Value → World → Prop} (hgd : o.guard = none) (s x : Operand) (t : TypeId)
    (ho : o.op = .call { callee := .builtin .append, args := #[s, x], argTypes := #[t, t] }) (v xv : Value) (hs : a.eval s = v) (hx : a.eval x = xv)
    (hr : ∃ v' w', (Builtin.append_ #[t, t] o.type #[v, xv]).run P w = .ok v' w' ∧ R v' w') (h : ∀ v' w', R v' w' → K (a.put o.dst v') w') :
    if Region.wanted o (yielded ops a.tmps) = true then Oper.wpIn F n P o a w K Q else E := by
  have hw : Region.wanted o (yielded ops a.tmps) = true := by simp [Region.wanted, hgd]
  rw [if_pos hw]
  obtain ⟨v', w', hrun, r1⟩ := hr
  unfold Oper.wpIn
  refine ⟨?_, ?_⟩
  · simp [Oper.about, ho, resolve, Target.leads, Sem.run_pure]
  · rw [Oper.semAt_plain F _ _ (by rw [ho]; intro c hc'; cases hc')]
    simp [execOp, ho, resolve, invoke, builtin, hs, hx, hrun, Result.andThen]
    exact h _ _ r1
end
def kcI (l : List U.Tk) (k : Nat) : Int := (B.kcl l k : Int)
set_option maxRecDepth 1000000 in
set_option maxHeartbeats 4000000 in
theorem classes_any (s : ByteArray) (w : World) (hs : s.size ≤ 4194304) :
    Calls Try.prog 32 #[.string s] w fun e w' => ∃ v, e = .returned v ∧ Below w.heap.size w w' ∧ w'.ownsRow w.heap.size 3 1 v (C.clus (U.toks s.data.toList)).length (ns (kcI (U.toks s.data.toList)) (C.clus (U.toks s.data.toList)).length) := by
  obtain ⟨i0, hi, hz0, hz1, hz2⟩ := info_parts Try.infoIn
  have hlen : (C.clus (U.toks s.data.toList)).length ≤ s.size := Nat.le_trans (C.clus_length_le _) toks_len
  have hlw := U.wsum_toks s.data.toList
  rw [← U.size_eq] at hlw
  obtain ⟨R, hR⟩ : ∃ R, kcI (U.toks s.data.toList) = R := ⟨_, rfl⟩
  have HR := Lib.hid hR
  rw [hR]
  clear hR
  refine (callsIn_wide (n := 0)).1 (callsIn_of_wp_marks Try.func32 rfl trivial (wpIn_wide.2 ?_) rfl)
  simp only [Try.ntmps32, List.size_toArray, List.length_cons, List.length_nil, Nat.reduceAdd, Nat.reduceSub, Array.replicate_succ, Array.replicate_zero, List.push_toArray, List.append_toArray, List.nil_append, List.cons_append]
  go_wp2_with (go_at_call 47; refine (clusters_call _ _).mono ?_; rintro e w' ⟨rfl, rfl⟩)
  obtain ⟨W0, hW0⟩ : ∃ W0, ((w.alloc (.cells #[.string s] 9)).alloc (.cells #[.slice none 0 0] 29)).alloc (.cells #[.string s] 9) = W0 := ⟨_, rfl⟩
  rw [hW0]
  have hz : W0.heap.size = w.heap.size + 3 := by rw [← hW0]; simp
  have hb0 : W0.heap[w.heap.size + 1]? = some (.cells #[.slice none 0 0] 29 (0, 0)) := by
    rw [← hW0]
    have := World.alloc_heap_new (w.alloc (.cells #[.string s] 9)) (.cells #[.slice none 0 0] 29)
    rw [World.size_alloc] at this
    exact (Below.heap_alloc _ _ _ (by simp)).trans this
  have hbm : W0.heap[w.heap.size]? = some (.cells #[.string s] 9 (0, 0)) := by
    rw [← hW0]
    exact (Below.heap_alloc _ _ _ (by simp; omega)).trans ((Below.heap_alloc _ _ _ (by simp)).trans (World.alloc_heap_new w _))
  have hb1 : W0.cell? ⟨w.heap.size + 2, 0, none⟩ = some (.string s) := by
    rw [← hW0]
    have := (cell_new ((w.alloc (.cells #[.string s] 9)).alloc (.cells #[.slice none 0 0] 29)) (.string s) 9).1
    rw [World.size_alloc, World.size_alloc] at this
    exact this
  have hbel : Below w.heap.size w W0 := by rw [← hW0]; exact (((Below.refl _ _).alloc (Nat.le_refl _) _).alloc (by simp) _).alloc (by simp; omega) _
  clear hW0
  refine wp_rf W0 rfl enters_clusters (clusters_in s hs (w.heap.size + 2) W0 hb1) (Fr.refl _ _) (fun k h => by omega) (fun _ => rfl)
    (fun pre W => Coll w (w.heap.size + 1) 29 3 1 (W0.heap.size + 8) pre.length (ns R pre.length) W ∧ W.heap[w.heap.size]? = some (.cells #[.string s] 9 (0, 0))) (fun _ _ _ => False) ?hI (fun _ _ _ _ _ h => h) ?h0 ?round ?done ?stop
  case hI =>
    rintro pre A B hf ⟨h, h2⟩
    exact ⟨h.fr (lo := W0.heap.size) (hi := W0.heap.size + 8) (by omega) (by omega) h.size (Nat.le_refl _) hf, (hf.block _ (Array.getElem?_eq_some_iff.1 h2).1 (.inl (by omega))).trans h2⟩
  case h0 => exact ⟨⟨hbel, _, hb0, World.ownsRow_nil _ _ _ _⟩, hbm⟩
  case round =>
    rintro pre x post W hx hsz ⟨⟨hB, v, hv, hrow⟩, hbm⟩
    have hpl2 : pre.length ≤ 4194304 := by have := congrArg List.length hx; simp at this; omega
    have hxk : (C.clus (U.toks s.data.toList))[pre.length]? = some x := by rw [hx]; simp
    obtain ⟨e1, e2, e3, e4, e5, e6, e7, e8, e9, e10⟩ := C.clus_steps _ (C.toks_14 _) pre.length x hxk
    obtain ⟨hps, wd, hdec⟩ := part_first s pre.length x hxk
    have hal : x.at_ + x.len ≤ s.size := by omega
    have hRk : R pre.length = (B.cls (C.rune (U.toks s.data.toList) (C.sgF (U.toks s.data.toList) pre.length) : Int) : Int) := by rw [← HR.out]; rfl
    obtain ⟨rn, hrn⟩ : ∃ rn, C.rune (U.toks s.data.toList) (C.sgF (U.toks s.data.toList) pre.length) = rn := ⟨_, rfl⟩
    rw [hrn] at hRk hdec
    obtain ⟨part, hpart⟩ : ∃ p, s.extract x.at_ (x.at_ + x.len) = p := ⟨_, rfl⟩
    rw [hpart] at hps hdec
    have hsl : ∀ W : World, (Instr.slice 9 (.string s) (some (.int .i64 (x.at_ : Int))) (some (.int .i64 ((x.at_ : Int) + (x.len : Int)))) none).run Try.prog W = .ok (.string part) W := fun W => by
      rw [run_slice_string_if W 9 s .i64 .i64 (x.at_ : Int) ((x.at_ : Int) + (x.len : Int)) Try.underlying9, if_pos ⟨by omega, by omega⟩, if_pos ⟨by omega, by omega⟩, show (x.at_ : Int).toNat = x.at_ by omega, show ((x.at_ : Int) + (x.len : Int)).toNat = x.at_ + x.len by omega, hpart]
    have HPT := Lib.hid hpart
    have HRK := Lib.hid hRk
    clear hx hxk e1 e2 e3 e4 e5 e6 e7 e8 e9 e10 hrn hpart hRk
    unfold encC
    gi_wp2
    refine ⟨(Fr.refl _ _).alloc _, fun W3 hf3 hs3 hr3 => ?_⟩
    have hlt := (Array.getElem?_eq_some_iff.1 hv).1
    have hltm := (Array.getElem?_eq_some_iff.1 hbm).1
    have hx3 : W3.heap[W.heap.size]? = some (.cells #[.int .i64 (x.at_ : Int), .int .i64 (x.len : Int), .int .i64 (x.frm : Int), .int .i64 (x.to_ : Int), .int .i64 (x.cells : Int)] 75 (0, 0)) := rx_new hf3 (by omega)
    have hv3 : W3.heap[w.heap.size + 1]? = some (.cells #[v] 29 (0, 0)) := rx_old hf3 hv (by omega)
    have hm3 : W3.heap[w.heap.size]? = some (.cells #[.string s] 9 (0, 0)) := rx_old hf3 hbm (by omega)
    have hrow3 : W3.ownsRow (W0.heap.size + 8) 3 1 v pre.length (ns R pre.length) := ownsRow_fr (hrow.alloc _) hf3 (fun k hk => by omega)
    have hB3 : Below w.heap.size w W3 := (hB.alloc hB.size _).trans (hf3.toBelow (fun k hk => by omega) (by simp; have := hB.size; omega))
    have hz3 : W.heap.size + 1 = W3.heap.size := by rw [hs3]; simp
    have c0 : W3.cell? ⟨W.heap.size, 0, none⟩ = some (.int .i64 (x.at_ : Int)) := by simp [World.cell?, hx3]
    have c1 : W3.cell? ⟨W.heap.size, 1, none⟩ = some (.int .i64 (x.len : Int)) := by simp [World.cell?, hx3]
    have cm := (cell_of_block hm3).1
    have hbs : W0.heap.size + 8 ≤ W3.heap.size := by omega
    have HM := Lib.hid hm3
    have hml := (Array.getElem?_eq_some_iff.1 hm3).1
    clear hf3 hs3 hr3 hx3 hB hv hrow hlt hm3
    gi_wp2
    gi_loopw [] (fun wr => wr = W3.iter part 0) (fun _ => 0)
    case atStart => rfl
    case round =>
      obtain rfl := hrel
      have hit := World.iter_heap W3 part 0
      have hnx : ∀ ty, (Instr.next (.pointer (some ⟨W3.heap.size, 0, none⟩)) true ty).run Try.prog (W3.iter part 0) = _ := fun ty => run_next_any_at _ W3.heap.size part 0 ty hit hps
      rw [hdec] at hnx
      simp only at hnx
      have hA0 : Below W3.heap.size W3 ((W3.iter part 0).iterAt W3.heap.size part (0 + wd)) := ((Below.refl _ _).alloc (Nat.le_refl _) _).trans (((Fr.refl (fun k => k < W3.heap.size) (W3.iter part 0)).iterAt _ _ _ (fun _ h => by omega)).toBelow (fun k h => h) (by simp [World.iter]))
      obtain ⟨A1, hA1⟩ : ∃ A1, (W3.iter part 0).iterAt W3.heap.size part (0 + wd) = A1 := ⟨_, rfl⟩
      rw [hA1] at hnx hA0
      have cv : A1.cell? ⟨w.heap.size + 1, 0, none⟩ = some v := (World.cell?_of_block (hA0.block _ (Array.getElem?_eq_some_iff.1 hv3).1)).trans (cell_of_block hv3).1
      have hrow1 := own_below (b := W0.heap.size + 8) hrow3 hA0
      have hB1 := bst hB3 (hA0.mono (Nat.le_refl _))
      have HH := Lib.hid (And.intro hA0 (And.intro hrow1 hB1))
      clear hA1 hdec hA0 hit hrow1 hB1
      gi_wp2
      have hA0 := HH.out.1
      have hdl : A1.drew.heap.size = A1.heap.size := rfl
      have cvd : A1.drew.cell? ⟨w.heap.size + 1, 0, none⟩ = some v := cv
      have cva : ∀ o, (A1.drew.alloc o).cell? ⟨w.heap.size + 1, 0, none⟩ = some v := fun o => (World.cell?_of_block (Below.heap_alloc _ _ _ (World.block_lt_of_cell? _ _ cvd))).trans cvd
      have cva2 : ∀ o, (A1.alloc o).drew.cell? ⟨w.heap.size + 1, 0, none⟩ = some v := cva
      obtain ⟨cl, hcl⟩ : ∃ c, (B.cls (rn : Int) : Int) = c := ⟨_, rfl⟩
      have HCE := Lib.hid hcl
      have HCLS := Lib.hid (show R pre.length = cl by rw [HRK.out, hcl])
      let RR : Value → World → Prop := fun v' w1 => w1.ownsRow (W0.heap.size + 8) 3 1 v' (pre.length + 1) (ns R pre.length ++ [.int .i64 cl]) ∧ (A1.drew.alloc (.cells #[.int .i64 cl] 3)).grownBy w1 v.ownBlock
      have APP : Hid (∃ v' w', (Builtin.append_ #[29, 29] 29 #[v, .slice (some ⟨A1.heap.size, 0, none⟩) 1 1]).run Try.prog (A1.drew.alloc (.cells #[.int .i64 cl] 3)) = .ok v' w' ∧ RR v' w') := Lib.hid (by
        obtain ⟨v', w', h1, h2, h3, _⟩ := run_append_own (P := Try.prog) (A1.drew.alloc (.cells #[.int .i64 cl] 3)) (W0.heap.size + 8) 29 29 3 i0 _ 1 8 Try.underlying29 hi hz0 hz1 hz2 rfl (by decide) v pre.length (ns R pre.length) ((show A1.drew.ownsRow _ _ _ _ _ _ from HH.out.2.1).alloc _) ⟨A1.heap.size, 0, none⟩ 1 1 [.int .i64 cl] rfl (World.news_of_block (World.alloc_heap_new A1.drew _)) (by simp [Value.oneCell']) (by unfold maxLen; omega) (by omega) (by have := hA0.size; simp; omega)
        exact ⟨v', w', h1, h2, h3⟩)
      have KF : Hid (∀ v' w1, w1.ownsRow (W0.heap.size + 8) 3 1 v' (pre.length + 1) (ns R pre.length ++ [.int .i64 cl]) → (A1.drew.alloc (.cells #[.int .i64 cl] 3)).grownBy w1 v.ownBlock →
        (Coll w (w.heap.size + 1) 29 3 1 (W0.heap.size + 8) (pre.length + 1) (ns R pre.length ++ [.int .i64 cl]) (w1.setCell ⟨w.heap.size + 1, 0, none⟩ v') ∧ Fr (fun k => k = w.heap.size + 2 ∨ W0.heap.size ≤ k ∧ k < W0.heap.size + 2 + 6 ∨ k = w.heap.size) W3 (w1.setCell ⟨w.heap.size + 1, 0, none⟩ v') ∧ w1.heap[w.heap.size + 1]? = some (.cells #[v] 29 (0, 0)))) := Lib.hid (fun v' w1 hown hg => by
        have hD : Below W3.heap.size W3 (A1.drew.alloc (.cells #[.int .i64 cl] 3)) := (hA0.drew).alloc hA0.size _
        exact Coll.append hB3 hv3 hrow3 (by omega) (by omega) (Fr.of_below hD (fun k hk _ => hk)) hD hown hg (fun k hk => by omega))
      clear hA0 hdl hcl
      refine wpIn_region_any (by kernel_rfl) ?_
      try (change wpAnyIn _ _ _ _ _ _ _ _ _ (World.drew _))
      refine wpAnyIn_ready (rs := [0, 1]) (by kernel_rfl) (by simp) ?_
      refine AllReadyIn.cons rfl (fun K hK => ?_) (AllReadyIn.cons rfl (fun K hK => ?_) AllReadyIn.nil)
      · go_simp
        refine hK _ _ ?_; clear hK K
        refine wpAnyIn_ready (rs := [1]) (by kernel_rfl) (by simp) ?_
        refine AllReadyIn.cons rfl (fun K hK => ?_) AllReadyIn.nil
        go_simp
        refine hK _ _ ?_; clear hK K
        refine wpAnyIn_ready (rs := [2]) (by kernel_rfl) (by simp) ?_
        refine AllReadyIn.cons rfl (fun K hK => ?_) AllReadyIn.nil
        go_simp
        refine ⟨trivial, rfl, ?_⟩; refine (CallsIn.inRound _ (callsIn_wide.2 (class_any _ _))).mono ?_; rintro e w' ⟨rfl, rfl⟩; rw [HCE.out]
        refine hK _ _ ?_; clear hK K
        refine wpAnyIn_ready (rs := [3]) (by kernel_rfl) (by simp) ?_
        refine AllReadyIn.cons rfl (fun K hK => ?_) AllReadyIn.nil
        go_simp
        refine hK _ _ ?_; clear hK K
        refine wpAnyIn_ready (rs := [4]) (by kernel_rfl) (by simp) ?_
        refine AllReadyIn.cons rfl (fun K hK => ?_) AllReadyIn.nil
        refine step_append_in (R := RR) (by rfl) (.tmp 23) (.tmp 26) 29 (by rfl) _ _ (by rfl) (by rfl) APP.out ?_
        rintro v' w1 ⟨hown, hg⟩
        obtain ⟨g', cap', rfl⟩ := ownsRow_succ hown
        refine hK _ _ ?_; clear hK K
        obtain ⟨q1, q2, q3⟩ := KF.out _ _ hown hg
        have cv1 := (cell_of_block q3).1
        have fv1 := (cell_of_block q3).2
        refine wpAnyIn_ready (rs := [5]) (by kernel_rfl) (by simp) ?_
        refine AllReadyIn.cons rfl (fun K hK => ?_) AllReadyIn.nil
        go_simp
        refine hK _ _ ?_; clear hK K
        refine wpAnyIn_done (by kernel_rfl) ?_ _
        (gi_wp2; exact ⟨q2.mono (fun k _ h => h.elim .inl (fun h => .inr (.inl h))), by show Coll _ _ _ _ _ _ (pre ++ [x]).length (ns R (pre ++ [x]).length) _; rw [List.length_append, show [x].length = 1 from rfl, ns_succ, HCLS.out]; exact q1, (q2.block _ hml (.inr (.inr rfl))).trans HM.out⟩)
      · go_simp
        refine hK _ _ ?_; clear hK K
        refine wpAnyIn_ready (rs := [0, 2]) (by kernel_rfl) (by simp) ?_
        refine AllReadyIn.cons rfl (fun K hK => ?_) (AllReadyIn.cons rfl (fun K hK => ?_) AllReadyIn.nil)
        · go_simp
          refine hK _ _ ?_; clear hK K
          refine wpAnyIn_ready (rs := [2]) (by kernel_rfl) (by simp) ?_
          refine AllReadyIn.cons rfl (fun K hK => ?_) AllReadyIn.nil
          go_simp
          refine ⟨trivial, rfl, ?_⟩; refine (CallsIn.inRound _ (callsIn_wide.2 (class_any _ _))).mono ?_; rintro e w' ⟨rfl, rfl⟩; rw [HCE.out]
          refine hK _ _ ?_; clear hK K
          refine wpAnyIn_ready (rs := [3]) (by kernel_rfl) (by simp) ?_
          refine AllReadyIn.cons rfl (fun K hK => ?_) AllReadyIn.nil
          go_simp
          refine hK _ _ ?_; clear hK K
          refine wpAnyIn_ready (rs := [4]) (by kernel_rfl) (by simp) ?_
          refine AllReadyIn.cons rfl (fun K hK => ?_) AllReadyIn.nil
          refine step_append_in (R := RR) (by rfl) (.tmp 23) (.tmp 26) 29 (by rfl) _ _ (by rfl) (by rfl) APP.out ?_
          rintro v' w1 ⟨hown, hg⟩
          obtain ⟨g', cap', rfl⟩ := ownsRow_succ hown
          refine hK _ _ ?_; clear hK K
          obtain ⟨q1, q2, q3⟩ := KF.out _ _ hown hg
          have cv1 := (cell_of_block q3).1
          have fv1 := (cell_of_block q3).2
          refine wpAnyIn_ready (rs := [5]) (by kernel_rfl) (by simp) ?_
          refine AllReadyIn.cons rfl (fun K hK => ?_) AllReadyIn.nil
          go_simp
          refine hK _ _ ?_; clear hK K
          refine wpAnyIn_done (by kernel_rfl) ?_ _
          (gi_wp2; exact ⟨q2.mono (fun k _ h => h.elim .inl (fun h => .inr (.inl h))), by show Coll _ _ _ _ _ _ (pre ++ [x]).length (ns R (pre ++ [x]).length) _; rw [List.length_append, show [x].length = 1 from rfl, ns_succ, HCLS.out]; exact q1, (q2.block _ hml (.inr (.inr rfl))).trans HM.out⟩)
        · go_simp
          refine ⟨trivial, rfl, ?_⟩; refine (CallsIn.inRound _ (callsIn_wide.2 (class_any _ _))).mono ?_; rintro e w' ⟨rfl, rfl⟩; rw [HCE.out]
          refine hK _ _ ?_; clear hK K
          refine wpAnyIn_ready (rs := [0, 3]) (by kernel_rfl) (by simp) ?_
          refine AllReadyIn.cons rfl (fun K hK => ?_) (AllReadyIn.cons rfl (fun K hK => ?_) AllReadyIn.nil)
          · go_simp
            refine hK _ _ ?_; clear hK K
            refine wpAnyIn_ready (rs := [3]) (by kernel_rfl) (by simp) ?_
            refine AllReadyIn.cons rfl (fun K hK => ?_) AllReadyIn.nil
            go_simp
            refine hK _ _ ?_; clear hK K
            refine wpAnyIn_ready (rs := [4]) (by kernel_rfl) (by simp) ?_
            refine AllReadyIn.cons rfl (fun K hK => ?_) AllReadyIn.nil
            refine step_append_in (R := RR) (by rfl) (.tmp 23) (.tmp 26) 29 (by rfl) _ _ (by rfl) (by rfl) APP.out ?_
            rintro v' w1 ⟨hown, hg⟩
            obtain ⟨g', cap', rfl⟩ := ownsRow_succ hown
            refine hK _ _ ?_; clear hK K
            obtain ⟨q1, q2, q3⟩ := KF.out _ _ hown hg
            have cv1 := (cell_of_block q3).1
            have fv1 := (cell_of_block q3).2
            refine wpAnyIn_ready (rs := [5]) (by kernel_rfl) (by simp) ?_
            refine AllReadyIn.cons rfl (fun K hK => ?_) AllReadyIn.nil
            go_simp
            refine hK _ _ ?_; clear hK K
            refine wpAnyIn_done (by kernel_rfl) ?_ _
            (gi_wp2; exact ⟨q2.mono (fun k _ h => h.elim .inl (fun h => .inr (.inl h))), by show Coll _ _ _ _ _ _ (pre ++ [x]).length (ns R (pre ++ [x]).length) _; rw [List.length_append, show [x].length = 1 from rfl, ns_succ, HCLS.out]; exact q1, (q2.block _ hml (.inr (.inr rfl))).trans HM.out⟩)
          · go_simp
            refine hK _ _ ?_; clear hK K
            refine wpAnyIn_ready (rs := [0]) (by kernel_rfl) (by simp) ?_
            refine AllReadyIn.cons rfl (fun K hK => ?_) AllReadyIn.nil
            go_simp
            refine hK _ _ ?_; clear hK K
            refine wpAnyIn_ready (rs := [4]) (by kernel_rfl) (by simp) ?_
            refine AllReadyIn.cons rfl (fun K hK => ?_) AllReadyIn.nil
            refine step_append_in (R := RR) (by rfl) (.tmp 23) (.tmp 26) 29 (by rfl) _ _ (by rfl) (by rfl) APP.out ?_
            rintro v' w1 ⟨hown, hg⟩
            obtain ⟨g', cap', rfl⟩ := ownsRow_succ hown
            refine hK _ _ ?_; clear hK K
            obtain ⟨q1, q2, q3⟩ := KF.out _ _ hown hg
            have cv1 := (cell_of_block q3).1
            have fv1 := (cell_of_block q3).2
            refine wpAnyIn_ready (rs := [5]) (by kernel_rfl) (by simp) ?_
            refine AllReadyIn.cons rfl (fun K hK => ?_) AllReadyIn.nil
            go_simp
            refine hK _ _ ?_; clear hK K
            refine wpAnyIn_done (by kernel_rfl) ?_ _
            (gi_wp2; exact ⟨q2.mono (fun k _ h => h.elim .inl (fun h => .inr (.inl h))), by show Coll _ _ _ _ _ _ (pre ++ [x]).length (ns R (pre ++ [x]).length) _; rw [List.length_append, show [x].length = 1 from rfl, ns_succ, HCLS.out]; exact q1, (q2.block _ hml (.inr (.inr rfl))).trans HM.out⟩)
  case done =>
    rintro W ⟨⟨hB, v, hv, hrow⟩, hbm⟩ hD
    have cv := (cell_of_block hv).1
    go_wp2
    refine ⟨by simp, .inl ⟨_, _, rfl, run_takeDeferred hD, ?_⟩⟩
    refine ⟨_, results_tmp rfl _ _ _, v, rfl, ?_, ?_⟩
    · exact (Fr.of_below (S := fun k => k < w.heap.size) hB (fun k _ h => h)).putObj _ _ (fun _ h => by omega) |>.toBelow (fun k h => h) (Nat.le_refl _)
    · exact ownsRow_base (ownsRow_fr (S := fun k => W0.heap.size + 8 ≤ k) hrow ((Fr.refl _ _).putObj _ _ (fun _ h => by omega)) (fun k h => h)) (by omega)
  case stop =>
    intro c pre W _ _ h
    exact h.elim
end Go.Proofs.Ytclblidfamabdaa

/- Levels, plain: over the classes as they became, over the classes as they were. -/
set_option linter.unusedVariables false
namespace Go.Proofs.Ytclblidfamabdaa
open Go.RowKit Go.Shelf Go.Lib

theorem B.Clo.up {c cl ch : Nat → Nat} {n : Nat} (h : B.Clo c cl ch n) : B.Up cl := fun x hx => (h.lt x hx).1
theorem B.nz_S3 {a b : Nat} (h : B.nz a = B.nz b) : B.S3 a = B.S3 b ∧ (B.S3 a = true → a = b) := by
  unfold B.nz at h
  unfold B.S3
  by_cases ha : B.isIso a = true <;> by_cases hb : B.isIso b = true
  all_goals simp only [ha, hb, if_true, if_false, Bool.false_eq_true] at h
  all_goals (simp [B.isIso] at ha hb)
  · refine ⟨?_, fun h => ?_⟩
    · rw [Bool.eq_iff_iff]; simp; omega
    · simp at h; omega
  · refine ⟨?_, fun h => ?_⟩
    · rw [Bool.eq_iff_iff]; simp; omega
    · simp at h; omega
  · refine ⟨?_, fun h => ?_⟩
    · rw [Bool.eq_iff_iff]; simp; omega
    · simp at h; omega
  · subst h; exact ⟨rfl, fun _ => rfl⟩
theorem B.stgF_nz (ch c : Nat → Nat) (h : ∀ x, B.nz (ch x) = B.nz (c x)) (it : Nat → Nat) : ∀ f n, B.stgF ch it f n = B.stgF c it f n := by
  intro f
  induction f with
  | zero => intro n; rfl
  | succ f ih =>
    intro n
    unfold B.stgF
    obtain ⟨h1, h2⟩ := B.nz_S3 (h (it n))
    by_cases e : B.S3 (ch (it n)) = true
    · rw [if_pos e, if_pos (h1 ▸ e), h2 e]
    · rw [if_neg e, if_neg (h1 ▸ e)]; exact ih (n + 1)
theorem B.inn_chg {c cl ch : Nat → Nat} {n : Nat} (h : B.Clo c cl ch n) (e i : Nat) (hi : cl i ≠ 0) : B.inn ch cl e i = B.inn c cl e i := by
  unfold B.inn B.odd B.stg
  rw [(h.op i hi).2, B.stgF_nz ch c h.ch]
theorem B.lev_chg {c cl ch : Nat → Nat} {n : Nat} (h : B.Clo c cl ch n) : ∀ f frm tz e k, frm ≤ k → B.lev ch cl f frm tz e k = B.lev c cl f frm tz e k := by
  intro f
  induction f with
  | zero => intro frm tz e k _; rfl
  | succ f ih =>
    intro frm tz e k hk
    unfold B.lev
    obtain ⟨s1, s2⟩ := B.loc_spec h.up frm k hk
    by_cases hl : B.itm cl frm (B.loc cl frm k) = k
    · rw [if_pos hl, if_pos hl]
      have : B.res (B.sid e) (B.cnt cl frm tz) (fun n => ch (B.itm cl frm n)) = B.res (B.sid e) (B.cnt cl frm tz) (fun n => c (B.itm cl frm n)) := by
        apply B.res_nz
        · unfold B.sid; split <;> rfl
        · funext j; exact h.ch _
      rw [this]
    · rw [if_neg hl, if_neg hl]
      have hci : cl (B.itm cl frm (B.loc cl frm k)) ≠ 0 := by
        intro h0
        have : B.itm cl frm (B.loc cl frm k + 1) = B.nx cl (B.itm cl frm (B.loc cl frm k)) := rfl
        rw [this] at s2
        unfold B.nx at s2
        rw [if_pos h0] at s2
        omega
      rw [B.inn_chg h e _ hci]
      exact ih _ _ _ _ (by omega)
theorem B.Clo.ok {c cl ch : Nat → Nat} {n : Nat} (h : B.Clo c cl ch n) (hc : ∀ j, c j ≤ 17) : ClOk n ch cl :=
  ⟨h.up, fun x hx => by
    by_cases e : cl x = 0
    · omega
    · exact (h.lt x e).2, h.nest, fun j => by
    have h1 := h.ch j
    have h2 := hc j
    unfold B.nz at h1
    by_cases ha : B.isIso (ch j) = true
    · simp [B.isIso] at ha; omega
    · rw [if_neg ha] at h1; rw [h1]; split <;> omega⟩
end Go.Proofs.Ytclblidfamabdaa

/- slices.Clone of whatever slice of numbers. -/
set_option linter.unusedVariables false
set_option linter.unusedSimpArgs false
namespace Go.Proofs.Ytclblidfamabdaa
open Go.RowKit Go.Shelf Go.Lib Go.BigFrame
attribute [local go_sem] Oper.semAt_some

set_option maxRecDepth 1000000 in
theorem clone_none (l c : Nat) (w : World) : Calls Try.prog 33 #[.slice none l c] w fun e w' => e = .returned (.slice none 0 0) ∧ w = w' := by
  have he := eql_slice_nil w none l c
  go_enter Try.func33, Try.ntmps33
  go_wp2
  go_ret
  exact ⟨rfl, rfl⟩
set_option maxRecDepth 1000000 in
theorem clone_zero (a : Addr) (cap : Nat) (w : World) :
    Calls Try.prog 33 #[.slice (some a) 0 cap] w fun e w' => ∃ v, e = .returned v ∧ Below w.heap.size w w' ∧ w'.ownsRow w.heap.size 3 1 v 0 [] := by
  obtain ⟨i0, hi, hz0, hz1, hz2⟩ := info_parts Try.infoIn
  have he := eql_slice_nil w (some a) 0 cap
  go_enter Try.func33, Try.ntmps33
  go_wp2_with (at_builtin; go_must (refine wpList_append_own _ rfl _ _ 29 rfl w.heap.size 3 i0 _ 1 8 Try.underlying29 hi hz0 hz1 hz2 rfl (by decide) _ _ _ rfl (own_empty w _ (Nat.le_refl _)) a 0 cap [] rfl rfl (fun j u h => by simp at h) (fun u h => by simp at h) (by unfold maxLen; omega) (by omega) (by simp) ?_); intro v' w2 hown hg _; rw [Nat.zero_add, List.nil_append] at hown)
  go_ret
  exact ⟨_, rfl, ((Below.refl _ _).alloc (Nat.le_refl _) _).grown hg (by simp) (fun q e => by have := Option.some.inj e; simp at this; omega), hown⟩
/-- A slice of the call's own, or none of its numbers. -/
def Cn (w w' : World) (c : Nat → Int) (m : Nat) (v : Value) : Prop := ∃ A c3, v = .slice A m c3 ∧ m ≤ c3 ∧ (∀ q, v.ownBlock = some q → w.heap.size ≤ q ∧ q < w'.heap.size) ∧ (0 < m → ∃ g, A = some ⟨g, 0, none⟩ ∧ w.heap.size ≤ g ∧ Rw w' g c m)
theorem cn_row {w w' : World} {c : Nat → Int} {m : Nat} {v : Value} (h : w'.ownsRow w.heap.size 3 1 v m (ns c m)) : Cn w w' c m v := by
  obtain ⟨A, c3, rfl, hc, hA⟩ := ownN_form h
  refine ⟨A, c3, rfl, hc, fun q e => h.lt q e, fun hm => ?_⟩
  obtain ⟨g, rfl⟩ := hA hm
  exact ⟨g, rfl, (h.lt g rfl).1, row_rw h⟩
theorem clone_any (v : Value) (m : Nat) (c : Nat → Int) (w : World) (hm : m ≤ 4194304) (hR : Rd w v c m) :
    Calls Try.prog 33 #[v] w fun e w' => ∃ v', e = .returned v' ∧ Below w.heap.size w w' ∧ Cn w w' c m v' := by
  obtain ⟨A, cap, rfl, hc, h1⟩ := hR
  rcases A with _ | a
  · have h0 : m = 0 := by
      rcases Nat.eq_zero_or_pos m with h | h
      · exact h
      · obtain ⟨g, o, e, _⟩ := h1 h; cases e
    subst h0
    refine (clone_none 0 cap w).mono ?_
    rintro e w' ⟨rfl, rfl⟩
    exact ⟨_, rfl, Below.refl _ _, none, 0, rfl, Nat.le_refl _, fun q e => by simp [Value.ownBlock] at e, fun h => absurd h (by omega)⟩
  · rcases Nat.eq_zero_or_pos m with h0 | h0
    · subst h0
      refine (clone_zero a cap w).mono ?_
      rintro e w' ⟨v', rfl, hb, hr⟩
      exact ⟨v', rfl, hb, cn_row hr⟩
    · obtain ⟨g, o, e, h2⟩ := h1 h0
      cases e
      refine (clone_some g o m cap c w hm h2).mono ?_
      rintro e w' ⟨v', rfl, hb, hr⟩
      exact ⟨v', rfl, hb, cn_row hr⟩
end Go.Proofs.Ytclblidfamabdaa

/- A new paragraph in memory: both orders of its making. -/
set_option linter.unusedVariables false
namespace Go.Proofs.Ytclblidfamabdaa
open Go.RowKit Go.Shelf Go.Lib Go.BigFrame

def objP (u a b : Value) (gl m : Nat) : Obj := .cells #[u, a, b, .slice (some ⟨gl, 0, none⟩) m m] 55
structure P7 (W wx : World) (u : Value) (cc : Nat → Int) (m xb gl : Nat) (A3 : Option Addr) (c3 : Nat) : Prop where
  box : wx.heap[xb]? = some (.cells #[u, .slice A3 m c3, .slice none 0 0, .slice (some ⟨gl, 0, none⟩) m m] 55 (0, 0))
  below : Below W.heap.size W wx
  cap : m ≤ c3
  own : (Value.slice A3 m c3).ownBlock ≠ some gl
  cln : 0 < m → ∃ g, A3 = some ⟨g, 0, none⟩ ∧ W.heap.size ≤ g ∧ g ≠ gl ∧ g ≠ xb ∧ Rw wx g cc m
  far : W.heap.size ≤ gl ∧ gl ≠ xb ∧ W.heap.size ≤ xb
  zero : Rw wx gl (fun _ => 0) m
theorem p7_a {W V w3 : World} {u : Value} {cc : Nat → Int} {m c3 : Nat} {A3 : Option Addr} {MC : Array Value} (hV : Below W.heap.size W V) (hb : Below V.heap.size V w3) (hc : m ≤ c3) (ho : ∀ q, (Value.slice A3 m c3).ownBlock = some q → V.heap.size ≤ q ∧ q < w3.heap.size) (hn : 0 < m → ∃ g, A3 = some ⟨g, 0, none⟩ ∧ V.heap.size ≤ g ∧ Rw w3 g cc m) (hz : ∀ X : World, Rw (X.alloc (.cells MC 3)) X.heap.size (fun _ => 0) m) :
    P7 W ((w3.alloc (.cells MC 3)).alloc (.cells #[u, .slice A3 m c3, .slice none 0 0, .slice (some ⟨w3.heap.size, 0, none⟩) m m] 55)) u cc m (w3.heap.size + 1) w3.heap.size A3 c3 := by
  have s1 := hV.size
  have s2 := hb.size
  refine ⟨?_, ?_, hc, fun e => by have := ho _ e; omega, fun h => ?_, ⟨by omega, by omega, by omega⟩, (hz w3).alloc _⟩
  · have := World.alloc_heap_new (w3.alloc (.cells MC 3)) (.cells #[u, .slice A3 m c3, .slice none 0 0, .slice (some ⟨w3.heap.size, 0, none⟩) m m] 55)
    rw [World.size_alloc] at this
    exact this
  · exact ((bst hV hb).alloc (by omega) _).alloc (by simp; omega) _
  · obtain ⟨g, e, h1, h2⟩ := hn h
    have := h2.lt
    exact ⟨g, e, by omega, by omega, by omega, (h2.alloc _).alloc _⟩
theorem p7_b {W V w3 : World} {u : Value} {cc : Nat → Int} {m c3 gl : Nat} {A3 : Option Addr} (hV : Below W.heap.size W V) (hb : Below V.heap.size V w3) (hgl : W.heap.size ≤ gl) (hz : Rw V gl (fun _ => 0) m) (hc : m ≤ c3) (ho : ∀ q, (Value.slice A3 m c3).ownBlock = some q → V.heap.size ≤ q ∧ q < w3.heap.size) (hn : 0 < m → ∃ g, A3 = some ⟨g, 0, none⟩ ∧ V.heap.size ≤ g ∧ Rw w3 g cc m) :
    P7 W (w3.alloc (.cells #[u, .slice A3 m c3, .slice none 0 0, .slice (some ⟨gl, 0, none⟩) m m] 55)) u cc m w3.heap.size gl A3 c3 := by
  have s1 := hV.size
  have s2 := hb.size
  have s3 := hz.lt
  refine ⟨World.alloc_heap_new w3 _, (bst hV hb).alloc (by omega) _, hc, fun e => by have := ho _ e; omega, fun h => ?_, ⟨hgl, by omega, by omega⟩, ?_⟩
  · obtain ⟨g, e, h1, h2⟩ := hn h
    have := h2.lt
    exact ⟨g, e, by omega, by omega, by omega, h2.alloc _⟩
  · exact (hz.fr (Fr.of_below (S := fun k => k < V.heap.size) hb (fun k _ h => h)) s3).alloc _
theorem p7_px {W wx w4 : World} {u : Value} {ch cl : Nat → Nat} {m xb gl g gc c3 : Nat} {A3 : Option Addr} {cc : Nat → Int} (h : P7 W wx u cc m xb gl A3 c3) (hf : Fr (fun k => k ≠ g) wx w4) (hgx : g ≠ xb) (hgl : g ≠ gl) (hgc : wx.heap.size ≤ gc) (hcl : Rw w4 gc (clI cl) m) (hch : 0 < m → A3 = some ⟨g, 0, none⟩ ∧ Rw w4 g (fun j => (ch j : Int)) m) :
    Px (w4.setCell ⟨xb, 2, none⟩ (.slice (some ⟨gc, 0, none⟩) m m)) xb m gl u (.slice A3 m c3) (.slice (some ⟨gc, 0, none⟩) m m) ch cl := by
  have hxl := (Array.getElem?_eq_some_iff.1 h.box).1
  have hgll := h.zero.lt
  have hb : w4.heap[xb]? = some (.cells #[u, .slice A3 m c3, .slice none 0 0, .slice (some ⟨gl, 0, none⟩) m m] 55 (0, 0)) := (hf.block xb hxl (Ne.symm hgx)).trans h.box
  refine ⟨?_, ?_, ?_, Ne.symm h.far.2.1, ?_, ?_⟩
  · show (w4.heap.modify xb _)[xb]? = _
    rw [Array.getElem?_modify, if_pos rfl, hb]
    rfl
  · refine ⟨A3, c3, rfl, h.cap, fun hm => ?_⟩
    obtain ⟨e, h1⟩ := hch hm
    exact ⟨g, 0, e, fun j hj => by rw [Nat.zero_add]; exact ((h1.other hgx).at hj).1⟩
  · exact (hcl.other (by omega)).rd m (Nat.le_refl _)
  · exact h.own
  · intro e
    have := Option.some.inj e
    simp at this
    omega
end Go.Proofs.Ytclblidfamabdaa
