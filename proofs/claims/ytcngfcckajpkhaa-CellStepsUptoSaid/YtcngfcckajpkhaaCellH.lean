/- cell.Column, cell.Sign. -/
import Derived.Test.YtcngfcckajpkhaaCellL
set_option linter.unusedVariables false
set_option linter.unusedSimpArgs false
namespace Go.Proofs.Ytcngfcckajpkhaa
open Go.RowKit Go.Shelf Go.Lib Go.BigFrame
attribute [local go_sem] Oper.semAt_some

set_option maxRecDepth 1000000 in
set_option maxHeartbeats 4000000 in
theorem column_any (s : ByteArray) (sign : Int) (w : World) (hs : s.size ≤ 4194304) (hb : -9223372036854775808 ≤ sign ∧ sign ≤ 9223372036854775807) :
    Calls Try.prog 33 #[.string s, .int .i64 sign] w fun e w' => e = .returned (.tuple #[.int .i64 ((C.colI (C.clus (U.toks s.data.toList)) (U.toks s.data.toList).length sign).1 : Int), .int .i64 ((C.colI (C.clus (U.toks s.data.toList)) (U.toks s.data.toList).length sign).2 : Int)]) ∧ Below w.heap.size w w' := by
  obtain ⟨R1, R2, hR⟩ : ∃ R1 R2, C.colI (C.clus (U.toks s.data.toList)) (U.toks s.data.toList).length sign = (R1, R2) := ⟨_, _, rfl⟩
  rw [hR]
  have HR := Lib.hid hR
  clear hR
  have hll := toks_len (s := s)
  have hlen : (C.clus (U.toks s.data.toList)).length ≤ s.size := Nat.le_trans (C.clus_length_le _) hll
  have hcl := C.clus_cells_le (U.toks s.data.toList)
  have ST := C.clus_steps (U.toks s.data.toList) (C.toks_14 _)
  have hsz := C.sgF_zero (U.toks s.data.toList)
  have hse := C.sgF_end (U.toks s.data.toList)
  obtain ⟨sg, hsg⟩ : ∃ sg, C.sgF (U.toks s.data.toList) = sg := ⟨_, rfl⟩
  rw [hsg] at ST hsz hse
  refine (callsIn_wide (n := 0)).1 (callsIn_of_wp_marks Try.func33 rfl trivial (wpIn_wide.2 ?_) rfl)
  simp only [Try.ntmps33, List.size_toArray, List.length_cons, List.length_nil, Nat.reduceAdd, Nat.reduceSub, Array.replicate_succ, Array.replicate_zero, List.push_toArray, List.append_toArray, List.nil_append, List.cons_append]
  go_wp2_with (go_at_call 30; refine (clusters_call _ _).mono ?_; rintro e w' ⟨rfl, rfl⟩)
  obtain ⟨W0, hW0⟩ : ∃ W0, (((w.alloc (.cells #[.int .i64 sign] 3)).alloc (.cells #[.int .i64 0] 3)).alloc (.cells #[.int .i64 0] 3)).alloc (.cells #[.string s] 9) = W0 := ⟨_, rfl⟩
  rw [hW0]
  have hz1 : W0.heap.size ≤ w.heap.size + 4 := by rw [← hW0]; simp
  have hz2 : w.heap.size + 4 ≤ W0.heap.size := by rw [← hW0]; simp
  have hT : Bs w [.cells #[.int .i64 sign] 3, .cells #[.int .i64 0] 3, .cells #[.int .i64 0] 3, .cells #[.string s] 9] W0 := by
    rw [← hW0]
    exact ((((Bs.nil w).snoc _ (by simp)).snoc _ (by simp)).snoc _ (by simp)).snoc _ (by simp)
  have hb1 : W0.cell? ⟨w.heap.size + 3, 0, none⟩ = some (.string s) := (hT.cell 3 rfl).1
  clear hW0
  refine wp_rf W0 rfl enters_clusters (clusters_in s hs (w.heap.size + 3) W0 hb1) (Fr.refl _ _) (fun k h => by omega) (fun _ => rfl)
    (fun pre W => Bs w [.cells #[.int .i64 sign] 3, .cells #[.int .i64 (C.cells (C.upTo pre sign) : Int)] 3, .cells #[.int .i64 (sg pre.length : Int)] 3, .cells #[.string s] 9] W) (fun _ _ _ => False) ?hI (fun _ _ _ _ _ h => h) ?h0 ?round ?done ?stop
  case hI => rintro pre A B hf h; exact h.fr hf (fun k hk => by have : k < w.heap.size + 4 := hk; omega)
  case h0 => simpa [hsz, C.upTo, C.cells] using hT
  case round =>
    rintro pre x post W hx hsz' hT
    have hxm := hcl x (by rw [hx]; simp)
    have hpm := C.cells_upTo_le pre sign (fun c hc => hcl c (by rw [hx]; simp [hc]))
    have hpl : pre.length ≤ 4194304 := by rw [hx] at hlen; simp at hlen; omega
    have stx := ST pre.length x (by rw [hx]; simp)
    have e3 := stx.2.2.1
    have e6 := stx.2.2.2.2.2.1
    clear stx
    have hxt : x.to_ ≤ 4194304 := by omega
    have HUS := Lib.hid (C.upTo_snoc pre x sign)
    unfold encC
    have HE3 := Lib.hid e3
    clear hx hcl hlen ST e3 e6 HR
    gi_wp2
    refine ⟨(Fr.refl _ _).alloc _, fun W3 hf3 hs3 hr3 => ?_⟩
    have hx3 : W3.heap[W.heap.size]? = some (.cells #[.int .i64 (x.at_ : Int), .int .i64 (x.len : Int), .int .i64 (x.frm : Int), .int .i64 (x.to_ : Int), .int .i64 (x.cells : Int)] 33 (0, 0)) := rx_new (lx := W0.heap.size + 1) hf3 (by omega)
    have hT3 := (hT.fr (S := fun _ => True) ((Fr.refl _ _).alloc (.cells #[.int .i64 (x.at_ : Int), .int .i64 (x.len : Int), .int .i64 (x.frm : Int), .int .i64 (x.to_ : Int), .int .i64 (x.cells : Int)] 33)) (fun _ _ => trivial)).fr hf3 (fun k hk => by have : k < w.heap.size + 4 := hk; omega)
    have c3 : W3.cell? ⟨W.heap.size, 3, none⟩ = some (.int .i64 (x.to_ : Int)) := by simp [World.cell?, hx3]
    have c4 : W3.cell? ⟨W.heap.size, 4, none⟩ = some (.int .i64 (x.cells : Int)) := by simp [World.cell?, hx3]
    have hsep : W.heap.size ≠ w.heap.size + 1 ∧ W.heap.size ≠ w.heap.size + 2 := by have := hT.size; simp at this; omega
    have b0 : W3.cell? ⟨w.heap.size, 0, none⟩ = some (.int .i64 sign) := (hT3.cell 0 rfl).1
    obtain ⟨b1, f1⟩ := hT3.cell 1 rfl
    obtain ⟨b2, f2⟩ := hT3.cell 2 rfl
    have hK := Lib.hid hT3
    clear hT3 hT hf3 hs3 hr3 hx3
    by_cases hxs : (x.to_ : Int) ≤ sign
    · gi_wp2
      refine ⟨((Fr.refl _ _).setCell _ _ (fun _ h => by simp at h; omega)).setCell _ _ (fun _ h => by simp at h; omega), ?_⟩
      show Bs w [.cells #[.int .i64 sign] 3, .cells #[.int .i64 (C.cells (C.upTo (pre ++ [x]) sign) : Int)] 3, .cells #[.int .i64 (sg (pre ++ [x]).length : Int)] 3, .cells #[.string s] 9] _
      rw [HUS.out, if_pos hxs, List.length_append, List.length_singleton, ← HE3.out]
      exact (hK.out.set 1 rfl (.int .i64 ((C.cells (C.upTo pre sign) : Int) + (x.cells : Int)))).set 2 rfl (.int .i64 (x.to_ : Int))
    · gi_wp2
      refine ⟨((Fr.refl _ _).setCell _ _ (fun _ h => by simp at h; omega)), ?_⟩
      show Bs w [.cells #[.int .i64 sign] 3, .cells #[.int .i64 (C.cells (C.upTo (pre ++ [x]) sign) : Int)] 3, .cells #[.int .i64 (sg (pre ++ [x]).length : Int)] 3, .cells #[.string s] 9] _
      rw [HUS.out, if_neg (by omega), List.length_append, List.length_singleton, ← HE3.out]
      exact hK.out.set 2 rfl (.int .i64 (x.to_ : Int))
  case done =>
    rintro W hT hD
    have b0 : W.cell? ⟨w.heap.size, 0, none⟩ = some (.int .i64 sign) := (hT.cell 0 rfl).1
    have b1 := (hT.cell 1 rfl).1
    have b2 := (hT.cell 2 rfl).1
    rw [hse] at b2
    have hpb := (hT.fr (S := fun k => k < w.heap.size + 4) ((Fr.refl _ _).putObj W0.heap.size (Obj.deferred none) (fun _ h => by omega)) (fun k h => h)).below
    have hcn := C.cells_upTo_le _ sign hcl
    clear ST
    by_cases hneg : sign < 0
    · go_wp2
      refine ⟨by simp, .inl ⟨_, _, rfl, run_takeDeferred hD, ?_⟩⟩
      have hr := HR.out
      unfold C.colI at hr
      rw [if_pos (.inl hneg)] at hr
      obtain ⟨rfl, rfl⟩ := Prod.mk.inj hr
      exact ⟨_, results_tmp2 rfl _ _ _, rfl, hpb⟩
    · by_cases hbig : ((U.toks s.data.toList).length : Int) < sign
      · go_wp2
        refine ⟨by simp, .inl ⟨_, _, rfl, run_takeDeferred hD, ?_⟩⟩
        have hr := HR.out
        unfold C.colI at hr
        rw [if_pos (.inr hbig)] at hr
        obtain ⟨rfl, rfl⟩ := Prod.mk.inj hr
        exact ⟨_, results_tmp2 rfl _ _ _, rfl, hpb⟩
      · go_wp2
        refine ⟨by simp, .inl ⟨_, _, rfl, run_takeDeferred hD, ?_⟩⟩
        have hr := HR.out
        unfold C.colI at hr
        rw [if_neg (by omega)] at hr
        obtain ⟨rfl, rfl⟩ := Prod.mk.inj hr
        exact ⟨_, results_tmp2 rfl _ _ _, rfl, hpb⟩
  case stop =>
    intro c pre W _ _ h
    exact h.elim

/-- So far no cluster was over the cell. -/
def OvOk (l : List C.Cl) (col : Int) (pre : List C.Cl) : Prop := ∀ post, l = pre ++ post → C.over l 0 col = C.over post (C.cells pre) col

/-- The boxes of Sign. -/
def bxS (s : ByteArray) (col : Int) (a b n m : Nat) : List Obj := [.cells #[.int .i64 col] 3, .cells #[.int .i64 (a : Int)] 3, .cells #[.int .i64 (b : Int)] 46, .cells #[.int .i64 (n : Int)] 3, .cells #[.int .i64 (m : Int)] 3, .cells #[.string s] 9]

set_option maxRecDepth 1000000 in
set_option maxHeartbeats 4000000 in
theorem sign_any_ (s : ByteArray) (col : Int) (w : World) (hs : s.size ≤ 4194304) (hb : -9223372036854775808 ≤ col ∧ col ≤ 9223372036854775807) :
    Calls Try.prog 35 #[.string s, .int .i64 col] w fun e w' => e = .returned (.tuple #[.int .i64 ((C.sgnI (C.clus (U.toks s.data.toList)) (U.toks s.data.toList).length col).1 : Int), .int .i64 ((C.sgnI (C.clus (U.toks s.data.toList)) (U.toks s.data.toList).length col).2 : Int)]) ∧ Below w.heap.size w w' := by
  obtain ⟨R1, R2, hR⟩ : ∃ R1 R2, C.sgnI (C.clus (U.toks s.data.toList)) (U.toks s.data.toList).length col = (R1, R2) := ⟨_, _, rfl⟩
  rw [hR]
  have HR := Lib.hid hR
  clear hR
  have hll := toks_len (s := s)
  have hlen : (C.clus (U.toks s.data.toList)).length ≤ s.size := Nat.le_trans (C.clus_length_le _) hll
  have hcl := C.clus_cells_le (U.toks s.data.toList)
  have ST := C.clus_steps (U.toks s.data.toList) (C.toks_14 _)
  have hsz := C.sgF_zero (U.toks s.data.toList)
  have hse := C.sgF_end (U.toks s.data.toList)
  obtain ⟨sg, hsg⟩ : ∃ sg, C.sgF (U.toks s.data.toList) = sg := ⟨_, rfl⟩
  rw [hsg] at ST hsz hse
  by_cases hneg : col < 0
  · have hr := HR.out
    unfold C.sgnI at hr
    rw [if_pos hneg] at hr
    obtain ⟨rfl, rfl⟩ := Prod.mk.inj hr
    clear ST hcl hr
    refine (callsIn_wide (n := 0)).1 (callsIn_of_wp_marks Try.func35 rfl trivial (wpIn_wide.2 ?_) rfl)
    simp only [Try.ntmps35, List.size_toArray, List.length_cons, List.length_nil, Nat.reduceAdd, Nat.reduceSub, Array.replicate_succ, Array.replicate_zero, List.push_toArray, List.append_toArray, List.nil_append, List.cons_append]
    go_wp2
    exact ⟨.tuple #[.int .i64 0, .int .i64 1], by simp [results, Try.results35, go_sem], rfl, (((Below.refl _ _).alloc (Nat.le_refl _) _).alloc (by simp) _).alloc (by simp; omega) _⟩
  refine (callsIn_wide (n := 0)).1 (callsIn_of_wp_marks Try.func35 rfl trivial (wpIn_wide.2 ?_) rfl)
  simp only [Try.ntmps35, List.size_toArray, List.length_cons, List.length_nil, Nat.reduceAdd, Nat.reduceSub, Array.replicate_succ, Array.replicate_zero, List.push_toArray, List.append_toArray, List.nil_append, List.cons_append]
  go_wp2_with (go_at_call 30; refine (clusters_call _ _).mono ?_; rintro e w' ⟨rfl, rfl⟩)
  obtain ⟨W0, hW0⟩ : ∃ W0, (((((w.alloc (.cells #[.int .i64 col] 3)).alloc (.cells #[.int .i64 0] 3)).alloc (.cells #[.int .i64 0] 46)).alloc (.cells #[.int .i64 0] 3)).alloc (.cells #[.int .i64 0] 3)).alloc (.cells #[.string s] 9) = W0 := ⟨_, rfl⟩
  rw [hW0]
  have hz1 : W0.heap.size ≤ w.heap.size + 6 := by rw [← hW0]; simp
  have hz2 : w.heap.size + 6 ≤ W0.heap.size := by rw [← hW0]; simp
  have hT : Bs w (bxS s col 0 0 0 0) W0 := by
    rw [← hW0]
    exact ((((((Bs.nil w).snoc _ (by simp)).snoc _ (by simp)).snoc _ (by simp)).snoc _ (by simp)).snoc _ (by simp)).snoc _ (by simp)
  have hb1 : W0.cell? ⟨w.heap.size + 5, 0, none⟩ = some (.string s) := (hT.cell 5 rfl).1
  clear hW0
  refine wp_rf W0 rfl enters_clusters (clusters_in s hs (w.heap.size + 5) W0 hb1) (Fr.refl _ _) (fun k h => by omega) (fun _ => rfl)
    (fun pre W => Bs w (bxS s col 0 0 (C.cells pre) (sg pre.length)) W ∧ OvOk (C.clus (U.toks s.data.toList)) col pre)
    (fun c pre W => c = .ret ∧ ∃ (x : C.Cl) (n m : Nat), Bs w (bxS s col x.frm 0 n m) W ∧ C.over (C.clus (U.toks s.data.toList)) 0 col = some x) ?hI ?hIx ?h0 ?round ?done ?stop
  case hI => rintro pre A B hf ⟨h, h2⟩; exact ⟨h.fr hf (fun k hk => by have : k < w.heap.size + 6 := hk; omega), h2⟩
  case hIx => rintro c pre A B hf ⟨h1, x, n, m, h, h2⟩; exact ⟨h1, x, n, m, h.fr hf (fun k hk => by have : k < w.heap.size + 6 := hk; omega), h2⟩
  case h0 => exact ⟨by rw [show sg ([] : List C.Cl).length = 0 from hsz]; exact hT, fun post h => by rw [h]; rfl⟩
  case round =>
    rintro pre x post W hx hsz' ⟨hT, hov⟩
    have hxm := hcl x (by rw [hx]; simp)
    have hpm := C.cells_le2 pre (fun c hc => hcl c (by rw [hx]; simp [hc]))
    have hpl : pre.length ≤ 4194304 := by rw [hx] at hlen; simp at hlen; omega
    have stx := ST pre.length x (by rw [hx]; simp)
    have e3 := stx.2.2.1
    have e6 := stx.2.2.2.2.2.1
    have hxt : x.to_ ≤ 4194304 := by omega
    have hov2 : C.over (C.clus (U.toks s.data.toList)) 0 col = if col < ((C.cells pre + x.cells : Nat) : Int) then some x else C.over post (C.cells pre + x.cells) col := (hov _ hx).trans rfl
    have HOV := Lib.hid (And.intro hov2 hx)
    unfold encC
    have HE3 := Lib.hid e3
    clear stx hx hcl hlen ST e3 e6 HR hov hov2
    gi_wp2
    refine ⟨(Fr.refl _ _).alloc _, fun W3 hf3 hs3 hr3 => ?_⟩
    have hx3 : W3.heap[W.heap.size]? = some (.cells #[.int .i64 (x.at_ : Int), .int .i64 (x.len : Int), .int .i64 (x.frm : Int), .int .i64 (x.to_ : Int), .int .i64 (x.cells : Int)] 33 (0, 0)) := rx_new (lx := W0.heap.size + 1) hf3 (by omega)
    have hT3 := (hT.fr (S := fun _ => True) ((Fr.refl _ _).alloc (.cells #[.int .i64 (x.at_ : Int), .int .i64 (x.len : Int), .int .i64 (x.frm : Int), .int .i64 (x.to_ : Int), .int .i64 (x.cells : Int)] 33)) (fun _ _ => trivial)).fr hf3 (fun k hk => by have : k < w.heap.size + 6 := hk; omega)
    have c2 : W3.cell? ⟨W.heap.size, 2, none⟩ = some (.int .i64 (x.frm : Int)) := by simp [World.cell?, hx3]
    have c3 : W3.cell? ⟨W.heap.size, 3, none⟩ = some (.int .i64 (x.to_ : Int)) := by simp [World.cell?, hx3]
    have c4 : W3.cell? ⟨W.heap.size, 4, none⟩ = some (.int .i64 (x.cells : Int)) := by simp [World.cell?, hx3]
    have hsep : w.heap.size + 6 ≤ W.heap.size := by have := hT.size; exact this
    have b0 : W3.cell? ⟨w.heap.size, 0, none⟩ = some (.int .i64 col) := (hT3.cell 0 rfl).1
    obtain ⟨b1, f1⟩ := hT3.cell 1 (by rfl)
    obtain ⟨b2, f2⟩ := hT3.cell 2 (by rfl)
    obtain ⟨b3, f3⟩ := hT3.cell 3 (by rfl)
    obtain ⟨b4, f4⟩ := hT3.cell 4 (by rfl)
    have hK := Lib.hid hT3
    clear hT3 hT hf3 hs3 hr3 hx3
    by_cases hov : col < ((C.cells pre + x.cells : Nat) : Int)
    · gi_wp2
      refine ⟨(((Fr.refl _ _).setCell _ _ (fun _ h => by simp at h; omega)).setCell _ _ (fun _ h => by simp at h; omega)).setCell _ _ (fun _ h => by simp at h; omega), rfl, x, C.cells pre + x.cells, sg pre.length, ?_, ?_⟩
      · exact ((hK.out.set 3 rfl (.int .i64 ((C.cells pre : Int) + (x.cells : Int)))).set 1 rfl (.int .i64 (x.frm : Int))).set 2 rfl (.int .i64 0)
      · have e := HOV.out.1
        rw [if_pos hov] at e
        exact e
    · gi_wp2
      refine ⟨((Fr.refl _ _).setCell _ _ (fun _ h => by simp at h; omega)).setCell _ _ (fun _ h => by simp at h; omega), ?_, ?_⟩
      · rw [C.cells_snoc, List.length_append, List.length_singleton, ← HE3.out]
        exact (hK.out.set 3 rfl (.int .i64 ((C.cells pre : Int) + (x.cells : Int)))).set 4 rfl (.int .i64 (x.to_ : Int))
      · intro post' h
        have e := HOV.out.1
        rw [if_neg (by omega)] at e
        have hp : post = post' := by
          have := HOV.out.2.symm.trans h
          simpa using this
        rw [e, C.cells_snoc, hp]
  case done =>
    rintro W ⟨hT, hov⟩ hD
    have hov2 := hov [] (by simp)
    have hr := HR.out
    unfold C.sgnI at hr
    rw [if_neg (by omega), hov2] at hr
    have hcn := C.cells_le2 _ hcl
    have b0 : W.cell? ⟨w.heap.size, 0, none⟩ = some (.int .i64 col) := (hT.cell 0 rfl).1
    obtain ⟨b1, f1⟩ := hT.cell 1 (by rfl)
    obtain ⟨b2, f2⟩ := hT.cell 2 (by rfl)
    have b3 := (hT.cell 3 (by rfl)).1
    have b4 := (hT.cell 4 (by rfl)).1
    rw [hse] at b4
    simp only [C.over] at hr
    have HB := Lib.hid hT
    clear ST hov hov2 hT
    by_cases hlt : (C.cells (C.clus (U.toks s.data.toList)) : Int) < col
    · rw [if_pos hlt] at hr
      obtain ⟨rfl, rfl⟩ := Prod.mk.inj hr
      go_wp2
      have hS := (HB.out.set 1 rfl (.int .i64 0)).set 2 rfl (.int .i64 1)
      refine ⟨by simp, .inl ⟨_, _, rfl, run_takeDeferred (by rw [Below.heap_setCell _ _ _ _ (by simp; omega), Below.heap_setCell _ _ _ _ (by simp; omega)]; exact hD), ?_⟩⟩
      have hS3 := hS.fr (S := fun k => k < w.heap.size + 6) ((Fr.refl _ _).putObj W0.heap.size (Obj.deferred none) (fun _ h => by omega)) (fun k h => h)
      have v1 := (hS3.cell 1 (by rfl)).1
      have v2 := (hS3.cell 2 (by rfl)).1
      exact ⟨.tuple #[.int .i64 0, .int .i64 1], by simp [results, Try.results35, go_sem, v1, v2], rfl, hS3.below⟩
    · rw [if_neg hlt] at hr
      obtain ⟨rfl, rfl⟩ := Prod.mk.inj hr
      go_wp2
      have hS := (HB.out.set 1 rfl (.int .i64 ((U.toks s.data.toList).length : Int))).set 2 rfl (.int .i64 0)
      refine ⟨by simp, .inl ⟨_, _, rfl, run_takeDeferred (by rw [Below.heap_setCell _ _ _ _ (by simp; omega), Below.heap_setCell _ _ _ _ (by simp; omega)]; exact hD), ?_⟩⟩
      have hS3 := hS.fr (S := fun k => k < w.heap.size + 6) ((Fr.refl _ _).putObj W0.heap.size (Obj.deferred none) (fun _ h => by omega)) (fun k h => h)
      have v1 := (hS3.cell 1 (by rfl)).1
      have v2 := (hS3.cell 2 (by rfl)).1
      exact ⟨.tuple #[.int .i64 ((U.toks s.data.toList).length : Int), .int .i64 0], by simp [results, Try.results35, go_sem, v1, v2], rfl, hS3.below⟩
  case stop =>
    rintro c pre W hpx _ ⟨rfl, x, n, m, hT, hov⟩ hD
    have hr := HR.out
    unfold C.sgnI at hr
    rw [if_neg (by omega), hov] at hr
    obtain ⟨rfl, rfl⟩ := Prod.mk.inj hr
    clear ST hcl
    go_wp2
    refine ⟨by simp, .inl ⟨_, _, rfl, run_takeDeferred hD, ?_⟩⟩
    have hS3 := hT.fr (S := fun k => k < w.heap.size + 6) ((Fr.refl _ _).putObj W0.heap.size (Obj.deferred none) (fun _ h => by omega)) (fun k h => h)
    have v1 := (hS3.cell 1 (by rfl)).1
    have v2 := (hS3.cell 2 (by rfl)).1
    exact ⟨.tuple #[.int .i64 (x.frm : Int), .int .i64 0], by simp [results, Try.results35, go_sem, v1, v2], rfl, hS3.below⟩
end Go.Proofs.Ytcngfcckajpkhaa
