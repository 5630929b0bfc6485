/- cell.Clusters as a call; cell.Of. -/
import Derived.Test.YtcngfcckajpkhaaCellC
import Derived.Test.YtcngfcckajpkhaaCellQ
set_option linter.unusedVariables false
set_option linter.unusedSimpArgs false
namespace Go.Proofs.Ytcngfcckajpkhaa
open Go.RowKit Go.Shelf Go.Lib Go.BigFrame
attribute [local go_sem] Oper.semAt_some

theorem bst {w a b : World} (h : Below w.heap.size w a) (k : Below a.heap.size a b) : Below w.heap.size w b := h.trans (k.mono h.size)

theorem enters_clusters : ∀ args w, (callFunc 48 args).run Try.prog w = .ok (.enter 48 args) w := enters_of Try.func48 (by kernel_rfl) rfl

theorem clusters_call (s : ByteArray) (w : World) :
    Calls Try.prog 30 #[.string s] w fun e w' => e = .returned (.func (.func 48) #[] #[.pointer (some ⟨w.heap.size, 0, none⟩)]) ∧ w.alloc (.cells #[.string s] 9) = w' := by
  go_enter Try.func30, Try.ntmps30
  go_wp2
  go_ret
  exact ⟨rfl, rfl⟩

/-- One box kept, the world below kept. -/
structure Bx (w : World) (n : Nat) (o : Obj) (W : World) : Prop where
  below : Below n w W
  size : n ≤ W.heap.size
  box : W.heap[n]? = some o
theorem Bx.fr {w : World} {n : Nat} {o : Obj} {A B : World} {S : Nat → Prop} (h : Bx w n o A) (hf : Fr S A B) (hS : ∀ k, k < n + 1 → S k) : Bx w n o B :=
  ⟨h.below.trans (hf.toBelow (fun k hk => hS k (by omega)) h.size), Nat.le_trans h.size hf.size, (hf.block _ (Array.getElem?_eq_some_iff.1 h.box).1 (hS _ (by omega))).trans h.box⟩
theorem Bx.set {w : World} {n : Nat} {v : Value} {t : TypeId} {W : World} (h : Bx w n (.cells #[v] t (0, 0)) W) (u : Value) : Bx w n (.cells #[u] t (0, 0)) (W.setCell ⟨n, 0, none⟩ u) :=
  ⟨h.below.setCell (p := ⟨n, 0, none⟩) (by simp) _, by simpa [World.setCell] using h.size, heap_setCell_same h.box u⟩
theorem Bx.alloc {w : World} {n : Nat} {o : Obj} {A : World} (h : Bx w n o A) (x : Obj) : Bx w n o (A.alloc x) := h.fr (S := fun _ => True) ((Fr.refl _ _).alloc _) (fun _ _ => trivial)
theorem Bx.fresh (w : World) (v : Value) (t : TypeId) : Bx w w.heap.size (.cells #[v] t (0, 0)) (w.alloc (.cells #[v] t)) := ⟨(Below.refl _ _).alloc (Nat.le_refl _) _, by simp, World.alloc_heap_new w _⟩

def objC (x : C.Cl) : Obj := .cells #[.int .i64 (x.at_ : Int), .int .i64 (x.len : Int), .int .i64 (x.frm : Int), .int .i64 (x.to_ : Int), .int .i64 (x.cells : Int)] 33

set_option maxRecDepth 1000000 in
set_option maxHeartbeats 2000000 in
theorem of_any (s : ByteArray) (w : World) (hs : s.size ≤ 4194304) :
    Calls Try.prog 25 #[.string s] w fun e w' => e = .returned (.int .i64 (C.cells (C.clus (U.toks s.data.toList)) : Int)) ∧ Below w.heap.size w w' := by
  obtain ⟨R, hR⟩ : ∃ R, C.cells (C.clus (U.toks s.data.toList)) = R := ⟨_, rfl⟩
  have HR := Lib.hid hR
  rw [hR]
  clear hR
  have hlen : (C.clus (U.toks s.data.toList)).length ≤ s.size := Nat.le_trans (C.clus_length_le _) toks_len
  have hcl := C.clus_cells_le (U.toks s.data.toList)
  refine (callsIn_wide (n := 0)).1 (callsIn_of_wp_marks Try.func25 rfl trivial (wpIn_wide.2 ?_) rfl)
  simp only [Try.ntmps25, List.size_toArray, List.length_cons, List.length_nil, Nat.reduceAdd, Nat.reduceSub, Array.replicate_succ, Array.replicate_zero, List.push_toArray, List.append_toArray, List.nil_append, List.cons_append]
  go_wp2_with (go_at_call 30; refine (clusters_call _ _).mono ?_; rintro e w' ⟨rfl, rfl⟩)
  obtain ⟨W0, hW0⟩ : ∃ W0, (w.alloc (.cells #[.int .i64 0] 3)).alloc (.cells #[.string s] 9) = W0 := ⟨_, rfl⟩
  rw [hW0]
  have hz : W0.heap.size = w.heap.size + 2 := by rw [← hW0]; simp
  have hT : Bx w w.heap.size (.cells #[.int .i64 0] 3 (0, 0)) W0 := by
    rw [← hW0]
    exact (Bx.fresh w _ _).alloc _
  have hb1 : W0.cell? ⟨w.heap.size + 1, 0, none⟩ = some (.string s) := by
    rw [← hW0]; have := (cell_new (w.alloc (.cells #[.int .i64 0] 3)) (.string s) 9).1; rwa [World.size_alloc] at this
  clear hW0
  have hz1 : W0.heap.size ≤ w.heap.size + 2 := by omega
  have hz2 : w.heap.size + 2 ≤ W0.heap.size := by omega
  clear hz
  refine wp_rf W0 rfl enters_clusters (clusters_in s hs (w.heap.size + 1) W0 hb1) (Fr.refl _ _) (fun k h => by omega) (fun _ => rfl)
    (fun pre W => Bx w w.heap.size (.cells #[.int .i64 (C.cells pre : Int)] 3 (0, 0)) W) (fun _ _ _ => False) ?hI (fun _ _ _ _ _ h => h) hT ?round ?done ?stop
  case hI => rintro pre A B hf h; exact h.fr hf (fun k hk => by omega)
  case round =>
    rintro pre x post W hx hsz hT
    have hxm := hcl x (by rw [hx]; simp)
    have hpm := C.cells_le2 pre (fun c hc => hcl c (by rw [hx]; simp [hc]))
    have hpl : pre.length ≤ 4194304 := by rw [hx] at hlen; simp at hlen; omega
    unfold encC
    clear hx hcl hlen
    gi_wp2
    refine ⟨(Fr.refl _ _).alloc _, fun W3 hf3 hs3 hr3 => ?_⟩
    have hx3 : W3.heap[W.heap.size]? = some (.cells #[.int .i64 (x.at_ : Int), .int .i64 (x.len : Int), .int .i64 (x.frm : Int), .int .i64 (x.to_ : Int), .int .i64 (x.cells : Int)] 33 (0, 0)) := rx_new hf3 (by omega)
    have hT3 := (hT.alloc (.cells #[.int .i64 (x.at_ : Int), .int .i64 (x.len : Int), .int .i64 (x.frm : Int), .int .i64 (x.to_ : Int), .int .i64 (x.cells : Int)] 33)).fr hf3 (fun k hk => by omega)
    have c4 : W3.cell? ⟨W.heap.size, 4, none⟩ = some (.int .i64 (x.cells : Int)) := by simp [World.cell?, hx3]
    have cb := (cell_of_block hT3.box).1
    have fb := (cell_of_block hT3.box).2
    have hK := Lib.hid hT3
    clear hT3 hT hf3 hs3 hr3 hx3
    gi_wp2
    refine ⟨((Fr.refl _ _).setCell _ _ (fun _ h => by simp at h; omega)), ?_⟩
    show Bx w w.heap.size (.cells #[.int .i64 (C.cells (pre ++ [x]) : Int)] 3 (0, 0)) _
    rw [C.cells_snoc]
    exact hK.out.set _
  case done =>
    rintro W hT hD
    have cv := (cell_of_block hT.box).1
    go_wp2
    refine ⟨by simp, .inl ⟨_, _, rfl, run_takeDeferred hD, ?_⟩⟩
    refine ⟨_, results_tmp rfl _ _ _, by rw [← HR.out]; rfl, ?_⟩
    exact (hT.fr (S := fun k => k < w.heap.size + 1) ((Fr.refl _ _).putObj W0.heap.size (Obj.deferred none) (fun _ h => by omega)) (fun k h => h)).below
  case stop =>
    intro c pre W _ _ h
    exact h.elim
end Go.Proofs.Ytcngfcckajpkhaa
