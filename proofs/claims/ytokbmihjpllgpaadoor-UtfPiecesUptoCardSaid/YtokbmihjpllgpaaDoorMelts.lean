/- utf.Melts: whether a sign of both lies over their seam. -/
import Derived.Test.YtokbmihjpllgpaaDoorPlace
set_option linter.unusedVariables false
namespace Go.Proofs.YtokbmihjpllgpaaDoor
open Go.RowKit Go.Shelf Go.Lib Go.BigFrame
attribute [local go_sem] Oper.semAt_some

/-- Does a sign lie over the seam? -/
def overSeam (n : Nat) (x : U.Sg) : Bool := decide (x.at_ < n) && decide (n < x.at_ + x.len)
def meltsB (a b : List UInt8) : Bool := (U.signs (a ++ b)).any (overSeam a.length)

theorem put_at (a : Nat) (l : List U.Tk) : ∀ x ∈ U.put a l, x.at_ + x.len ≤ a + U.wsum l := by
  induction l generalizing a with
  | nil => intro x h; cases h
  | cons t l ih =>
    intro x h
    simp only [U.put, List.mem_cons] at h
    simp only [U.wsum, List.map_cons, List.sum_cons]
    rcases h with rfl | h
    · simp only; omega
    · have := ih _ x h
      simp only [U.wsum] at this
      omega
theorem signs_at (l : List UInt8) : ∀ x ∈ U.signs l, x.at_ + x.len ≤ l.length := fun x hx => by
  have := put_at 0 _ x hx
  rw [U.wsum_toks] at this
  omega

/-- One box kept, the world below kept. -/
def Two (w : World) (n : Nat) (o1 o2 : Obj) (W : World) : Prop := Below n w W ∧ n ≤ W.heap.size ∧ W.heap[n]? = some o1 ∧ W.heap[n + 1]? = some o2
theorem Two.fr {w : World} {n : Nat} {o1 o2 : Obj} {A B : World} {S : Nat → Prop} (h : Two w n o1 o2 A) (hf : Fr S A B) (hS : ∀ k, k < n + 2 → S k) : Two w n o1 o2 B :=
  ⟨h.1.trans (hf.toBelow (fun k hk => hS k (by omega)) h.2.1), Nat.le_trans h.2.1 hf.size, (hf.block _ (Array.getElem?_eq_some_iff.1 h.2.2.1).1 (hS _ (by omega))).trans h.2.2.1, (hf.block _ (Array.getElem?_eq_some_iff.1 h.2.2.2).1 (hS _ (by omega))).trans h.2.2.2⟩
theorem Two.set {w : World} {n : Nat} {o1 : Obj} {v : Value} {t : TypeId} {W : World} (h : Two w n o1 (.cells #[v] t (0, 0)) W) (u : Value) : Two w n o1 (.cells #[u] t (0, 0)) (W.setCell ⟨n + 1, 0, none⟩ u) :=
  ⟨h.1.setCell (p := ⟨n + 1, 0, none⟩) (by simp) _, by simpa [World.setCell] using h.2.1, by rw [Below.heap_setCell _ _ _ _ (by simp)]; exact h.2.2.1, heap_setCell_same h.2.2.2 u⟩
theorem Two.fresh (w : World) (v u : Value) (t1 t2 : TypeId) : Two w w.heap.size (.cells #[v] t1 (0, 0)) (.cells #[u] t2 (0, 0)) ((w.alloc (.cells #[v] t1)).alloc (.cells #[u] t2)) :=
  ⟨((Below.refl _ _).alloc (Nat.le_refl _) _).alloc (by simp) _, by simp; omega, (Below.heap_alloc _ _ _ (by simp)).trans (World.alloc_heap_new w _), by
    have := World.alloc_heap_new (w.alloc (.cells #[v] t1)) (.cells #[u] t2); rwa [World.size_alloc] at this⟩
theorem Two.alloc {w : World} {n : Nat} {o1 o2 : Obj} {A : World} (h : Two w n o1 o2 A) (o : Obj) : Two w n o1 o2 (A.alloc o) := h.fr (S := fun _ => True) ((Fr.refl _ _).alloc _) (fun _ _ => trivial)

/-- So far. -/
def anyOver (n : Nat) (pre : List U.Sg) (v : Bool) : Prop := pre.any (overSeam n) = v

set_option maxRecDepth 1000000 in
set_option maxHeartbeats 2000000 in
theorem melts_any (a b : ByteArray) (w : World) (ha : a.size ≤ 2097152) (hb : b.size ≤ 2097152) :
    Calls Tryd.prog 26 #[.string a, .string b] w fun e w' => e = .returned (.bool (meltsB a.data.toList b.data.toList)) ∧ Below w.heap.size w w' := by
  obtain ⟨R, hR⟩ : ∃ R, meltsB a.data.toList b.data.toList = R := ⟨_, rfl⟩
  rw [hR]
  have HR := Lib.hid hR
  clear hR
  refine (callsIn_wide (n := 0)).1 (callsIn_of_wp_marks Tryd.func26 rfl trivial (wpIn_wide.2 ?_) rfl)
  simp only [Tryd.ntmps26, List.size_toArray, List.length_cons, List.length_nil, Nat.reduceAdd, Nat.reduceSub, Array.replicate_succ, Array.replicate_zero, List.push_toArray, List.append_toArray, List.nil_append, List.cons_append]
  go_wp2_with (go_at_call 27; refine (signs_call _ _).mono ?_; rintro e w' ⟨rfl, rfl⟩)
  obtain ⟨W0, hW0⟩ : ∃ W0, ((w.alloc (.cells #[.string a] 9)).alloc (.cells #[.bool false] 4)).alloc (.cells #[.string (a ++ b)] 9) = W0 := ⟨_, rfl⟩
  rw [hW0]
  have hz : W0.heap.size = w.heap.size + 3 := by rw [← hW0]; simp
  have hT : Two w w.heap.size (.cells #[.string a] 9 (0, 0)) (.cells #[.bool false] 4 (0, 0)) W0 := by
    rw [← hW0]
    exact (Two.fresh w _ _ _ _).alloc _
  have hb1 : W0.cell? ⟨w.heap.size + 2, 0, none⟩ = some (.string (a ++ b)) := by
    rw [← hW0]; have := (cell_new ((w.alloc (.cells #[.string a] 9)).alloc (.cells #[.bool false] 4)) (.string (a ++ b)) 9).1; rwa [World.size_alloc, World.size_alloc] at this
  clear hW0
  have hz1 : W0.heap.size ≤ w.heap.size + 3 := by omega
  have hz2 : w.heap.size + 3 ≤ W0.heap.size := by omega
  clear hz
  have hab : (a ++ b).size = a.size + b.size := by simp
  refine wp_rf W0 rfl enters_signs (signs_in (a ++ b) (by rw [hab]; omega) (w.heap.size + 2) W0 hb1) (Fr.refl _ _) (fun k h => by omega) (fun _ => rfl)
    (fun pre W => Two w w.heap.size (.cells #[.string a] 9 (0, 0)) (.cells #[.bool false] 4 (0, 0)) W ∧ anyOver a.size pre false)
    (fun c pre W => c = .ret ∧ Two w w.heap.size (.cells #[.string a] 9 (0, 0)) (.cells #[.bool true] 4 (0, 0)) W ∧ anyOver a.size pre true) ?hI ?hIx ⟨hT, rfl⟩ ?round ?done ?stop
  case hI => rintro pre A B hf ⟨h, h2⟩; exact ⟨h.fr hf (fun k hk => by omega), h2⟩
  case hIx => rintro c pre A B hf ⟨h0, h, h2⟩; exact ⟨h0, h.fr hf (fun k hk => by omega), h2⟩
  case round =>
    rintro pre x post W hx hsz ⟨hT, hpre⟩
    have HX := Lib.hid hx
    have HP := Lib.hid hpre
    clear hx hpre
    unfold encS
    gi_wp2
    refine ⟨(Fr.refl _ _).alloc _, fun W3 hf3 hs3 hr3 => ?_⟩
    have hx3 : W3.heap[W.heap.size]? = some (.cells #[.int .i64 (x.at_ : Int), .int .i64 (x.len : Int), .int .i32 (x.rune : Int), .bool x.bad] 40 (0, 0)) := rx_new hf3 (by omega)
    have hT3 := (hT.alloc (.cells #[.int .i64 (x.at_ : Int), .int .i64 (x.len : Int), .int .i32 (x.rune : Int), .bool x.bad] 40)).fr hf3 (fun k hk => by omega)
    have c0 : W3.cell? ⟨W.heap.size, 0, none⟩ = some (.int .i64 (x.at_ : Int)) := by simp [World.cell?, hx3]
    have c1 : W3.cell? ⟨W.heap.size, 1, none⟩ = some (.int .i64 (x.len : Int)) := by simp [World.cell?, hx3]
    have ca := (cell_of_block hT3.2.2.1).1
    have cb := (cell_of_block hT3.2.2.2).1
    have fb := (cell_of_block hT3.2.2.2).2
    have hxl : x.at_ + x.len ≤ 4194304 := by
      have := signs_at (a ++ b).data.toList x (by rw [HX.out]; simp)
      rw [← U.size_eq, hab] at this
      omega
    have hov : overSeam a.size x = (decide (x.at_ < a.size) && decide (a.size < x.at_ + x.len)) := rfl
    have HO := Lib.hid hov
    have hK : Hid (Two w w.heap.size (.cells #[.string a] 9 (0, 0)) (.cells #[.bool false] 4 (0, 0)) W3) := Lib.hid hT3
    clear hov hT3 hT hf3 hs3 hr3 hx3
    by_cases h1 : x.at_ < a.size
    · by_cases h2 : a.size < x.at_ + x.len
      · have i1 : (x.at_ : Int) < (a.size : Int) := by omega
        have i2 : (a.size : Int) < (x.at_ : Int) + (x.len : Int) := by omega
        gi_wp2
        refine ⟨((Fr.refl _ _).setCell _ _ (fun _ h => by simp at h; omega)), rfl, hK.out.set _, ?_⟩
        show (pre ++ [x]).any (overSeam a.size) = _
        rw [List.any_append, show pre.any (overSeam a.size) = false from HP.out]
        simp [HO.out, h1, h2]
      · have i1 : (x.at_ : Int) < (a.size : Int) := by omega
        have i2 : ¬ (a.size : Int) < (x.at_ : Int) + (x.len : Int) := by omega
        gi_wp2
        refine ⟨Fr.refl _ _, hK.out, ?_⟩
        show (pre ++ [x]).any (overSeam a.size) = _
        rw [List.any_append, show pre.any (overSeam a.size) = false from HP.out]
        simp [HO.out, h2]
    · have i1 : ¬ (x.at_ : Int) < (a.size : Int) := by omega
      gi_wp2
      refine ⟨Fr.refl _ _, hK.out, ?_⟩
      show (pre ++ [x]).any (overSeam a.size) = _
      rw [List.any_append, show pre.any (overSeam a.size) = false from HP.out]
      simp [HO.out, h1]
  case done =>
    rintro W ⟨hT, hp⟩ hD
    have cv := (cell_of_block hT.2.2.2).1
    have fv := (cell_of_block hT.2.2.2).2
    have hT2 := hT.set (.bool false)
    have cv2 := (cell_of_block hT2.2.2.2).1
    go_wp2
    refine ⟨by simp, .inl ⟨_, _, rfl, run_takeDeferred (by rw [Below.heap_setCell _ _ _ _ (by simp; omega)]; exact hD), ?_⟩⟩
    have hR : (U.signs (a.data.toList ++ b.data.toList)).any (overSeam a.data.toList.length) = R := HR.out
    rw [← U.size_eq, ← show (a ++ b).data.toList = a.data.toList ++ b.data.toList by simp] at hR
    have hT3 := hT2.fr (S := fun k => k < w.heap.size + 2) ((Fr.refl _ _).putObj W0.heap.size (Obj.deferred none) (fun _ h => by omega)) (fun k h => h)
    have cv3 := (cell_of_block hT3.2.2.2).1
    refine ⟨.bool false, by simp [results, Tryd.results26, go_sem, cv3], ?_, hT3.1⟩
    rw [← hR, show (U.signs (a ++ b).data.toList).any (overSeam a.size) = false from hp]
  case stop =>
    rintro c pre W hpx _ ⟨rfl, hT, hp⟩ hD
    have cv := (cell_of_block hT.2.2.2).1
    go_wp2
    refine ⟨by simp, .inl ⟨_, _, rfl, run_takeDeferred hD, ?_⟩⟩
    have hR : (U.signs (a.data.toList ++ b.data.toList)).any (overSeam a.data.toList.length) = R := HR.out
    rw [← U.size_eq, ← show (a ++ b).data.toList = a.data.toList ++ b.data.toList by simp] at hR
    have hS : (U.signs (a ++ b).data.toList).any (overSeam a.size) = true := by
      obtain ⟨q, hq⟩ := hpx
      rw [← hq, List.any_append, show pre.any (overSeam a.size) = true from hp]; rfl
    have hT3 := hT.fr (S := fun k => k < w.heap.size + 2) ((Fr.refl _ _).putObj W0.heap.size (Obj.deferred none) (fun _ h => by omega)) (fun k h => h)
    have cv3 := (cell_of_block hT3.2.2.2).1
    refine ⟨.bool true, by simp [results, Tryd.results26, go_sem, cv3], ?_, hT3.1⟩
    rw [← hR, hS]
end Go.Proofs.YtokbmihjpllgpaaDoor
