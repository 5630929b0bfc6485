/- The law of the lines. -/
import Derived.Test.YtokbmihjpllgpaaLinesR
import Derived.Test.YtokbmihjpllgpaaHead
set_option linter.unusedVariables false
set_option linter.unusedSimpArgs false
namespace Go.Proofs.Ytokbmihjpllgpaa
open Go.RowKit Go.Shelf Go.Lib
attribute [local go_sem] Oper.semAt_some

theorem flat2 {α : Type} (f : α → List Value) (hf : ∀ x, (f x).length = 2) (l : List α) (i k : Nat) (x : α) (hx : l[i]? = some x) (hk : k < 2) : (l.flatMap f)[i * 2 + k]? = (f x)[k]? := by
  induction l generalizing i with
  | nil => simp at hx
  | cons a l ih =>
    cases i with
    | zero =>
      simp at hx
      subst hx
      rw [List.flatMap_cons, List.getElem?_append_left (by rw [hf]; omega), Nat.zero_mul, Nat.zero_add]
    | succ i =>
      have := ih i (by simpa using hx)
      rw [List.flatMap_cons, List.getElem?_append_right (by rw [hf]; omega), hf, ← this]
      congr 1
      omega
theorem cellL_length (s : ByteArray) (x : Nat × Nat) : (cellL s x).length = 2 := rfl
theorem cellsL_at {w : World} {base : Nat} {e : TypeId} {g cap k n : Nat} {s : ByteArray} {l : List (Nat × Nat)} {x : Nat × Nat} (h : w.ownsRow base e 2 (.slice (some ⟨g, 0, none⟩) n cap) n (cellsL s l)) (hx : l[k]? = some x) :
    w.cell? ⟨g, k * 2, none⟩ = some (.int .i64 (x.1 : Int)) ∧ w.cell? ⟨g, k * 2 + 1, none⟩ = some (.string (lnS s x)) :=
  ⟨row_cell h _ _ (flat2 (cellL s) (cellL_length s) l k 0 x hx (by omega)), row_cell h _ _ (flat2 (cellL s) (cellL_length s) l k 1 x hx (by omega))⟩
theorem enters_lines : ∀ args w, (callFunc 63 args).run Try.prog w = .ok (.enter 63 args) w := enters_of Try.func63 (by kernel_rfl) rfl
theorem lines_call (s : ByteArray) (w : World) :
    Calls Try.prog 48 #[.string s] w fun e w' => e = .returned (.func (.func 63) #[] #[.pointer (some ⟨w.heap.size, 0, none⟩)]) ∧ w.alloc (.cells #[.string s] 9) = w' := by
  go_enter Try.func48, Try.ntmps48
  go_wp2
  go_ret
  exact ⟨rfl, rfl⟩

/-- All below n but one block as it was; in that one a number. -/
structure Ct (W0 : World) (n b k : Nat) (W : World) : Prop where
  fr : Fr (fun i => i ≠ b ∧ i < n) W0 W
  box : W.heap[b]? = some (.cells #[.int .i64 (k : Int)] 3 (0, 0))
theorem Ct.to {W0 : World} {n b k : Nat} {A B : World} {S : Nat → Prop} (h : Ct W0 n b k A) (hb : b < n) (hf : Fr S A B) (hS : ∀ i, i < n → S i) : Ct W0 n b k B :=
  ⟨h.fr.trans (hf.mono fun i _ hi => hS i hi.2), (hf.block _ (Array.getElem?_eq_some_iff.1 h.box).1 (hS _ hb)).trans h.box⟩
theorem Ct.set {W0 : World} {n b k : Nat} {A : World} (h : Ct W0 n b k A) (m : Nat) : Ct W0 n b m (A.setCell ⟨b, 0, none⟩ (.int .i64 (m : Int))) :=
  ⟨h.fr.setCell _ _ (fun _ hi => hi.1 rfl), heap_setCell_same h.box _⟩
theorem Ct.old {W0 : World} {n b k : Nat} {A : World} (h : Ct W0 n b k A) {i : Nat} {o : Obj} (ho : W0.heap[i]? = some o) (h1 : i ≠ b) (h2 : i < n) : A.heap[i]? = some o :=
  (h.fr.block i (Array.getElem?_eq_some_iff.1 ho).1 ⟨h1, h2⟩).trans ho
theorem Ct.cell {W0 : World} {n b k : Nat} {A : World} (h : Ct W0 n b k A) {a : Addr} {v : Value} (ho : W0.cell? a = some v) (h1 : a.block ≠ b) (h2 : a.block < n) : A.cell? a = some v := h.fr.cell ho ⟨h1, h2⟩

set_option maxRecDepth 1000000 in
set_option maxHeartbeats 8000000 in
theorem utfLines_law (s : ByteArray) (hs : s.size ≤ 1048576) (w : World) : Calls Try.prog 16 #[.string s] w fun e w' => e = .returned (.bool true) ∧ Below w.heap.size w w' := by
  have hln := U.lns_length s.data.toList _ 0 (Nat.le_refl _)
  rw [Nat.sub_zero, ← U.size_eq] at hln
  have LR := fun w => linesR_any s w (by omega)
  have LI := fun Bn w hB => lines_in s (by omega) Bn w hB
  obtain ⟨l, hl⟩ : ∃ l, U.lns s.data.toList 0 = l := ⟨_, rfl⟩
  rw [hl] at hln LR LI
  have LR := Lib.hid LR
  have LI := Lib.hid LI
  clear hl
  refine (callsIn_wide (n := 0)).1 (callsIn_of_wp_marks Try.func16 rfl trivial (wpIn_wide.2 ?_) rfl)
  simp only [Try.ntmps16, List.size_toArray, List.length_cons, List.length_nil, Nat.reduceAdd, Nat.reduceSub, Array.replicate_succ, Array.replicate_zero, List.push_toArray, List.append_toArray, List.nil_append, List.cons_append]
  go_wp2_with (first
    | (go_at_call 19; refine (head_any _).mono ?_; rintro e w1 ⟨rfl, hb1⟩)
    | (go_at_call 47; ((with_reducible refine (LR.out _).mono ?_); rintro e w2 ⟨v2, rfl, hb2, hr2⟩; obtain ⟨A2, cp2, rfl, hA2⟩ := own_form hr2))
    | (go_at_call 48; ((with_reducible refine (lines_call s _).mono ?_); rintro e w3 ⟨rfl, hw3⟩)))
  obtain ⟨B, hBz⟩ : ∃ B, w2.heap.size = B := ⟨_, rfl⟩
  rw [hBz]
  have hwB : w.heap.size < B := by
    have h1 := hb1.size
    have h2 := hb2.size
    rw [World.size_alloc] at h1
    omega
  have hb02 : Below w.heap.size w w2 := (((Below.refl _ _).alloc (Nat.le_refl _) _).trans (hb1.mono (by simp))).trans (hb2.mono (by have := hb1.size; simp at this; omega))
  have hr02 : w2.heap[w.heap.size]? = some (.cells #[.bool false] 4 (0, 0)) :=
    (hb2.block _ (by have := hb1.size; simp at this; omega)).trans ((hb1.block _ (by simp)).trans (World.alloc_heap_new w _))
  have hz : w3.heap.size = B + 3 := by rw [← hw3]; simp; omega
  have h23 : Below B w2 w3 := by rw [← hw3]; exact ((((Below.refl B w2).alloc (by omega) _).alloc (by simp; omega) _).alloc (by simp; omega) _)
  have hW : w3.heap[B]? = some (.cells #[.slice A2 l.length cp2] 58 (0, 0)) := by
    rw [← hw3, ← hBz]
    exact (Below.heap_alloc _ _ _ (by simp; omega)).trans ((Below.heap_alloc _ _ _ (by simp)).trans (World.alloc_heap_new w2 _))
  have hN : w3.heap[B + 1]? = some (.cells #[.int .i64 0] 3 (0, 0)) := by
    rw [← hw3, ← hBz]
    refine (Below.heap_alloc _ _ _ (by simp)).trans ?_
    have := World.alloc_heap_new (w2.alloc (.cells #[.slice A2 l.length cp2] 58)) (.cells #[.int .i64 0] 3)
    rwa [World.size_alloc] at this
  have hS : w3.cell? ⟨B + 2, 0, none⟩ = some (.string s) := by
    rw [← hw3, ← hBz]
    have := (cell_new ((w2.alloc (.cells #[.slice A2 l.length cp2] 58)).alloc (.cells #[.int .i64 0] 3)) (.string s) 9).1
    rwa [World.size_alloc, World.size_alloc] at this
  have hr3 : w3.ownsRow w1.heap.size 64 2 (.slice A2 l.length cp2) l.length (cellsL s l) := own_below hr2 (by rw [hBz]; exact h23)
  have hgB : ∀ g, A2 = some ⟨g, 0, none⟩ → g < B := fun g e => by subst e; have := (hr2.lt g rfl).2; omega
  have hB3 : Below w.heap.size w w3 := hb02.trans (h23.mono (by omega))
  have hR : w3.heap[w.heap.size]? = some (.cells #[.bool false] 4 (0, 0)) := (h23.block _ hwB).trans hr02
  clear hw3 hr2 hb1 hb2 hb02 hr02 h23
  refine wp_rf w3 rfl enters_lines (LI.out (B + 2) w3 hS) (Fr.refl _ _) (fun k h => by omega) (fun _ => rfl)
    (fun pre W => Ct w3 (B + 3) (B + 1) pre.length W) (fun _ _ _ => False) ?hI (fun _ _ _ _ _ h => h) ⟨Fr.refl _ _, hN⟩ ?round ?done ?stop
  case hI => intro pre A C hf h; exact h.to (by omega) hf (fun i hi => by omega)
  case round =>
    rintro pre x post W hx hsz hT
    have hpl : pre.length < l.length := by rw [hx]; simp
    have hxk : l[pre.length]? = some x := by rw [hx]; simp
    obtain ⟨g, rfl⟩ := hA2 (by omega)
    have hg := hgB g rfl
    obtain ⟨c0, c1⟩ := cellsL_at hr3 hxk
    unfold encL
    clear hx hxk
    gi_wp2
    refine ⟨Fr.refl _ _, fun W3 hf3 hs3 hr3' => ?_⟩
    have hT3 := hT.to (by omega) hf3 (fun i hi => by omega)
    have c0 := hT3.cell c0 (by simp; omega) (by simp; omega)
    have c1 := hT3.cell c1 (by simp; omega) (by simp; omega)
    have cw := (cell_of_block (hT3.old hW (by omega) (by omega))).1
    have cb := (cell_of_block hT3.box).1
    have fb := (cell_of_block hT3.box).2
    have hK := Lib.hid hT3
    clear hT3 hT hf3 hs3 hr3'
    gi_wp2
    refine ⟨((Fr.refl _ _).setCell _ _ (fun _ h => by simp at h; omega)), ?_⟩
    show Ct w3 (B + 3) (B + 1) (pre ++ [x]).length _
    rw [List.length_append]
    exact hK.out.set _
  case done =>
    rintro W hT hD
    have cb := (cell_of_block hT.box).1
    have cw := (cell_of_block (hT.old hW (by omega) (by omega))).1
    have cr := (cell_of_block (hT.old hR (by omega) (by omega))).1
    have hTs := hT.fr.size
    have HT := Lib.hid hT
    clear hT
    go_wp2_with (go_at_call 19; refine (head_any _).mono ?_; rintro e w' ⟨rfl, hb⟩; have hT' := Lib.hid (HT.out.to (by omega) (Fr.of_below (S := fun k => k < W.heap.size) hb (fun k _ h => h)) (fun i hi => by omega)); have cr' := (cell_of_block (hT'.out.old hR (by omega) (by omega))).1; have fr' := (cell_of_block (hT'.out.old hR (by omega) (by omega))).2)
    have hDlt := (Array.getElem?_eq_some_iff.1 hD).1
    have hD' : w'.heap[w3.heap.size]? = some (.deferred (some [])) := (hb.block _ hDlt).trans hD
    rw [hz] at hD'
    refine ⟨by simp, .inl ⟨_, _, rfl, run_takeDeferred (by rw [Below.heap_setCell _ _ _ _ (by simp; omega)]; exact hD'), ?_⟩⟩
    have hRb := heap_setCell_same (hT'.out.old hR (by omega) (by omega)) (.bool true)
    have hRc : ((w'.setCell ⟨w.heap.size, 0, none⟩ (.bool true)).putObj (B + 3) (Obj.deferred none)).cell? ⟨w.heap.size, 0, none⟩ = some (.bool true) :=
      (cell_of_block ((World.putObj_heap_other (by omega)).trans hRb)).1
    refine ⟨.bool true, by simp [results, Try.results16, go_sem, hRc], rfl, ?_⟩
    have k1 : Below w.heap.size w W := hB3.trans (HT.out.fr.toBelow (fun k hk => by omega) (by omega))
    have k2 : Below w.heap.size w w' := k1.trans (hb.mono (by omega))
    exact ((Fr.of_below (S := fun k => k < w.heap.size) (k2.setCell (p := ⟨w.heap.size, 0, none⟩) (by simp) _) (fun k _ h => h)).putObj _ _ (fun _ h => by omega)).toBelow (fun k h => h) (Nat.le_refl _)
  case stop =>
    intro c pre W _ _ h
    exact h.elim
end Go.Proofs.Ytokbmihjpllgpaa
