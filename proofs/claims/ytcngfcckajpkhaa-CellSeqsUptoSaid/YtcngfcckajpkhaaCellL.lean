/- Columns and signs of clusters: plain; boxes of a call. -/
import Derived.Test.YtcngfcckajpkhaaLawCellC
import Derived.Test.YtcngfcckajpkhaaCellZ
set_option linter.unusedVariables false
namespace Go.Proofs.Ytcngfcckajpkhaa.C

/-- The cells of the clusters that end at a sign, or ahead. -/
def upTo (l : List Cl) (sign : Int) : List Cl := l.filter fun c => decide ((c.to_ : Int) ≤ sign)
def colI (l : List Cl) (n : Nat) (sign : Int) : Nat × Nat := if sign < 0 ∨ (n : Int) < sign then (0, 1) else (cells (upTo l sign), 0)
theorem upTo_snoc (l : List Cl) (c : Cl) (sign : Int) : cells (upTo (l ++ [c]) sign) = if (c.to_ : Int) ≤ sign then cells (upTo l sign) + c.cells else cells (upTo l sign) := by
  unfold upTo
  rw [List.filter_append, cells_append]
  by_cases h : (c.to_ : Int) ≤ sign
  · rw [if_pos h]; simp [h, cells]
  · rw [if_neg h]; simp [h, cells]
theorem cells_upTo_le (l : List Cl) (sign : Int) (h : ∀ c ∈ l, c.cells ≤ 2) : cells (upTo l sign) ≤ 2 * l.length := by
  have := cells_le2 (upTo l sign) (fun c hc => h c (List.mem_filter.1 hc).1)
  have h2 : (upTo l sign).length ≤ l.length := List.length_filter_le _ _
  omega
theorem sgF_mono (t : List U.Tk) (h : ∀ x ∈ t, 1 ≤ x.2 ∧ x.2 ≤ 4) (i : Nat) : ∀ d, i + d ≤ (clus t).length → sgF t i ≤ sgF t (i + d) := by
  intro d
  induction d with
  | zero => intro _; exact Nat.le_refl _
  | succ d ih =>
    intro hd
    have h1 := ih (by omega)
    obtain ⟨c, hc⟩ : ∃ c, (clus t)[i + d]? = some c := ⟨_, List.getElem?_eq_getElem (by omega)⟩
    have := clus_steps t h (i + d) c hc
    rw [show i + (d + 1) = i + d + 1 by omega]
    omega
/-- Where the first one ends behind the sign, or all are gone by. -/
theorem upTo_take (t : List U.Tk) (h : ∀ x ∈ t, 1 ≤ x.2 ∧ x.2 ≤ 4) (sign : Int) (i : Nat) (hi : i ≤ (clus t).length) (ha : ∀ j, j < i → (sgF t (j + 1) : Int) ≤ sign) (hb : i < (clus t).length → sign < (sgF t (i + 1) : Int)) : upTo (clus t) sign = (clus t).take i := by
  have e : clus t = (clus t).take i ++ (clus t).drop i := (List.take_append_drop _ _).symm
  have h1 : ((clus t).take i).filter (fun c => decide ((c.to_ : Int) ≤ sign)) = (clus t).take i := by
    rw [List.filter_eq_self]
    intro c hc
    obtain ⟨j, hj⟩ := List.getElem?_of_mem hc
    have hlt := (List.getElem?_eq_some_iff.1 hj).1
    rw [List.length_take] at hlt
    rw [List.getElem?_take, if_pos (by omega)] at hj
    have := (clus_steps t h j c hj).2.2.1
    have := ha j (by omega)
    simp; omega
  have h2 : ((clus t).drop i).filter (fun c => decide ((c.to_ : Int) ≤ sign)) = [] := by
    rw [List.filter_eq_nil_iff]
    intro c hc
    obtain ⟨j, hj⟩ := List.getElem?_of_mem hc
    rw [List.getElem?_drop] at hj
    have hlt := (List.getElem?_eq_some_iff.1 hj).1
    have h3 := (clus_steps t h (i + j) c hj).2.2.1
    have h4 := hb (by omega)
    have h5 := sgF_mono t h (i + 1) j (by omega)
    rw [show i + 1 + j = i + j + 1 by omega] at h5
    simp; omega
  have h3 := congrArg (List.filter fun c => decide ((c.to_ : Int) ≤ sign)) e
  rw [List.filter_append, h1, h2, List.append_nil] at h3
  exact h3

/-- The first cluster over a cell. -/
def over : List Cl → Nat → Int → Option Cl
  | [], _, _ => none
  | c :: l, n, col => if col < ((n + c.cells : Nat) : Int) then some c else over l (n + c.cells) col
def sgnI (l : List Cl) (n : Nat) (col : Int) : Nat × Nat :=
  if col < 0 then (0, 1) else match over l 0 col with
    | some c => (c.frm, 0)
    | none => if (cells l : Int) < col then (0, 1) else (n, 0)
theorem over_none (l : List Cl) (n : Nat) (col : Int) (h : ((n + cells l : Nat) : Int) ≤ col) : over l n col = none := by
  induction l generalizing n with
  | nil => rfl
  | cons c l ih =>
    rw [cells_cons] at h
    unfold over
    rw [if_neg (by omega)]
    exact ih _ (by omega)
end Go.Proofs.Ytcngfcckajpkhaa.C
namespace Go.Proofs.Ytcngfcckajpkhaa
open Go.RowKit Go.Shelf Go.Lib Go.BigFrame

/-- Boxes of the call's own lie one behind the other; the world below is kept. -/
structure Bs (w : World) (os : List Obj) (W : World) : Prop where
  below : Below w.heap.size w W
  size : w.heap.size + os.length ≤ W.heap.size
  at_ : ∀ j o, os[j]? = some o → W.heap[w.heap.size + j]? = some o
theorem Bs.fr {w : World} {os : List Obj} {A B : World} {S : Nat → Prop} (h : Bs w os A) (hf : Fr S A B) (hS : ∀ k, k < w.heap.size + os.length → S k) : Bs w os B :=
  ⟨h.below.trans (hf.toBelow (fun k hk => hS k (by omega)) (by have := h.size; omega)), Nat.le_trans h.size hf.size, fun j o hj => by
    have hlt := (List.getElem?_eq_some_iff.1 hj).1
    have := h.at_ j o hj
    exact (hf.block _ (Array.getElem?_eq_some_iff.1 this).1 (hS _ (by omega))).trans this⟩
theorem Bs.set {w : World} {os : List Obj} {A : World} (h : Bs w os A) (j : Nat) {v : Value} {t : TypeId} (hj : os[j]? = some (.cells #[v] t (0, 0))) (u : Value) : Bs w (os.set j (.cells #[u] t (0, 0))) (A.setCell ⟨w.heap.size + j, 0, none⟩ u) := by
  refine ⟨h.below.setCell (p := ⟨w.heap.size + j, 0, none⟩) (by simp) _, by rw [List.length_set]; simpa [World.setCell] using h.size, fun i o hi => ?_⟩
  rw [List.getElem?_set] at hi
  by_cases e : j = i
  · subst e
    have hlt := (List.getElem?_eq_some_iff.1 hj).1
    rw [if_pos rfl, if_pos hlt] at hi
    cases hi
    exact heap_setCell_same (h.at_ j _ hj) u
  · rw [if_neg e] at hi
    rw [Below.heap_setCell _ _ _ _ (by simp; omega)]
    exact h.at_ i o hi
theorem Bs.cell {w : World} {os : List Obj} {A : World} (h : Bs w os A) (j : Nat) {v : Value} {t : TypeId} (hj : os[j]? = some (.cells #[v] t (0, 0))) : A.cell? ⟨w.heap.size + j, 0, none⟩ = some v ∧ A.frozen? ⟨w.heap.size + j, 0, none⟩ = false := cell_of_block (h.at_ j _ hj)
theorem Bs.nil (w : World) : Bs w [] w := ⟨Below.refl _ _, Nat.le_refl _, fun j o h => by simp at h⟩
theorem Bs.snoc {w : World} {os : List Obj} {A : World} (h : Bs w os A) (o : Obj) (hz : A.heap.size = w.heap.size + os.length) : Bs w (os ++ [o]) (A.alloc o) := by
  refine ⟨h.below.alloc (by omega) _, by simp; omega, fun j x hj => ?_⟩
  by_cases e : j < os.length
  · rw [List.getElem?_append_left e] at hj
    have := h.at_ j x hj
    exact (Below.heap_alloc _ _ _ (Array.getElem?_eq_some_iff.1 this).1).trans this
  · have hlt := (List.getElem?_eq_some_iff.1 hj).1
    rw [List.length_append, List.length_singleton] at hlt
    obtain rfl : j = os.length := by omega
    simp at hj
    subst hj
    rw [← hz]
    exact World.alloc_heap_new A _
end Go.Proofs.Ytcngfcckajpkhaa
