/- A slice that is collected in a variable in memory, by a loop over an iterator. -/
import Derived.Test.YtclblidfamabdaaBase
import Derived.Deep.AppendLies
set_option linter.unusedVariables false
namespace Go.Proofs.Ytclblidfamabdaa
open Go.RowKit Go.Lib

theorem ownsRow_base {w : World} {b b' : Nat} {e : TypeId} {size n : Nat} {v : Value} {xs : List Value} (h : w.ownsRow b e size v n xs) (hb : b' ≤ b) : w.ownsRow b' e size v n xs := by
  obtain ⟨h1, h2⟩ := h
  refine ⟨h1, ?_⟩
  rcases h2 with h2 | ⟨g, cap, cur, hv, hg, r⟩
  · exact .inl h2
  · exact .inr ⟨g, cap, cur, hv, Nat.le_trans hb hg, r⟩
theorem ownsRow_fr {S : Nat → Prop} {A B : World} {b : Nat} {e : TypeId} {size n : Nat} {v : Value} {xs : List Value} (h : A.ownsRow b e size v n xs) (hf : Fr S A B) (hs : ∀ k, b ≤ k → S k) : B.ownsRow b e size v n xs := by
  obtain ⟨h1, h2⟩ := h
  refine ⟨h1, ?_⟩
  rcases h2 with h2 | ⟨g, cap, cur, hv, hg, hh, r⟩
  · exact .inl h2
  · exact .inr ⟨g, cap, cur, hv, hg, (hf.block g (Array.getElem?_eq_some_iff.1 hh).1 (hs g hg)).trans hh, r⟩
theorem own_below {w w1 : World} {b : Nat} {e : TypeId} {size n : Nat} {v : Value} {xs : List Value} (h : w.ownsRow b e size v n xs) (hb : Below w.heap.size w w1) : w1.ownsRow b e size v n xs :=
  h.kept (row := none) ⟨hb.os, hb.tape, hb.output, hb.size, fun i hi _ => hb.block i hi⟩ (by cases v.ownBlock <;> simp)
/-- A new block's cells, a second new block behind it. -/
theorem cell_new2 (W : World) (cs : Array Value) (t : TypeId) (o : Obj) (j : Nat) (v : Value) (h : cs[j]? = some v) : ((W.alloc (.cells cs t)).alloc o).cell? ⟨W.heap.size, j, none⟩ = some v := by
  rw [World.cell?_of_block (w := W.alloc (.cells cs t)) (Below.heap_alloc _ o _ (by simp))]
  have hh := World.alloc_heap_new W (.cells cs t)
  simp only [World.cell?, hh, h]; simp
theorem news2 (W : World) (o : Obj) (cs : Array Value) (t : TypeId) : ∀ j u, cs.toList[j]? = some u → ((W.alloc o).alloc (.cells cs t)).cell? ((⟨W.heap.size + 1, 0, none⟩ : Addr).add j) = some u := by
  have := World.news_of_block (World.alloc_heap_new (W.alloc o) (.cells cs t))
  rwa [World.size_alloc] at this
theorem heap_setCell_same {W : World} {B : Nat} {t : TypeId} {v : Value} (h : W.heap[B]? = some (.cells #[v] t (0, 0))) (u : Value) : (W.setCell ⟨B, 0, none⟩ u).heap[B]? = some (.cells #[u] t (0, 0)) :=
  (show Boxed W B t v from h).set u

/-- At a round's begin: the loop's variable lies in a new block; what lay there lies there. -/
theorem rx_new {W W3 : World} {lx : Nat} {cs : Array Value} {t : TypeId} (hf : Fr (fun k => k ≠ lx) (W.alloc (.cells cs t)) W3) (hne : lx < W.heap.size) : W3.heap[W.heap.size]? = some (.cells cs t (0, 0)) :=
  (hf.block W.heap.size (by simp) (by omega)).trans (World.alloc_heap_new W _)
theorem rx_old {W W3 : World} {lx k : Nat} {X o : Obj} (hf : Fr (fun k => k ≠ lx) (W.alloc X) W3) (h : W.heap[k]? = some o) (hne : k ≠ lx) : W3.heap[k]? = some o := by
  have hlt := (Array.getElem?_eq_some_iff.1 h).1
  exact (hf.block k (by simp; omega) hne).trans ((Below.heap_alloc W X k hlt).trans h)
theorem rx_below {w W W3 : World} {lx n : Nat} {X : Obj} (hf : Fr (fun k => k ≠ lx) (W.alloc X) W3) (hB : Below n w W) (hn : n ≤ W.heap.size) (hl : n ≤ lx) : Below n w W3 :=
  (hB.alloc hn _).trans (hf.toBelow (fun k hk => by omega) (by simp; omega))
/-- The variable at block b0 holds a slice of the call's own, of these cells. -/
def Coll (w : World) (b0 : Nat) (tS e : TypeId) (size base n : Nat) (cells : List Value) (W : World) : Prop :=
  Below w.heap.size w W ∧ ∃ v, W.heap[b0]? = some (.cells #[v] tS (0, 0)) ∧ W.ownsRow base e size v n cells

theorem Coll.fr {w : World} {b0 : Nat} {tS e : TypeId} {size base n : Nat} {cells : List Value} {lo hi : Nat} {A B : World} (h : Coll w b0 tS e size base n cells A)
    (h0 : b0 < lo) (hw : w.heap.size ≤ lo) (hA : w.heap.size ≤ A.heap.size) (hb : hi ≤ base) (hf : Fr (fun k => k < lo ∨ hi ≤ k) A B) : Coll w b0 tS e size base n cells B := by
  obtain ⟨h1, v, h2, h3⟩ := h
  exact ⟨h1.trans (hf.toBelow (fun k hk => .inl (by omega)) hA), v, (hf.block b0 (Array.getElem?_eq_some_iff.1 h2).1 (.inl h0)).trans h2, ownsRow_fr h3 hf (fun k hk => .inr (by omega))⟩

theorem Coll.size {w : World} {b0 : Nat} {tS e : TypeId} {size base n : Nat} {cells : List Value} {A : World} (h : Coll w b0 tS e size base n cells A) : w.heap.size ≤ A.heap.size := h.1.size

/-- Behind 'out = append(out, x)': what was appended lay in a new block. -/
theorem Coll.append {w : World} {b0 : Nat} {tS e : TypeId} {size base n m : Nat} {cells news : List Value} {W W0 w1 : World} {v v' : Value} {S : Nat → Prop}
    (hB : Below w.heap.size w W) (hv : W.heap[b0]? = some (.cells #[v] tS (0, 0))) (hrow : W.ownsRow base e size v n cells) (hwb : w.heap.size ≤ b0) (hbb : b0 < base)
    (hf0 : Fr S W W0) (hb0 : Below W.heap.size W W0) (hown : w1.ownsRow base e size v' m news) (hg : W0.grownBy w1 v.ownBlock) (hS : ∀ k, S k → k < base ∧ k ≠ b0) :
    Coll w b0 tS e size base m news (w1.setCell ⟨b0, 0, none⟩ v') ∧ Fr S W (w1.setCell ⟨b0, 0, none⟩ v') ∧ w1.heap[b0]? = some (.cells #[v] tS (0, 0)) := by
  have hlt := (Array.getElem?_eq_some_iff.1 hv).1
  have hrb : ∀ r, v.ownBlock = some r → base ≤ r := fun r e => (hrow.lt r e).1
  have hv1 : w1.heap[b0]? = some (.cells #[v] tS (0, 0)) := by
    refine (hg.block b0 (Nat.lt_of_lt_of_le hlt hb0.size) (fun e => ?_)).trans ((hb0.block b0 hlt).trans hv)
    have := hrb b0 e.symm
    omega
  have h1 : Fr S W w1 := hf0.grown hg (fun r e hr hs => by have := hrb r e; have := (hS r hs).1; omega)
  refine ⟨⟨?_, v', heap_setCell_same hv1 v', ?_⟩, h1.setCell _ _ (fun _ hs => (hS _ hs).2 rfl), hv1⟩
  · have := hB.size
    exact ((hB.trans ((hb0.mono hB.size).grown hg (Nat.le_trans hB.size hb0.size) (fun k e => by have := hrb k e; omega)))).setCell (p := ⟨b0, 0, none⟩) hwb _
  · refine hown.kept (grownBy_setCell' w1 b0 v') ?_
    rcases hown.2 with ⟨rfl, _⟩ | ⟨g, cap, cur, rfl, hgb, _⟩
    · exact .inl rfl
    · refine .inr fun e => ?_
      have : g = b0 := by simpa [Value.ownBlock] using e
      omega
end Go.Proofs.Ytclblidfamabdaa
