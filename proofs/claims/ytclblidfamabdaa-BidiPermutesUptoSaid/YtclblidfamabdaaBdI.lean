/- A new paragraph in memory: both orders of its making. -/
import Derived.Test.YtclblidfamabdaaBdO
set_option linter.unusedVariables false
namespace Go.Proofs.Ytclblidfamabdaa
open Go.RowKit Go.Shelf Go.Lib Go.BigFrame

def objP (u a b : Value) (gl m : Nat) : Obj := .cells #[u, a, b, .slice (some ⟨gl, 0, none⟩) m m] 55
structure P7 (W wx : World) (u : Value) (cc : Nat → Int) (m xb gl : Nat) (A3 : Option Addr) (c3 : Nat) : Prop where
  box : wx.heap[xb]? = some (.cells #[u, .slice A3 m c3, .slice none 0 0, .slice (some ⟨gl, 0, none⟩) m m] 55 (0, 0))
  below : Below W.heap.size W wx
  cap : m ≤ c3
  own : (Value.slice A3 m c3).ownBlock ≠ some gl
  cln : 0 < m → ∃ g, A3 = some ⟨g, 0, none⟩ ∧ W.heap.size ≤ g ∧ g ≠ gl ∧ g ≠ xb ∧ Rw wx g cc m
  far : W.heap.size ≤ gl ∧ gl ≠ xb ∧ W.heap.size ≤ xb
  zero : Rw wx gl (fun _ => 0) m
theorem p7_a {W V w3 : World} {u : Value} {cc : Nat → Int} {m c3 : Nat} {A3 : Option Addr} {MC : Array Value} (hV : Below W.heap.size W V) (hb : Below V.heap.size V w3) (hc : m ≤ c3) (ho : ∀ q, (Value.slice A3 m c3).ownBlock = some q → V.heap.size ≤ q ∧ q < w3.heap.size) (hn : 0 < m → ∃ g, A3 = some ⟨g, 0, none⟩ ∧ V.heap.size ≤ g ∧ Rw w3 g cc m) (hz : ∀ X : World, Rw (X.alloc (.cells MC 3)) X.heap.size (fun _ => 0) m) :
    P7 W ((w3.alloc (.cells MC 3)).alloc (.cells #[u, .slice A3 m c3, .slice none 0 0, .slice (some ⟨w3.heap.size, 0, none⟩) m m] 55)) u cc m (w3.heap.size + 1) w3.heap.size A3 c3 := by
  have s1 := hV.size
  have s2 := hb.size
  refine ⟨?_, ?_, hc, fun e => by have := ho _ e; omega, fun h => ?_, ⟨by omega, by omega, by omega⟩, (hz w3).alloc _⟩
  · have := World.alloc_heap_new (w3.alloc (.cells MC 3)) (.cells #[u, .slice A3 m c3, .slice none 0 0, .slice (some ⟨w3.heap.size, 0, none⟩) m m] 55)
    rw [World.size_alloc] at this
    exact this
  · exact ((bst hV hb).alloc (by omega) _).alloc (by simp; omega) _
  · obtain ⟨g, e, h1, h2⟩ := hn h
    have := h2.lt
    exact ⟨g, e, by omega, by omega, by omega, (h2.alloc _).alloc _⟩
theorem p7_b {W V w3 : World} {u : Value} {cc : Nat → Int} {m c3 gl : Nat} {A3 : Option Addr} (hV : Below W.heap.size W V) (hb : Below V.heap.size V w3) (hgl : W.heap.size ≤ gl) (hz : Rw V gl (fun _ => 0) m) (hc : m ≤ c3) (ho : ∀ q, (Value.slice A3 m c3).ownBlock = some q → V.heap.size ≤ q ∧ q < w3.heap.size) (hn : 0 < m → ∃ g, A3 = some ⟨g, 0, none⟩ ∧ V.heap.size ≤ g ∧ Rw w3 g cc m) :
    P7 W (w3.alloc (.cells #[u, .slice A3 m c3, .slice none 0 0, .slice (some ⟨gl, 0, none⟩) m m] 55)) u cc m w3.heap.size gl A3 c3 := by
  have s1 := hV.size
  have s2 := hb.size
  have s3 := hz.lt
  refine ⟨World.alloc_heap_new w3 _, (bst hV hb).alloc (by omega) _, hc, fun e => by have := ho _ e; omega, fun h => ?_, ⟨hgl, by omega, by omega⟩, ?_⟩
  · obtain ⟨g, e, h1, h2⟩ := hn h
    have := h2.lt
    exact ⟨g, e, by omega, by omega, by omega, h2.alloc _⟩
  · exact (hz.fr (Fr.of_below (S := fun k => k < V.heap.size) hb (fun k _ h => h)) s3).alloc _
theorem p7_px {W wx w4 : World} {u : Value} {ch cl : Nat → Nat} {m xb gl g gc c3 : Nat} {A3 : Option Addr} {cc : Nat → Int} (h : P7 W wx u cc m xb gl A3 c3) (hf : Fr (fun k => k ≠ g) wx w4) (hgx : g ≠ xb) (hgl : g ≠ gl) (hgc : wx.heap.size ≤ gc) (hcl : Rw w4 gc (clI cl) m) (hch : 0 < m → A3 = some ⟨g, 0, none⟩ ∧ Rw w4 g (fun j => (ch j : Int)) m) :
    Px (w4.setCell ⟨xb, 2, none⟩ (.slice (some ⟨gc, 0, none⟩) m m)) xb m gl u (.slice A3 m c3) (.slice (some ⟨gc, 0, none⟩) m m) ch cl := by
  have hxl := (Array.getElem?_eq_some_iff.1 h.box).1
  have hgll := h.zero.lt
  have hb : w4.heap[xb]? = some (.cells #[u, .slice A3 m c3, .slice none 0 0, .slice (some ⟨gl, 0, none⟩) m m] 55 (0, 0)) := (hf.block xb hxl (Ne.symm hgx)).trans h.box
  refine ⟨?_, ?_, ?_, Ne.symm h.far.2.1, ?_, ?_⟩
  · show (w4.heap.modify xb _)[xb]? = _
    rw [Array.getElem?_modify, if_pos rfl, hb]
    rfl
  · refine ⟨A3, c3, rfl, h.cap, fun hm => ?_⟩
    obtain ⟨e, h1⟩ := hch hm
    exact ⟨g, 0, e, fun j hj => by rw [Nat.zero_add]; exact ((h1.other hgx).at hj).1⟩
  · exact (hcl.other (by omega)).rd m (Nat.le_refl _)
  · exact h.own
  · intro e
    have := Option.some.inj e
    simp at this
    omega
end Go.Proofs.Ytclblidfamabdaa
