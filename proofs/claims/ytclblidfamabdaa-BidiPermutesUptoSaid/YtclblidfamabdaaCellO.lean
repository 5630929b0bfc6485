/- cell.Clusters as a call; cell.Of. -/
import Derived.Test.YtclblidfamabdaaCellC
import Derived.Test.YtclblidfamabdaaCellQ
set_option linter.unusedVariables false
set_option linter.unusedSimpArgs false
namespace Go.Proofs.Ytclblidfamabdaa
open Go.RowKit Go.Shelf Go.Lib Go.BigFrame
attribute [local go_sem] Oper.semAt_some

theorem bst {w a b : World} (h : Below w.heap.size w a) (k : Below a.heap.size a b) : Below w.heap.size w b := h.trans (k.mono h.size)

theorem enters_clusters : ∀ args w, (callFunc 68 args).run Try.prog w = .ok (.enter 68 args) w := enters_of Try.func68 (by kernel_rfl) rfl

theorem clusters_call (s : ByteArray) (w : World) :
    Calls Try.prog 47 #[.string s] w fun e w' => e = .returned (.func (.func 68) #[] #[.pointer (some ⟨w.heap.size, 0, none⟩)]) ∧ w.alloc (.cells #[.string s] 9) = w' := by
  go_enter Try.func47, Try.ntmps47
  go_wp2
  go_ret
  exact ⟨rfl, rfl⟩

/-- One box kept, the world below kept. -/
structure Bx (w : World) (n : Nat) (o : Obj) (W : World) : Prop where
  below : Below n w W
  size : n ≤ W.heap.size
  box : W.heap[n]? = some o
theorem Bx.fr {w : World} {n : Nat} {o : Obj} {A B : World} {S : Nat → Prop} (h : Bx w n o A) (hf : Fr S A B) (hS : ∀ k, k < n + 1 → S k) : Bx w n o B :=
  ⟨h.below.trans (hf.toBelow (fun k hk => hS k (by omega)) h.size), Nat.le_trans h.size hf.size, (hf.block _ (Array.getElem?_eq_some_iff.1 h.box).1 (hS _ (by omega))).trans h.box⟩
theorem Bx.set {w : World} {n : Nat} {v : Value} {t : TypeId} {W : World} (h : Bx w n (.cells #[v] t (0, 0)) W) (u : Value) : Bx w n (.cells #[u] t (0, 0)) (W.setCell ⟨n, 0, none⟩ u) :=
  ⟨h.below.setCell (p := ⟨n, 0, none⟩) (by simp) _, by simpa [World.setCell] using h.size, heap_setCell_same h.box u⟩
theorem Bx.alloc {w : World} {n : Nat} {o : Obj} {A : World} (h : Bx w n o A) (x : Obj) : Bx w n o (A.alloc x) := h.fr (S := fun _ => True) ((Fr.refl _ _).alloc _) (fun _ _ => trivial)
theorem Bx.fresh (w : World) (v : Value) (t : TypeId) : Bx w w.heap.size (.cells #[v] t (0, 0)) (w.alloc (.cells #[v] t)) := ⟨(Below.refl _ _).alloc (Nat.le_refl _) _, by simp, World.alloc_heap_new w _⟩

def objC (x : C.Cl) : Obj := .cells #[.int .i64 (x.at_ : Int), .int .i64 (x.len : Int), .int .i64 (x.frm : Int), .int .i64 (x.to_ : Int), .int .i64 (x.cells : Int)] 75

end Go.Proofs.Ytclblidfamabdaa
