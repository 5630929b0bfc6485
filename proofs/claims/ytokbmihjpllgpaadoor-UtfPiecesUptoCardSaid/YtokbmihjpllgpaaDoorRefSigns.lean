/- ref.Signs: the signs of a text, as the reference tells them. -/
import Derived.Test.YtokbmihjpllgpaaDoorOneB
import Derived.Test.YtokbmihjpllgpaaDoorColl
set_option linter.unusedVariables false
namespace Go.Proofs.YtokbmihjpllgpaaDoor
open Go.RowKit Go.Lib

theorem by_drop (l : List UInt8) (pos j : Nat) : U.by_ (l.drop pos) j = U.by_ l (pos + j) := by
  unfold U.by_; simp [List.getD_eq_getElem?_getD, List.getElem?_drop]

theorem moreB_is (l : List UInt8) (pos : Nat) : moreB l pos = true ↔ pos < l.length ∧ 128 ≤ U.by_ l pos ∧ U.by_ l pos ≤ 191 := by
  unfold moreB U.cont; simp

/-- A sign's cells, as ref has them. -/
def cellR (x : U.Sg) : List Value := [.int .i64 (x.at_ : Int), .int .i64 (x.len : Int), .int .i64 (x.rune : Int), .bool x.bad]
def cellsR (l : List U.Sg) : List Value := l.flatMap cellR
theorem cellsR_snoc (l : List U.Sg) (x : U.Sg) : cellsR (l ++ [x]) = cellsR l ++ cellR x := by simp [cellsR]

theorem bytesAt_new (W : World) (e : TypeId) (s : ByteArray) : BytesAt (Lib.bytesWorld W e s) W.heap.size s.data.toList := fun j hj => by
  rw [Lib.bytesWorld_cell W e s j (by rw [U.size_eq]; exact hj)]; rfl

end Go.Proofs.YtokbmihjpllgpaaDoor
