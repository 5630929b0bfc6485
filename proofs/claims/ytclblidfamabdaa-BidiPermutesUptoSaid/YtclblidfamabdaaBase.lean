/- Small words that all texts of this seat use: signs of a ByteArray at a place; what a slice reads as; cells through steps of a world. -/
import Derived.Test.YtclblidfamabdaaProg
import Derived.Test.YtclblidfamabdaaUtf
import Derived.Test.YtclblidfamabdaaRf
import Derived.WalkKit
import Derived.Laws.RangeString
import Derived.Laws.RangeAny
import Derived.Lib.OthersKept
import Derived.Below
import Derived.Outline
import Derived.Deep.DeepMust
import Derived.Lib.Hide
import Derived.Lib.Strings
import Derived.WalkSmall
import Derived.Maps.AppendAt
import Derived.OwnWalk
import Derived.OwnWalkIn
import Derived.TacticsInMore
import Derived.LoopNIn
import Derived.LoopIn
import Derived.Shelf.Abstract
import Derived.Shelf.RegionOpen
import Derived.RangeFuncBox
set_option linter.unusedVariables false
namespace Go.Proofs.Ytclblidfamabdaa
open Go.RowKit Go.Lib

theorem drop_ne {s : ByteArray} {pos : Nat} (hp : pos < s.size) : s.data.toList.drop pos ≠ [] := by
  intro h
  have := congrArg List.length h
  rw [List.length_drop, ← U.size_eq] at this
  simp at this
  omega
theorem toks_at {s : ByteArray} {pos : Nat} (hp : pos < s.size) : U.toks (s.data.toList.drop pos) = Utf8.decode s pos :: U.toks (s.data.toList.drop (pos + (Utf8.decode s pos).2)) := by
  rw [U.decode_eq s pos hp, U.toks_ne _ (drop_ne hp), List.drop_drop]
theorem toks_end {s : ByteArray} {pos : Nat} (hp : ¬ pos < s.size) : U.toks (s.data.toList.drop pos) = [] := by
  rw [List.drop_of_length_le (by rw [← U.size_eq]; omega)]; rfl
theorem decode_facts {s : ByteArray} {pos : Nat} (hp : pos < s.size) :
    1 ≤ (Utf8.decode s pos).2 ∧ (Utf8.decode s pos).2 ≤ 4 ∧ pos + (Utf8.decode s pos).2 ≤ s.size ∧ (Utf8.decode s pos).1 ≤ 1114111 ∧ ((Utf8.decode s pos).1 < 55296 ∨ 57344 ≤ (Utf8.decode s pos).1) := by
  have hd := U.dec_facts (s.data.toList.drop pos) (drop_ne hp)
  rw [← U.decode_eq s pos hp, List.length_drop, ← U.size_eq] at hd
  omega
theorem toks_len {s : ByteArray} : (U.toks s.data.toList).length ≤ s.size := by rw [U.size_eq]; exact U.toks_length_le _

theorem Fr.iterAt {S : Nat → Prop} {A B : World} (h : Fr S A B) (k : Nat) (s : ByteArray) (pos : Nat) (hn : k < A.heap.size → ¬ S k) : Fr S A (B.iterAt k s pos) := h.putObj k _ hn

theorem cell_of_block {W : World} {B : Nat} {v : Value} {t : TypeId} (h : W.heap[B]? = some (.cells #[v] t (0, 0))) : W.cell? ⟨B, 0, none⟩ = some v ∧ W.frozen? ⟨B, 0, none⟩ = false := by
  constructor <;> simp [World.cell?, World.frozen?, h]

theorem below_dn {B : Nat} {a w : World} (h : Below B a w) (n : Nat) : Below B a (w.drewN n) := ⟨h.os, h.tape, h.output, h.size, h.block⟩
theorem cell_new (W : World) (v : Value) (t : TypeId) : (W.alloc (.cells #[v] t)).cell? ⟨W.heap.size, 0, none⟩ = some v ∧ (W.alloc (.cells #[v] t)).frozen? ⟨W.heap.size, 0, none⟩ = false :=
  cell_of_block (World.alloc_heap_new W _)

end Go.Proofs.Ytclblidfamabdaa
