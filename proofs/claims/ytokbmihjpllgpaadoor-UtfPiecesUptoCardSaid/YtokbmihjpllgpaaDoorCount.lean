/- How many signs, how many units of UTF-16. -/
import Derived.Test.YtokbmihjpllgpaaDoorProg
import Derived.Test.YtokbmihjpllgpaaDoorUtf
import Derived.WalkKit
import Derived.Laws.RangeString
import Derived.Laws.RangeAny
import Derived.Below
import Derived.Lib.Hide
namespace Go.Proofs.YtokbmihjpllgpaaDoor
open Go.RowKit

theorem toks_at {s : ByteArray} {pos : Nat} (hp : pos < s.size) : U.toks (s.data.toList.drop pos) = Utf8.decode s pos :: U.toks (s.data.toList.drop (pos + (Utf8.decode s pos).2)) := by
  have hne : s.data.toList.drop pos ≠ [] := by
    intro h
    have := congrArg List.length h
    rw [List.length_drop, ← U.size_eq] at this
    simp at this
    omega
  rw [U.decode_eq s pos hp, U.toks_ne _ hne, List.drop_drop]
theorem toks_end {s : ByteArray} {pos : Nat} (hp : ¬ pos < s.size) : U.toks (s.data.toList.drop pos) = [] := by
  rw [List.drop_of_length_le (by rw [← U.size_eq]; omega)]; rfl

set_option maxRecDepth 1000000 in
theorem count_any (s : ByteArray) (w : World) (hs : s.size ≤ 1048576) :
    Calls Tryd.prog 24 #[.string s] w fun e w' => e = .returned (.int .i64 (U.toks s.data.toList).length) ∧ Below w.heap.size w w' := by
  go_enter Tryd.func24, Tryd.ntmps24
  go_wp2
  go_loopw [3] (fun n w' => ∃ (pos k : Nat), w' = w.iter s pos ∧ n = .int .i64 k ∧ k + (U.toks (s.data.toList.drop pos)).length = (U.toks s.data.toList).length ∧ k ≤ pos ∧ pos ≤ s.size) (fun _ w' => s.size - w'.iterPos w.heap.size)
  case atStart => exact ⟨0, 0, rfl, rfl, by simp, by omega, by omega⟩
  case round =>
    obtain ⟨pos, k, rfl, rfl, hc, hb, hps⟩ := hrel
    by_cases hp : pos < s.size
    · have hnx : ∀ ty, (Instr.next (.pointer (some ⟨w.heap.size, 0, none⟩)) true ty).run Tryd.prog (w.iter s pos) = _ := fun ty => run_next_any w s pos ty hp
      have ht := toks_at hp
      have hd := U.dec_facts (s.data.toList.drop pos) (by intro h; rw [h] at ht; cases ht)
      rw [← U.decode_eq s pos hp, List.length_drop, ← U.size_eq] at hd
      rw [ht, List.length_cons] at hc
      have H := Lib.hid hc
      have H2 := Lib.hid hd
      clear ht hc hd
      go_wp2
      go_roundw
      case rel =>
        have hd := H2.out
        exact ⟨pos + (Utf8.decode s pos).2, k + 1, rfl, by go_num, by rw [← H.out]; omega, by omega, by omega⟩
      case measure =>
        have hd := H2.out
        simp
        omega
    · have hnx : ∀ ty, (Instr.next (.pointer (some ⟨w.heap.size, 0, none⟩)) true ty).run Tryd.prog (w.iter s pos) = _ := fun ty => run_next_end w s pos ty hp
      rw [toks_end hp] at hc
      have H := Lib.hid hc
      clear hc
      go_wp2
      go_ret
      exact ⟨by rw [← H.out]; rfl, (Below.refl _ _).alloc (Nat.le_refl _) _⟩
end Go.Proofs.YtokbmihjpllgpaaDoor
