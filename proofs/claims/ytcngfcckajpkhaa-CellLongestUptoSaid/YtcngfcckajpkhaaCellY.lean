/- What a cut leaves: plain. -/
import Derived.Test.YtcngfcckajpkhaaCellU
import Derived.Test.YtcngfcckajpkhaaCellX
set_option linter.unusedVariables false
namespace Go.Proofs.Ytcngfcckajpkhaa
open Go.Lib

theorem ext_front (s : ByteArray) (b : Nat) : (s.extract 0 b).data.toList = s.data.toList.take b := by
  rw [Lib.extract_data, List.drop_zero]; simp
theorem ext_back (s : ByteArray) (a : Nat) : (s.extract a s.size).data.toList = s.data.toList.drop a := by
  rw [Lib.extract_data, ← List.drop_take, List.take_of_length_le (i := s.size) (by rw [U.size_eq]; exact Nat.le_refl _)]
theorem ext_two (s : ByteArray) (a : Nat) : s.extract 0 a ++ s.extract a s.size = s := by
  apply ByteArray.ext
  apply Array.ext'
  have : (s.extract 0 a ++ s.extract a s.size).data.toList = (s.extract 0 a).data.toList ++ (s.extract a s.size).data.toList := by rw [ByteArray.data_append, Array.toList_append]
  rw [this, ext_front, ext_back, List.take_append_drop]

theorem cut_facts (s : ByteArray) (n : Int) (h0 : 0 ≤ n) : ∃ (a b : ByteArray), cutI s n = (a, b, 0) ∧ a ++ b = s ∧ a.size + b.size = s.size ∧
    C.cells (C.clus (U.toks s.data.toList)) = C.cells (C.clus (U.toks a.data.toList)) + C.cells (C.clus (U.toks b.data.toList)) ∧ (C.cells (C.clus (U.toks a.data.toList)) : Int) ≤ n ∧
    (b = ⟨#[]⟩ ∨ 0 < b.size ∧ ∃ y, (C.clus (U.toks b.data.toList))[0]? = some y ∧ n < ((C.cells (C.clus (U.toks a.data.toList)) + y.cells : Nat) : Int)) := by
  obtain ⟨k, hk⟩ : ∃ k, C.cutN (C.clus (U.toks s.data.toList)) n = k := ⟨_, rfl⟩
  have hkl : k ≤ (C.clus (U.toks s.data.toList)).length := by rw [← hk]; exact C.cutN_le _ _
  obtain ⟨c1, c2⟩ := C.cutN_is (C.clus (U.toks s.data.toList)) n h0
  rw [hk] at c1 c2
  obtain ⟨cp1, cp2⟩ := C.clus_parts s.data.toList k hkl
  rw [← ext_front] at cp1
  rw [← ext_back] at cp2
  obtain ⟨A, hA⟩ : ∃ A, C.atF (U.toks s.data.toList) k = A := ⟨_, rfl⟩
  have hci : cutI s n = (s.extract 0 A, s.extract A s.size, 0) := by
    unfold cutI C.cutA
    rw [if_neg (by omega), hk, hA]
  rw [hA] at cp1 cp2
  have htwo := ext_two s A
  refine ⟨_, _, hci, htwo, by rw [← ByteArray.size_append, htwo], ?_, by rw [cp1]; exact c1, ?_⟩
  · rw [cp1, ← C.cells_sh A (C.sgF (U.toks s.data.toList) k) (C.clus (U.toks (s.extract A s.size).data.toList)), cp2, ← C.cells_append, List.take_append_drop]
  · by_cases hkk : k < (C.clus (U.toks s.data.toList)).length
    · right
      have hlb : 0 < (C.clus (U.toks (s.extract A s.size).data.toList)).length := by
        have := congrArg List.length cp2
        rw [List.length_map, List.length_drop] at this
        omega
      obtain ⟨y, hy⟩ : ∃ y, (C.clus (U.toks (s.extract A s.size).data.toList))[0]? = some y := ⟨_, List.getElem?_eq_getElem hlb⟩
      have hx : (C.clus (U.toks s.data.toList))[k]? = some (C.sh A (C.sgF (U.toks s.data.toList) k) y) := by
        have := congrArg (fun l => l[0]?) cp2
        simp only [List.getElem?_map, hy, List.getElem?_drop, Nat.add_zero, Option.map_some] at this
        exact this.symm
      refine ⟨?_, y, hy, by rw [cp1]; exact c2 (C.sh A (C.sgF (U.toks s.data.toList) k) y) hx⟩
      have h1 := C.clus_length_le (U.toks (s.extract A s.size).data.toList)
      have h2 := U.toks_length_le (s.extract A s.size).data.toList
      rw [← U.size_eq] at h2
      omega
    · left
      obtain rfl : k = (C.clus (U.toks s.data.toList)).length := by omega
      rw [C.atF_end, U.wsum_toks, ← U.size_eq] at hA
      rw [← hA]
      exact ext_none s
end Go.Proofs.Ytcngfcckajpkhaa
