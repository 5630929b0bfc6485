/- The law of the longest front. -/
import Derived.Test.YtcngfcckajpkhaaCellY
import Derived.Test.YtcngfcckajpkhaaCellAll
import Derived.Test.YtcngfcckajpkhaaLawCellC
import Derived.BigQuiet
import Derived.BigRegion
import Derived.Deep.RegionHeld3
set_option linter.unusedVariables false
set_option linter.unusedSimpArgs false
namespace Go.Proofs.Ytcngfcckajpkhaa
open Go.RowKit Go.Shelf Go.Lib Go.BigFrame
attribute [local go_sem] Oper.semAt_some

set_option maxRecDepth 1000000 in
set_option maxHeartbeats 4000000 in
theorem cellLongest_law (s : ByteArray) (n : Int) (hs : s.size ≤ 1048576) (h1 : (Lit.int .i64 n).wf = true) (w : World) : Calls Try.prog 13 #[.string s, .int .i64 n] w fun e w' => e = .returned (.bool true) ∧ Below w.heap.size w w' := by
  have hb : -9223372036854775808 ≤ n ∧ n ≤ 9223372036854775807 := by simpa [Lit.wf, IntKind.min, IntKind.max, IntKind.signed, IntKind.bits] using h1
  have CU := fun w => cut_any s n w (by omega) hb
  by_cases hneg : n < 0
  · unfold cutI at CU
    simp only [if_pos hneg] at CU
    have CU := Lib.hid CU
    go_enter Try.func13, Try.ntmps13
    go_wp2_with (first
      | (go_at_call 19; refine (known_any _).mono ?_; rintro e w1 ⟨rfl, hb1⟩)
      | (go_at_call 31; ((with_reducible refine (CU.out _).mono ?_); rintro e w2 ⟨rfl, hb2⟩)))
    go_ret
    exact ⟨ret_bool (by simp), bst hb1 hb2⟩
  obtain ⟨a, b, hci, hab, hsz, hcs, hcn, hor⟩ := cut_facts s n (by omega)
  rw [hci] at CU
  replace CU : ∀ w, Calls Try.prog 31 #[.string s, .int .i64 n] w fun e w' => e = .returned (.tuple #[.string a, .string b, .int .i64 0]) ∧ Below w.heap.size w w' := CU
  have OF := fun w => of_any s w (by omega)
  have OA := fun w => of_any a w (by omega)
  have OB := fun w => of_any b w (by omega)
  have ALB := fun w => all_any b b.size w (by omega) (Nat.le_trans (C.clus_length_le _) toks_len) (by omega)
  have hnb := Nat.le_trans (C.clus_length_le (U.toks b.data.toList)) (toks_len (s := b))
  have b1 := C.cells_le2 _ (C.clus_cells_le (U.toks a.data.toList))
  have b2 := C.cells_le2 _ (C.clus_cells_le (U.toks b.data.toList))
  have hna := Nat.le_trans (C.clus_length_le (U.toks a.data.toList)) (toks_len (s := a))
  have hyc := C.clus_cells_le (U.toks b.data.toList)
  rw [hcs, Int.natCast_add] at OF
  have hca4 : C.cells (C.clus (U.toks a.data.toList)) ≤ 4194304 := by omega
  have hcb4 : C.cells (C.clus (U.toks b.data.toList)) ≤ 4194304 := by omega
  clear b1 b2
  obtain ⟨ca, hca⟩ : ∃ c, C.cells (C.clus (U.toks a.data.toList)) = c := ⟨_, rfl⟩
  rw [hca] at OF OA hcn hor hca4
  obtain ⟨cb, hcb⟩ : ∃ c, C.cells (C.clus (U.toks b.data.toList)) = c := ⟨_, rfl⟩
  rw [hcb] at OF OB hcb4
  obtain ⟨lb, hlb⟩ : ∃ c, C.clus (U.toks b.data.toList) = c := ⟨_, rfl⟩
  rw [hlb] at ALB hor hnb hyc
  have CU := Lib.hid CU
  have OF := Lib.hid OF
  have OA := Lib.hid OA
  have OB := Lib.hid OB
  have ALB := Lib.hid ALB
  have HYC := Lib.hid hyc
  have hdn : decide (n < (ca : Int)) = false := decide_eq_false (by omega)
  clear hci hcs hca hcb hlb hna hyc
  rcases hor with rfl | ⟨hbs, y, hy, hlt⟩
  · go_enter Try.func13, Try.ntmps13
    go_wp2_with (first
      | (go_at_call 19; refine (known_any _).mono ?_; rintro e w1 ⟨rfl, hb1⟩)
      | (go_at_call 31; ((with_reducible refine (CU.out _).mono ?_); rintro e w2 ⟨rfl, hb2⟩))
      | (go_at_call 25; ((with_reducible refine (OA.out _).mono ?_); rintro e w3 ⟨rfl, hb3⟩))
      | (go_at_call 25; ((with_reducible refine (OB.out _).mono ?_); rintro e w4 ⟨rfl, hb4⟩))
      | (go_at_call 25; ((with_reducible refine (OF.out _).mono ?_); rintro e w5 ⟨rfl, hb5⟩)))
    go_ret
    exact ⟨ret_bool (by simp), bst (bst (bst (bst (bst hb1 hb2) ‹Below w2.heap.size w2 _›) ‹_›) hb4) hb5⟩
  · have hbn : b.toList.isEmpty = false := by
      rw [Lib.toList_data]
      cases he : b.data.toList with
      | nil => rw [U.size_eq, he] at hbs; cases hbs
      | cons _ _ => rfl
    go_enter Try.func13, Try.ntmps13
    go_wp2_with (first
      | (go_at_call 19; refine (known_any _).mono ?_; rintro e w1 ⟨rfl, hb1⟩)
      | (go_at_call 31; ((with_reducible refine (CU.out _).mono ?_); rintro e w2 ⟨rfl, hb2⟩))
      | (go_at_call 25; ((with_reducible refine (OA.out _).mono ?_); rintro e w3 ⟨rfl, hb3⟩))
      | (go_at_call 25; ((with_reducible refine (OB.out _).mono ?_); rintro e w4 ⟨rfl, hb4⟩))
      | (go_at_call 25; ((with_reducible refine (OF.out _).mono ?_); rintro e w5 ⟨rfl, hb5⟩))
      | (go_at_call 23; ((with_reducible refine (ALB.out _).mono ?_); rintro e w6 ⟨v6, rfl, hb6, hr6⟩; obtain ⟨A6, cp6, rfl, hA6⟩ := own_form hr6)))
    have hlb : 0 < lb.length := (List.getElem?_eq_some_iff.1 hy).1
    obtain ⟨g, rfl⟩ := hA6 hlb
    have c4 := (cellsC_at hr6 hy).2.2.2.2
    have hy2 := HYC.out y (List.mem_of_getElem? hy)
    have hBw : Below w.heap.size w w6 := bst (bst (bst (bst (bst (bst hb1 hb2) ‹Below w2.heap.size w2 _›) ‹_›) hb4) hb5) hb6
    have Q : ∀ w', Below w6.drew.heap.size w6.drew w' → ∀ a v, w6.cell? a = some v → w'.cell? a = some v := fun w' hb a v hc => (World.cell?_of_block (hb.block _ (World.block_lt_of_cell? w6 _ hc))).trans hc
    have i0 : (0 : Int) < (lb.length : Int) := by omega
    have hlt' : n < (ca : Int) + (y.cells : Int) := by omega
    clear hr6 hy hb1 hb2 hb3 hb4 hb5 hb6 hab hbn
    go_region_held3 (fun w' => w'.cell? ⟨g, 4, none⟩ = some (.int .i64 (y.cells : Int)))
      (first | exact c4 | exact Q _ hb7 _ _ c4)
      (first | (go_at_call 25; ((with_reducible refine (OA.out _).mono ?_); rintro e w7 ⟨rfl, hb7⟩)))
    go_wp2
    go_ret
    exact ⟨ret_bool (by rw [IntWalk.i64_in _ (by omega)]; exact decide_eq_true hlt'), bst hBw.drew hb7⟩
end Go.Proofs.Ytcngfcckajpkhaa
