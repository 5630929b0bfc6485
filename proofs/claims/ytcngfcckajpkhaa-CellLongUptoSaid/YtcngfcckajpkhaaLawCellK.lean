/- The law of the cuts. -/
import Derived.Test.YtcngfcckajpkhaaCellU
import Derived.Test.YtcngfcckajpkhaaLawCellC
import Derived.BigQuiet
import Derived.BigRegion
set_option linter.unusedVariables false
set_option linter.unusedSimpArgs false
namespace Go.Proofs.Ytcngfcckajpkhaa
open Go.RowKit Go.Shelf Go.Lib Go.BigFrame
attribute [local go_sem] Oper.semAt_some

set_option maxRecDepth 1000000 in
set_option maxHeartbeats 4000000 in
theorem cutR_any (s : ByteArray) (n : Int) (w : World) (hs : s.size ≤ 4194304) (hb : -9223372036854775808 ≤ n ∧ n ≤ 9223372036854775807) :
    Calls Try.prog 32 #[.string s, .int .i64 n] w fun e w' => e = .returned (.tuple #[.int .i64 (if n < 0 then 0 else (C.cutA (U.toks s.data.toList) n : Int)), .int .i64 (if n < 0 then 1 else 0)]) ∧ Below w.heap.size w w' := by
  by_cases hneg : n < 0
  · rw [if_pos hneg, if_pos hneg]
    go_enter Try.func32, Try.ntmps32
    go_wp2
    refine bodyPost_ret (results_tmp2 rfl _ _ _) rfl ?_
    exact ⟨rfl, Below.refl _ _⟩
  rw [if_neg hneg, if_neg hneg]
  have hll := toks_len (s := s)
  have hlw := U.wsum_toks s.data.toList
  rw [← U.size_eq] at hlw
  have hlen : (C.clus (U.toks s.data.toList)).length ≤ s.size := Nat.le_trans (C.clus_length_le _) hll
  have hcl := C.clus_cells_le (U.toks s.data.toList)
  have ST := C.clus_steps (U.toks s.data.toList) (C.toks_14 _)
  have haz := C.atF_zero (U.toks s.data.toList)
  have CV := fun w => clustersR_any s w hs
  obtain ⟨R, hR⟩ : ∃ R, C.cutA (U.toks s.data.toList) n = R := ⟨_, rfl⟩
  rw [hR]
  unfold C.cutA at hR
  rw [hlw] at ST
  obtain ⟨at_, hat⟩ : ∃ sg, C.atF (U.toks s.data.toList) = sg := ⟨_, rfl⟩
  rw [hat] at ST haz hR
  obtain ⟨l, hl⟩ : ∃ l, C.clus (U.toks s.data.toList) = l := ⟨_, rfl⟩
  rw [hl] at hR hlen hcl ST CV
  have CV := Lib.hid CV
  have HR := Lib.hid hR
  have ST := Lib.hid ST
  have HCL := Lib.hid hcl
  have HAZ := Lib.hid haz
  clear hR hl hat hcl hlw haz
  go_enter Try.func32, Try.ntmps32
  go_wp2_with (go_at_call 22; ((with_reducible refine (CV.out _).mono ?_); rintro e w1 ⟨v1, rfl, hb1, hr1⟩; obtain ⟨A1, cp1, rfl, hA1⟩ := own_form hr1))
  go_loopw [1, 6, 8] (fun c a i wr => ∃ k : Nat, i = .int .i64 (k : Int) ∧ c = .int .i64 (n - (C.cells (l.take k) : Int)) ∧ a = .int .i64 (at_ k : Int) ∧ k ≤ l.length ∧ (C.cells (l.take k) : Int) ≤ n ∧ Below w.heap.size w wr ∧ Below w1.heap.size w1 wr) (fun _ _ i _ => l.length - (intOf i).toNat)
  case atStart => exact ⟨0, rfl, by simp [C.cells], by rw [HAZ.out]; rfl, Nat.zero_le _, by simp [C.cells]; omega, hb1, Below.refl _ _⟩
  case round =>
    obtain ⟨k, rfl, rfl, rfl, hk, hkn, hB, hB'⟩ := hrel
    by_cases hlt : k < l.length
    · obtain ⟨g, rfl⟩ := hA1 (by omega)
      obtain ⟨x, hx⟩ : ∃ s, l[k]? = some s := ⟨_, List.getElem?_eq_getElem hlt⟩
      obtain ⟨c0, c1, _, _, c4⟩ := cellsC_at (own_below hr1 hB') hx
      have hx2 := HCL.out x (List.mem_of_getElem? hx)
      have e1 := (ST.out k x hx).1
      have e4 := (ST.out k x hx).2.2.2.1
      have e10 := (ST.out k x hx).2.2.2.2.2.2.2.2.2
      have hspl : l = l.take k ++ x :: l.drop (k + 1) := by
        have : l.drop k = x :: l.drop (k + 1) := by
          rw [List.drop_eq_getElem_cons hlt]
          congr 1
          exact Option.some.inj ((List.getElem?_eq_getElem hlt).symm.trans hx)
        rw [← this, List.take_append_drop]
      have hct : C.cells (l.take (k + 1)) = C.cells (l.take k) + x.cells := by rw [List.take_add_one, hx]; exact C.cells_snoc _ _
      have hstop : n < ((C.cells (l.take k) + x.cells : Nat) : Int) → C.cutN l n = k := fun h => by
        rw [hspl, C.cutN_stop x _ (l.take k) n hkn h, List.length_take]
        omega
      have HT := Lib.hid hct
      have HS := Lib.hid hstop
      obtain ⟨p, hp⟩ : ∃ p, at_ k = p := ⟨_, rfl⟩
      obtain ⟨p', hp'⟩ : ∃ p, at_ (k + 1) = p := ⟨_, rfl⟩
      rw [hp] at e1 e4 ⊢
      rw [hp'] at e4 e10
      rw [e1] at c0
      have HP := Lib.hid (And.intro hp (And.intro hp' e4))
      have hpx : p + x.len ≤ s.size := by omega
      have i1 : (0 : Int) ≤ (k : Int) := by omega
      have i2 : (k : Int) < (l.length : Int) := by omega
      clear hx hr1 hA1 hct hstop hspl e1 e4 hp hp' e10
      obtain ⟨m, hm⟩ : ∃ m, C.cells (l.take k) = m := ⟨_, rfl⟩
      rw [hm] at HT HS hkn ⊢
      by_cases hle : (x.cells : Int) ≤ n - (m : Int)
      · go_wp2
        go_quiet (fail)
        go_wp2
        go_roundw
        case rel => exact ⟨k + 1, by go_num, by rw [HT.out]; go_num, by rw [HP.out.2.1, ← HP.out.2.2]; go_num, hlt, by rw [HT.out]; omega, below_dn hB _, below_dn hB' _⟩
        case measure => simp [intOf]; omega
      · go_wp2
        refine bodyPost_ret (results_tmp2 rfl _ _ _) rfl ?_
        have e := HR.out
        rw [HS.out (by omega), HP.out.1] at e
        exact ⟨by rw [e]; rfl, hB⟩
    · obtain rfl : k = l.length := by omega
      have e := HR.out
      rw [List.take_length] at hkn
      rw [C.cutN_all _ _ hkn] at e
      go_wp2
      refine bodyPost_ret (results_tmp2 rfl _ _ _) rfl ?_
      exact ⟨by rw [← e]; rfl, hB⟩

set_option maxRecDepth 1000000 in
set_option maxHeartbeats 4000000 in
theorem cellCuts_law (s : ByteArray) (n : Int) (hs : s.size ≤ 1048576) (h1 : (Lit.int .i64 n).wf = true) (w : World) : Calls Try.prog 12 #[.string s, .int .i64 n] w fun e w' => e = .returned (.bool true) ∧ Below w.heap.size w w' := by
  have hb : -9223372036854775808 ≤ n ∧ n ≤ 9223372036854775807 := by simpa [Lit.wf, IntKind.min, IntKind.max, IntKind.signed, IntKind.bits] using h1
  have CU := fun w => cut_any s n w (by omega) hb
  have CR := fun w => cutR_any s n w (by omega) hb
  have hle : C.cutA (U.toks s.data.toList) n ≤ s.size := by rw [U.size_eq, ← U.wsum_toks s.data.toList]; exact C.cutA_le _ _
  unfold cutI at CU
  obtain ⟨a, ha⟩ : ∃ a, C.cutA (U.toks s.data.toList) n = a := ⟨_, rfl⟩
  rw [ha] at CU CR hle
  clear ha
  by_cases hneg : n < 0
  · simp only [if_pos hneg] at CU CR
    have CU := Lib.hid CU
    have CR := Lib.hid CR
    go_enter Try.func12, Try.ntmps12
    go_wp2_with (first
      | (go_at_call 19; refine (known_any _).mono ?_; rintro e w1 ⟨rfl, hb1⟩)
      | (go_at_call 31; ((with_reducible refine (CU.out _).mono ?_); rintro e w2 ⟨rfl, hb2⟩))
      | (go_at_call 32; ((with_reducible refine (CR.out _).mono ?_); rintro e w3 ⟨rfl, hb3⟩)))
    go_ret
    exact ⟨ret_bool (by simp), bst (bst hb1 hb2) hb3⟩
  · simp only [if_neg hneg] at CU CR
    have CU := Lib.hid CU
    have CR := Lib.hid CR
    go_enter Try.func12, Try.ntmps12
    go_wp2_with (first
      | (go_at_call 19; refine (known_any _).mono ?_; rintro e w1 ⟨rfl, hb1⟩)
      | (go_at_call 31; ((with_reducible refine (CU.out _).mono ?_); rintro e w2 ⟨rfl, hb2⟩))
      | (go_at_call 32; ((with_reducible refine (CR.out _).mono ?_); rintro e w3 ⟨rfl, hb3⟩)))
    go_ret
    exact ⟨ret_bool (by simp), bst (bst hb1 hb2) hb3⟩
end Go.Proofs.Ytcngfcckajpkhaa
