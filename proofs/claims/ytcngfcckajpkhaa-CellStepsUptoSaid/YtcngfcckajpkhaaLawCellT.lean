/- The law of the steps. -/
import Derived.Test.YtcngfcckajpkhaaCellT
import Derived.Test.YtcngfcckajpkhaaCellH
set_option linter.unusedVariables false
set_option linter.unusedSimpArgs false
namespace Go.Proofs.Ytcngfcckajpkhaa
open Go.RowKit Go.Shelf Go.Lib Go.BigFrame
attribute [local go_sem] Oper.semAt_some

set_option maxRecDepth 1000000 in
set_option maxHeartbeats 4000000 in
theorem cellSteps_law (s : ByteArray) (hs : s.size ≤ 1048576) (w : World) : Calls Try.prog 16 #[.string s] w fun e w' => e = .returned (.bool true) ∧ Below w.heap.size w w' := by
  have hll := toks_len (s := s)
  have hcl := C.clus_length_le (U.toks s.data.toList)
  have hc2 := C.clus_cells_le (U.toks s.data.toList)
  have hca := C.cells_le2 _ hc2
  have h14 := C.toks_14 s.data.toList
  have CO : ∀ (k : Nat) w, k ≤ (U.toks s.data.toList).length → Calls Try.prog 33 #[.string s, .int .i64 (k : Int)] w fun e w' => e = .returned (.tuple #[.int .i64 (C.cells (C.upTo (C.clus (U.toks s.data.toList)) k) : Int), .int .i64 0]) ∧ Below w.heap.size w w' := by
    intro k w hk
    have := column_any s k w (by omega) (by omega)
    rw [C.steps_col _ h14 k (by omega) (by omega)] at this
    exact this
  obtain ⟨en1, en2, en3, en4⟩ := C.steps_ends (U.toks s.data.toList)
  have C1 := fun w => column_any s (((U.toks s.data.toList).length : Int) + 1) w (by omega) (by omega)
  have C2 := fun w => column_any s (-1) w (by omega) (by omega)
  have S1 := fun w => sign_any_ s ((C.cells (C.clus (U.toks s.data.toList)) : Int) + 1) w (by omega) (by omega)
  have S2 := fun w => sign_any_ s (-1) w (by omega) (by omega)
  rw [en1] at C1
  rw [en2] at S1
  rw [en3] at C2
  rw [en4] at S2
  replace C1 : ∀ w, Calls Try.prog 33 #[.string s, .int .i64 (((U.toks s.data.toList).length : Int) + 1)] w fun e w' => e = .returned (.tuple #[.int .i64 0, .int .i64 1]) ∧ Below w.heap.size w w' := C1
  replace C2 : ∀ w, Calls Try.prog 33 #[.string s, .int .i64 (-1)] w fun e w' => e = .returned (.tuple #[.int .i64 0, .int .i64 1]) ∧ Below w.heap.size w w' := C2
  replace S1 : ∀ w, Calls Try.prog 35 #[.string s, .int .i64 ((C.cells (C.clus (U.toks s.data.toList)) : Int) + 1)] w fun e w' => e = .returned (.tuple #[.int .i64 0, .int .i64 1]) ∧ Below w.heap.size w w' := S1
  replace S2 : ∀ w, Calls Try.prog 35 #[.string s, .int .i64 (-1)] w fun e w' => e = .returned (.tuple #[.int .i64 0, .int .i64 1]) ∧ Below w.heap.size w w' := S2
  have SO : ∀ c : Nat, c ≤ C.cells (C.clus (U.toks s.data.toList)) → ∃ k : Nat, (∀ w, Calls Try.prog 35 #[.string s, .int .i64 (c : Int)] w fun e w' => e = .returned (.tuple #[.int .i64 (k : Int), .int .i64 0]) ∧ Below w.heap.size w w') ∧ k ≤ (U.toks s.data.toList).length ∧ C.cells (C.upTo (C.clus (U.toks s.data.toList)) k) ≤ c ∧ (c : Int) - 2 < (C.cells (C.upTo (C.clus (U.toks s.data.toList)) k) : Int) := by
    intro c hc
    obtain ⟨k, k1, k2, k3, k4⟩ := C.steps_sgn (U.toks s.data.toList) h14 c (by omega) (by omega)
    refine ⟨k, fun w => ?_, k2, by omega, k4⟩
    have := sign_any_ s c w (by omega) (by omega)
    rw [k1] at this
    exact this
  have hm : ∀ a b : Nat, a ≤ b → C.cells (C.upTo (C.clus (U.toks s.data.toList)) a) ≤ C.cells (C.upTo (C.clus (U.toks s.data.toList)) b) := fun a b h => C.upTo_mono _ _ _ (by omega)
  have hcn : C.cells (C.upTo (C.clus (U.toks s.data.toList)) ((U.toks s.data.toList).length : Nat)) = C.cells (C.clus (U.toks s.data.toList)) := by rw [C.steps_all _ h14]
  have OF := fun w => of_any s w (by omega)
  obtain ⟨cc, hcc⟩ : ∃ cc : Nat → Nat, (fun k : Nat => C.cells (C.upTo (C.clus (U.toks s.data.toList)) k)) = cc := ⟨_, rfl⟩
  have hcc' : ∀ k : Nat, C.cells (C.upTo (C.clus (U.toks s.data.toList)) k) = cc k := fun k => congrFun hcc k
  simp only [hcc'] at CO SO hm hcn
  obtain ⟨tl, htl⟩ : ∃ tl, (U.toks s.data.toList).length = tl := ⟨_, rfl⟩
  rw [htl] at hll CO C1 SO hcn hcl
  obtain ⟨tc, htc⟩ : ∃ tl, C.cells (C.clus (U.toks s.data.toList)) = tl := ⟨_, rfl⟩
  rw [htc] at hca S1 SO hcn OF
  have CO := Lib.hid CO
  have C1 := Lib.hid C1
  have C2 := Lib.hid C2
  have SO := Lib.hid SO
  have S1 := Lib.hid S1
  have S2 := Lib.hid S2
  have HM := Lib.hid hm
  have HTL := Lib.hid htl
  have HCN := Lib.hid hcn
  have OF := Lib.hid OF
  have htc4 : tc ≤ 4194304 := by omega
  have hcle : Hid (∀ k, k ≤ tl → cc k ≤ tc) := Lib.hid (fun k hk => by have := HM.out k tl hk; have := HCN.out; omega)
  clear htc htl hcc hcc' hm en1 en2 en3 en4 h14 hca hc2 hcl hcn
  go_enter Try.func16, Try.ntmps16
  go_wp2_with (go_at_call 19; refine (known_any _).mono ?_; rintro e w1 ⟨rfl, hb1⟩)
  have hBs := hb1.size
  go_loopw [3] (fun n w' => ∃ (pos k : Nat), w' = w1.iter s pos ∧ n = .int .i64 (k : Int) ∧ Hid (k + (U.toks (s.data.toList.drop pos)).length = tl) ∧ k ≤ pos ∧ pos ≤ s.size) (fun _ w' => s.size - w'.iterPos w1.heap.size)
  case atStart => exact ⟨0, 0, rfl, rfl, Lib.hid (by simpa using HTL.out), Nat.le_refl _, Nat.zero_le _⟩
  case round =>
    obtain ⟨pos, k, rfl, rfl, hc, hkp, hps⟩ := hrel
    by_cases hp : pos < s.size
    · have hnx : ∀ ty, (Instr.next (.pointer (some ⟨w1.heap.size, 0, none⟩)) true ty).run Try.prog (w1.iter s pos) = _ := fun ty => run_next_any w1 s pos ty hp
      have hd := decode_facts hp
      have hc2 := hc.out
      rw [toks_at hp, List.length_cons] at hc2
      have H := Lib.hid hc2
      have H2 := Lib.hid hd
      clear hc hc2 hd
      go_wp2
      go_roundw
      case rel =>
        have hd := H2.out
        exact ⟨pos + (Utf8.decode s pos).2, k + 1, rfl, by go_num, Lib.hid (by rw [← H.out]; omega), by omega, by omega⟩
      case measure =>
        have hd := H2.out
        simp
        omega
    · have hnx : ∀ ty, (Instr.next (.pointer (some ⟨w1.heap.size, 0, none⟩)) true ty).run Try.prog (w1.iter s pos) = _ := fun ty => run_next_end w1 s pos ty hp
      have hc2 := hc.out
      rw [toks_end hp] at hc2
      obtain rfl : k = tl := by simpa using hc2
      clear hc hc2
      by_cases h300 : 300 < k
      · go_wp2
        go_ret
        exact ⟨rfl, hb1.alloc hb1.size _⟩
      have hB2 : Below w.heap.size w (w1.iter s pos) := hb1.alloc hb1.size _
      go_wp2
      go_loopw [4, 5] (fun m i wr => ∃ q a : Nat, i = .int .i64 (q : Int) ∧ m = .int .i64 (a : Int) ∧ q ≤ k + 1 ∧ Hid (a = if q = 0 then 0 else cc (q - 1)) ∧ a ≤ 4194304 ∧ Below w.heap.size w wr) (fun _ i _ => k + 1 - (intOf i).toNat)
      case atStart => exact ⟨0, 0, rfl, rfl, Nat.zero_le _, Lib.hid rfl, by omega, hB2⟩
      case round =>
        obtain ⟨q, a, rfl, rfl, hq, ha, ha4, hB⟩ := hrel
        by_cases hlt : q ≤ k
        · have CQ := fun w => CO.out q w hlt
          have hcq := hcle.out q hlt
          have haq : a ≤ cc q := by
            have := ha.out
            by_cases h : q = 0
            · rw [if_pos h] at this; omega
            · rw [if_neg h] at this
              have := HM.out (q - 1) q (by omega)
              omega
          have CQ := Lib.hid CQ
          have HR := Lib.hid (show cc q = if q + 1 = 0 then 0 else cc (q + 1 - 1) by rw [if_neg (by omega)]; rfl)
          clear ha
          obtain ⟨cq, hcq'⟩ : ∃ c, cc q = c := ⟨_, rfl⟩
          rw [hcq'] at CQ hcq haq HR
          clear hcq'
          go_wp2_with (go_at_call 33; ((with_reducible refine (CQ.out _).mono ?_); rintro e w2 ⟨rfl, hb2⟩))
          go_roundw
          case rel => exact ⟨q + 1, cq, by go_num, rfl, by omega, HR, by omega, bst hB hb2⟩
          case measure => simp [intOf]; omega
        · obtain rfl : q = k + 1 := by omega
          have ha2 := ha.out
          rw [if_neg (by omega), Nat.add_sub_cancel, HCN.out] at ha2
          subst ha2
          clear ha
          go_wp2_with (go_at_call 25; ((with_reducible refine (OF.out _).mono ?_); rintro e w6 ⟨rfl, hb6⟩))
          have hB6 := bst hB hb6
          go_loopw [8] (fun i wr => ∃ q : Nat, i = .int .i64 (q : Int) ∧ q ≤ a + 1 ∧ Below w.heap.size w wr) (fun i _ => a + 1 - (intOf i).toNat)
          case atStart => exact ⟨0, rfl, Nat.zero_le _, hB6⟩
          case round =>
            obtain ⟨c, rfl, hq, hB⟩ := hrel
            by_cases hlt : c ≤ a
            · obtain ⟨kk, SQ, k2, k3, k4⟩ := SO.out c hlt
              have CQ := Lib.hid (fun w => CO.out kk w k2)
              have SQ := Lib.hid SQ
              obtain ⟨cq, hcq'⟩ : ∃ c, cc kk = c := ⟨_, rfl⟩
              rw [hcq'] at CQ k3 k4
              clear hcq'
              go_wp2_with (first
                | (go_at_call 35; ((with_reducible refine (SQ.out _).mono ?_); rintro e w2 ⟨rfl, hb2⟩))
                | (go_at_call 33; ((with_reducible refine (CQ.out _).mono ?_); rintro e w3 ⟨rfl, hb3⟩)))
              go_roundw
              case rel => exact ⟨c + 1, by go_num, by omega, bst (bst hB hb2) hb3⟩
              case measure => simp [intOf]; omega
            · go_wp2_with (first
                | (go_at_call 33; ((with_reducible refine (C1.out _).mono ?_); rintro e w2 ⟨rfl, hb2⟩))
                | (go_at_call 35; ((with_reducible refine (S1.out _).mono ?_); rintro e w3 ⟨rfl, hb3⟩))
                | (go_at_call 33; ((with_reducible refine (C2.out _).mono ?_); rintro e w4 ⟨rfl, hb4⟩))
                | (go_at_call 35; ((with_reducible refine (S2.out _).mono ?_); rintro e w5 ⟨rfl, hb5⟩)))
              go_ret
              exact ⟨rfl, bst (bst (bst (bst hB hb2) hb3) hb4) hb5⟩
end Go.Proofs.Ytcngfcckajpkhaa
