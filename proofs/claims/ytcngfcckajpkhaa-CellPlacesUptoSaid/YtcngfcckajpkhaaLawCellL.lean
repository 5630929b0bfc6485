/- The law of the places: columns and signs. -/
import Derived.Test.YtcngfcckajpkhaaCellH
set_option linter.unusedVariables false
set_option linter.unusedSimpArgs false
namespace Go.Proofs.Ytcngfcckajpkhaa
open Go.RowKit Go.Shelf Go.Lib Go.BigFrame
attribute [local go_sem] Oper.semAt_some

set_option maxRecDepth 1000000 in
set_option maxHeartbeats 4000000 in
theorem columnR_any (s : ByteArray) (sign : Int) (w : World) (hs : s.size ≤ 4194304) (hb : -9223372036854775808 ≤ sign ∧ sign ≤ 9223372036854775807) :
    Calls Try.prog 34 #[.string s, .int .i64 sign] w fun e w' => e = .returned (.tuple #[.int .i64 ((C.colI (C.clus (U.toks s.data.toList)) (U.toks s.data.toList).length sign).1 : Int), .int .i64 ((C.colI (C.clus (U.toks s.data.toList)) (U.toks s.data.toList).length sign).2 : Int)]) ∧ Below w.heap.size w w' := by
  obtain ⟨R1, R2, hR⟩ : ∃ R1 R2, C.colI (C.clus (U.toks s.data.toList)) (U.toks s.data.toList).length sign = (R1, R2) := ⟨_, _, rfl⟩
  rw [hR]
  unfold C.colI at hR
  have hll := toks_len (s := s)
  have hlen : (C.clus (U.toks s.data.toList)).length ≤ s.size := Nat.le_trans (C.clus_length_le _) hll
  have hcl := C.clus_cells_le (U.toks s.data.toList)
  have ST := C.clus_steps (U.toks s.data.toList) (C.toks_14 _)
  have UT := C.upTo_take (U.toks s.data.toList) (C.toks_14 _) sign
  have hsz := C.sgF_zero (U.toks s.data.toList)
  have hse := C.sgF_end (U.toks s.data.toList)
  have CV := fun w => clustersR_any s w hs
  obtain ⟨tl, htl⟩ : ∃ tl, (U.toks s.data.toList).length = tl := ⟨_, rfl⟩
  rw [htl] at hR hll ST hse
  obtain ⟨sg, hsg⟩ : ∃ sg, C.sgF (U.toks s.data.toList) = sg := ⟨_, rfl⟩
  rw [hsg] at ST hsz hse UT
  obtain ⟨l, hl⟩ : ∃ l, C.clus (U.toks s.data.toList) = l := ⟨_, rfl⟩
  rw [hl] at hR hlen hcl ST hse UT CV
  have CV := Lib.hid CV
  have HR := Lib.hid hR
  have ST := Lib.hid ST
  have UT := Lib.hid UT
  have HCL := Lib.hid hcl
  have HSE := Lib.hid (And.intro hse hsz)
  clear hR hl hsg htl hcl hse hsz
  by_cases h0 : l.length = 0
  · have htl0 : tl = 0 := by have := HSE.out.1; have := HSE.out.2; rw [h0] at *; omega
    subst htl0
    obtain rfl : l = [] := List.length_eq_zero_iff.1 h0
    have hr := HR.out
    by_cases hs0 : sign = 0
    · subst hs0
      rw [if_neg (by omega)] at hr
      obtain ⟨rfl, rfl⟩ := Prod.mk.inj hr
      go_enter Try.func34, Try.ntmps34
      go_wp2_with (go_at_call 22; ((with_reducible refine (CV.out _).mono ?_); rintro e w1 ⟨v1, rfl, hb1, hr1⟩; obtain ⟨A1, cp1, rfl, hA1⟩ := own_form hr1))
      refine wp_loop_rounds 1 ?_
      rw [rounds_succ]
      go_wp2
      refine bodyPost_ret (results_tmp2 rfl _ _ _) rfl ?_
      exact ⟨rfl, hb1⟩
    · rw [if_pos (by omega)] at hr
      obtain ⟨rfl, rfl⟩ := Prod.mk.inj hr
      by_cases hneg : sign < 0
      · go_enter Try.func34, Try.ntmps34
        go_wp2_with (go_at_call 22; ((with_reducible refine (CV.out _).mono ?_); rintro e w1 ⟨v1, rfl, hb1, hr1⟩; obtain ⟨A1, cp1, rfl, hA1⟩ := own_form hr1))
        refine bodyPost_ret (results_tmp2 rfl _ _ _) rfl ?_
        exact ⟨rfl, hb1⟩
      · have hpos : 0 < sign := by omega
        go_enter Try.func34, Try.ntmps34
        go_wp2_with (go_at_call 22; ((with_reducible refine (CV.out _).mono ?_); rintro e w1 ⟨v1, rfl, hb1, hr1⟩; obtain ⟨A1, cp1, rfl, hA1⟩ := own_form hr1))
        refine bodyPost_ret (results_tmp2 rfl _ _ _) rfl ?_
        exact ⟨rfl, hb1⟩
  obtain ⟨z, hz⟩ : ∃ z, l[l.length - 1]? = some z := ⟨_, List.getElem?_eq_getElem (by omega)⟩
  have hz3 := (ST.out _ z hz).2.2.1
  rw [show l.length - 1 + 1 = l.length by omega, HSE.out.1] at hz3
  obtain ⟨j, hj⟩ : ∃ j, l.length - 1 = j := ⟨_, rfl⟩
  rw [hj] at hz
  have hij : (l.length : Int) - 1 = (j : Int) := by omega
  have hjl : j < l.length := by omega
  have HZ := Lib.hid hz
  clear hj hz
  by_cases hbad : sign < 0 ∨ (tl : Int) < sign
  · have hr := HR.out
    rw [if_pos hbad] at hr
    obtain ⟨rfl, rfl⟩ := Prod.mk.inj hr
    rcases hbad with hneg | hbig
    · go_enter Try.func34, Try.ntmps34
      go_wp2_with (go_at_call 22; ((with_reducible refine (CV.out _).mono ?_); rintro e w1 ⟨v1, rfl, hb1, hr1⟩; obtain ⟨A1, cp1, rfl, hA1⟩ := own_form hr1; obtain ⟨g, rfl⟩ := hA1 (by omega); have q3 := (cellsC_at hr1 HZ.out).2.2.2.1; rw [hz3] at q3))
      refine bodyPost_ret (results_tmp2 rfl _ _ _) rfl ?_
      exact ⟨rfl, hb1⟩
    · have hpos : ¬ sign < 0 := by omega
      go_enter Try.func34, Try.ntmps34
      go_wp2_with (go_at_call 22; ((with_reducible refine (CV.out _).mono ?_); rintro e w1 ⟨v1, rfl, hb1, hr1⟩; obtain ⟨A1, cp1, rfl, hA1⟩ := own_form hr1; obtain ⟨g, rfl⟩ := hA1 (by omega); have q3 := (cellsC_at hr1 HZ.out).2.2.2.1; rw [hz3] at q3))
      refine bodyPost_ret (results_tmp2 rfl _ _ _) rfl ?_
      exact ⟨rfl, hb1⟩
  have hp0 : 0 ≤ sign := by omega
  have hp1 : sign ≤ (tl : Int) := by omega
  have hr := HR.out
  rw [if_neg hbad] at hr
  obtain ⟨hr1', hr2'⟩ := Prod.mk.inj hr
  subst hr2'
  have HR2 := Lib.hid hr1'
  clear hr hr1' HR hbad
  go_enter Try.func34, Try.ntmps34
  go_wp2_with (go_at_call 22; ((with_reducible refine (CV.out _).mono ?_); rintro e w1 ⟨v1, rfl, hb1, hr1⟩; obtain ⟨A1, cp1, rfl, hA1⟩ := own_form hr1; obtain ⟨g, rfl⟩ := hA1 (by omega); have q3 := (cellsC_at hr1 HZ.out).2.2.2.1; rw [hz3] at q3))
  go_loopw [8, 9] (fun n i wr => ∃ k : Nat, wr = w1 ∧ i = .int .i64 (k : Int) ∧ n = .int .i64 (C.cells (l.take k) : Int) ∧ k ≤ l.length ∧ Hid (∀ j, j < k → (sg (j + 1) : Int) ≤ sign)) (fun _ i _ => l.length - (intOf i).toNat)
  case atStart => exact ⟨0, rfl, rfl, rfl, Nat.zero_le _, Lib.hid (fun j h => by omega)⟩
  case round =>
    obtain ⟨k, rfl, rfl, rfl, hk, hkj⟩ := hrel
    by_cases hlt : k < l.length
    · obtain ⟨x, hx⟩ : ∃ s, l[k]? = some s := ⟨_, List.getElem?_eq_getElem hlt⟩
      obtain ⟨_, _, _, c3, c4⟩ := cellsC_at hr1 hx
      have hx2 := HCL.out x (List.mem_of_getElem? hx)
      have e3 := (ST.out k x hx).2.2.1
      rw [e3] at c3
      have hcs : C.cells (l.take k) ≤ 2 * (l.take k).length := C.cells_le2 _ (fun c hc => HCL.out c (List.mem_of_mem_take hc))
      rw [List.length_take] at hcs
      have HT := Lib.hid (show C.cells (l.take (k + 1)) = C.cells (l.take k) + x.cells by rw [List.take_add_one, hx]; exact C.cells_snoc _ _)
      clear hx hr1 hA1 e3
      by_cases hle : (sg (k + 1) : Int) ≤ sign
      · go_wp2
        go_roundw
        case rel => exact ⟨k + 1, by trivial, by go_num, by rw [HT.out]; go_num, hlt, Lib.hid (fun j h => by
          by_cases e : j = k
          · subst e; exact hle
          · exact hkj.out j (by omega))⟩
        case measure => simp [intOf]; omega
      · have hu := UT.out k (by omega) hkj.out (fun _ => by omega)
        go_wp2
        refine bodyPost_ret (results_tmp2 rfl _ _ _) rfl ?_
        exact ⟨by rw [← HR2.out, hu]; rfl, hb1⟩
    · obtain rfl : k = l.length := by omega
      have hu := UT.out l.length (Nat.le_refl _) hkj.out (fun h => by omega)
      go_wp2
      refine bodyPost_ret (results_tmp2 rfl _ _ _) rfl ?_
      exact ⟨by rw [← HR2.out, hu]; rfl, hb1⟩

set_option maxRecDepth 1000000 in
set_option maxHeartbeats 4000000 in
theorem signR_any (s : ByteArray) (col : Int) (w : World) (hs : s.size ≤ 4194304) (hb : -9223372036854775808 ≤ col ∧ col ≤ 9223372036854775807) :
    Calls Try.prog 36 #[.string s, .int .i64 col] w fun e w' => e = .returned (.tuple #[.int .i64 ((C.sgnI (C.clus (U.toks s.data.toList)) (U.toks s.data.toList).length col).1 : Int), .int .i64 ((C.sgnI (C.clus (U.toks s.data.toList)) (U.toks s.data.toList).length col).2 : Int)]) ∧ Below w.heap.size w w' := by
  obtain ⟨R1, R2, hR⟩ : ∃ R1 R2, C.sgnI (C.clus (U.toks s.data.toList)) (U.toks s.data.toList).length col = (R1, R2) := ⟨_, _, rfl⟩
  rw [hR]
  unfold C.sgnI at hR
  have hll := toks_len (s := s)
  have hlen : (C.clus (U.toks s.data.toList)).length ≤ s.size := Nat.le_trans (C.clus_length_le _) hll
  have hcl := C.clus_cells_le (U.toks s.data.toList)
  have hca := C.cells_le2 _ hcl
  have ST := C.clus_steps (U.toks s.data.toList) (C.toks_14 _)
  have hse := C.sgF_end (U.toks s.data.toList)
  have CV := fun w => clustersR_any s w hs
  have OR := fun w => ofR_any s w hs
  obtain ⟨tl, htl⟩ : ∃ tl, (U.toks s.data.toList).length = tl := ⟨_, rfl⟩
  rw [htl] at hR hll ST hse
  obtain ⟨sg, hsg⟩ : ∃ sg, C.sgF (U.toks s.data.toList) = sg := ⟨_, rfl⟩
  rw [hsg] at ST hse
  obtain ⟨l, hl⟩ : ∃ l, C.clus (U.toks s.data.toList) = l := ⟨_, rfl⟩
  rw [hl] at hR hlen hcl hca ST hse CV OR
  have hsz : sg 0 = 0 := by rw [← hsg]; exact C.sgF_zero _
  have CV := Lib.hid CV
  have OR := Lib.hid OR
  have HR := Lib.hid hR
  have ST := Lib.hid ST
  have HCL := Lib.hid hcl
  have HSE := Lib.hid (And.intro hse hsz)
  clear hR hl hsg htl hcl hse hsz
  by_cases hneg : col < 0
  · have hr := HR.out
    rw [if_pos hneg] at hr
    obtain ⟨rfl, rfl⟩ := Prod.mk.inj hr
    go_enter Try.func36, Try.ntmps36
    go_wp2_with (go_at_call 22; ((with_reducible refine (CV.out _).mono ?_); rintro e w1 ⟨v1, rfl, hb1, hr1⟩; obtain ⟨A1, cp1, rfl, hA1⟩ := own_form hr1))
    refine bodyPost_ret (results_tmp2 rfl _ _ _) rfl ?_
    exact ⟨rfl, hb1⟩
  have hr := HR.out
  rw [if_neg hneg] at hr
  by_cases hbig : (C.cells l : Int) < col
  · rw [C.over_none l 0 col (by omega)] at hr
    simp only [] at hr
    rw [if_pos hbig] at hr
    obtain ⟨rfl, rfl⟩ := Prod.mk.inj hr
    go_enter Try.func36, Try.ntmps36
    go_wp2_with (first | (go_at_call 22; ((with_reducible refine (CV.out _).mono ?_); rintro e w1 ⟨v1, rfl, hb1, hr1⟩; obtain ⟨A1, cp1, rfl, hA1⟩ := own_form hr1)) | (go_at_call 26; ((with_reducible refine (OR.out _).mono ?_); rintro e w2 ⟨rfl, hb2⟩)))
    refine bodyPost_ret (results_tmp2 rfl _ _ _) rfl ?_
    exact ⟨rfl, bst hb1 hb2⟩
  by_cases h0 : l.length = 0
  · have htl0 : tl = 0 := by have := HSE.out.1; have := HSE.out.2; rw [h0] at *; omega
    subst htl0
    obtain rfl : l = [] := List.length_eq_zero_iff.1 h0
    simp only [C.over] at hr
    rw [if_neg hbig] at hr
    obtain ⟨rfl, rfl⟩ := Prod.mk.inj hr
    clear hr
    go_enter Try.func36, Try.ntmps36
    go_wp2_with (first | (go_at_call 22; ((with_reducible refine (CV.out _).mono ?_); rintro e w1 ⟨v1, rfl, hb1, hr1⟩; obtain ⟨A1, cp1, rfl, hA1⟩ := own_form hr1)) | (go_at_call 26; ((with_reducible refine (OR.out _).mono ?_); rintro e w2 ⟨rfl, hb2⟩)))
    refine wp_loop_rounds 1 ?_
    rw [rounds_succ]
    go_wp2
    refine bodyPost_ret (results_tmp2 rfl _ _ _) rfl ?_
    exact ⟨rfl, bst hb1 hb2⟩
  obtain ⟨z, hz⟩ : ∃ z, l[l.length - 1]? = some z := ⟨_, List.getElem?_eq_getElem (by omega)⟩
  have hz3 := (ST.out _ z hz).2.2.1
  rw [show l.length - 1 + 1 = l.length by omega, HSE.out.1] at hz3
  obtain ⟨j, hj⟩ : ∃ j, l.length - 1 = j := ⟨_, rfl⟩
  rw [hj] at hz
  have hij : (l.length : Int) - 1 = (j : Int) := by omega
  have hjl : j < l.length := by omega
  have HZ := Lib.hid hz
  have HR2 := Lib.hid hr
  clear hj hz hr HR
  go_enter Try.func36, Try.ntmps36
  go_wp2_with (first | (go_at_call 22; ((with_reducible refine (CV.out _).mono ?_); rintro e w1 ⟨v1, rfl, hb1, hr1⟩; obtain ⟨A1, cp1, rfl, hA1⟩ := own_form hr1)) | (go_at_call 26; ((with_reducible refine (OR.out _).mono ?_); rintro e w2 ⟨rfl, hb2⟩; (obtain ⟨g, rfl⟩ := hA1 (by omega)); (have q3 := (cellsC_at (own_below hr1 hb2) HZ.out).2.2.2.1); (rw [hz3] at q3))))
  go_loopw [7, 8] (fun n i wr => ∃ k : Nat, wr = w2 ∧ i = .int .i64 (k : Int) ∧ n = .int .i64 (C.cells (l.take k) : Int) ∧ k ≤ l.length ∧ Hid (C.over l 0 col = C.over (l.drop k) (C.cells (l.take k)) col)) (fun _ i _ => l.length - (intOf i).toNat)
  case atStart => exact ⟨0, rfl, rfl, rfl, Nat.zero_le _, Lib.hid rfl⟩
  case round =>
    obtain ⟨k, rfl, rfl, rfl, hk, hov⟩ := hrel
    by_cases hlt : k < l.length
    · obtain ⟨x, hx⟩ : ∃ s, l[k]? = some s := ⟨_, List.getElem?_eq_getElem hlt⟩
      obtain ⟨_, _, c2, _, c4⟩ := cellsC_at (own_below hr1 hb2) hx
      have hx2 := HCL.out x (List.mem_of_getElem? hx)
      have e2 := (ST.out k x hx).2.1
      have e6 := (ST.out k x hx).2.2.2.2.2.1
      have e3 := (ST.out k x hx).2.2.1
      have e7 := (ST.out k x hx).2.2.2.1
      have e8 := (ST.out k x hx).2.2.2.2.1
      have hxf : x.frm ≤ 4194304 := by omega
      have hcs : C.cells (l.take k) ≤ 2 * (l.take k).length := C.cells_le2 _ (fun c hc => HCL.out c (List.mem_of_mem_take hc))
      rw [List.length_take] at hcs
      have hct : C.cells (l.take (k + 1)) = C.cells (l.take k) + x.cells := by rw [List.take_add_one, hx]; exact C.cells_snoc _ _
      have hdr : l.drop k = x :: l.drop (k + 1) := by
        rw [List.drop_eq_getElem_cons hlt]
        congr 1
        exact Option.some.inj ((List.getElem?_eq_getElem hlt).symm.trans hx)
      have hov2 : C.over l 0 col = if col < ((C.cells (l.take k) + x.cells : Nat) : Int) then some x else C.over (l.drop (k + 1)) (C.cells (l.take k) + x.cells) col := by rw [hov.out, hdr]; rfl
      have HT := Lib.hid hct
      have HOV := Lib.hid hov2
      clear hx hr1 hA1 hct hdr hov2 hov e2 e6 e3 e7 e8
      obtain ⟨m, hm⟩ : ∃ m, C.cells (l.take k) = m := ⟨_, rfl⟩
      rw [hm] at HT HOV hcs ⊢
      by_cases hle : col < ((m + x.cells : Nat) : Int)
      · go_wp2
        refine bodyPost_ret (results_tmp2 rfl _ _ _) rfl ?_
        have e := HOV.out
        have hr := HR2.out
        rw [if_pos hle] at e
        rw [e] at hr
        obtain ⟨rfl, rfl⟩ := Prod.mk.inj hr
        exact ⟨rfl, bst hb1 hb2⟩
      · go_wp2
        go_roundw
        case rel => exact ⟨k + 1, by trivial, by go_num, by rw [HT.out]; go_num, hlt, Lib.hid (by
          have e := HOV.out
          rw [if_neg hle] at e
          rw [e, HT.out])⟩
        case measure => simp [intOf]; omega
    · obtain rfl : k = l.length := by omega
      have e := hov.out
      rw [List.drop_length] at e
      simp only [C.over] at e
      have hr := HR2.out
      rw [e] at hr
      simp only [] at hr
      rw [if_neg (by omega)] at hr
      obtain ⟨rfl, rfl⟩ := Prod.mk.inj hr
      clear e hov hr
      go_wp2
      refine bodyPost_ret (results_tmp2 rfl _ _ _) rfl ?_
      exact ⟨by trivial, bst hb1 hb2⟩

set_option maxRecDepth 1000000 in
set_option maxHeartbeats 4000000 in
theorem cellPlaces_law (s : ByteArray) (sign column : Int) (hs : s.size ≤ 1048576) (h1 : (Lit.int .i64 sign).wf = true) (h2 : (Lit.int .i64 column).wf = true) (w : World) : Calls Try.prog 15 #[.string s, .int .i64 sign, .int .i64 column] w fun e w' => e = .returned (.bool true) ∧ Below w.heap.size w w' := by
  have ihb1 : -9223372036854775808 ≤ sign ∧ sign ≤ 9223372036854775807 := by simpa [Lit.wf, IntKind.min, IntKind.max, IntKind.signed, IntKind.bits] using h1
  have ihb2 : -9223372036854775808 ≤ column ∧ column ≤ 9223372036854775807 := by simpa [Lit.wf, IntKind.min, IntKind.max, IntKind.signed, IntKind.bits] using h2
  have CC := fun w => column_any s sign w (by omega) ihb1
  have CR := fun w => columnR_any s sign w (by omega) ihb1
  have SC := fun w => sign_any_ s column w (by omega) ihb2
  have SR := fun w => signR_any s column w (by omega) ihb2
  obtain ⟨⟨a, b⟩, hp⟩ : ∃ p, C.colI (C.clus (U.toks s.data.toList)) (U.toks s.data.toList).length sign = p := ⟨_, rfl⟩
  obtain ⟨⟨c, d⟩, hq⟩ : ∃ p, C.sgnI (C.clus (U.toks s.data.toList)) (U.toks s.data.toList).length column = p := ⟨_, rfl⟩
  rw [hp] at CC CR
  rw [hq] at SC SR
  have CC := Lib.hid CC
  have CR := Lib.hid CR
  have SC := Lib.hid SC
  have SR := Lib.hid SR
  clear hp hq
  go_enter Try.func15, Try.ntmps15
  go_wp2_with (first
    | (go_at_call 19; refine (known_any _).mono ?_; rintro e w1 ⟨rfl, hb1⟩)
    | (go_at_call 33; ((with_reducible refine (CC.out _).mono ?_); rintro e w2 ⟨rfl, hb2⟩))
    | (go_at_call 34; ((with_reducible refine (CR.out _).mono ?_); rintro e w3 ⟨rfl, hb3⟩))
    | (go_at_call 35; ((with_reducible refine (SC.out _).mono ?_); rintro e w4 ⟨rfl, hb4⟩))
    | (go_at_call 36; ((with_reducible refine (SR.out _).mono ?_); rintro e w5 ⟨rfl, hb5⟩)))
  go_ret
  exact ⟨ret_bool (by simp), bst (bst (bst (bst hb1 hb2) hb3) hb4) hb5⟩
end Go.Proofs.Ytcngfcckajpkhaa
