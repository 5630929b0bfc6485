/- The law of the first signs of clusters. -/
import Derived.Test.YtcngfcckajpkhaaLawCellC
import Derived.Test.YtcngfcckajpkhaaCellZ
set_option linter.unusedVariables false
set_option linter.unusedSimpArgs false
namespace Go.Proofs.Ytcngfcckajpkhaa
open Go.RowKit Go.Shelf Go.Lib Go.BigFrame
attribute [local go_sem] Oper.semAt_some

set_option maxRecDepth 1000000 in
set_option maxHeartbeats 4000000 in
theorem cellFirst_law (s : ByteArray) (hs : s.size ≤ 1048576) (w : World) : Calls Try.prog 8 #[.string s] w fun e w' => e = .returned (.bool true) ∧ Below w.heap.size w w' := by
  obtain ⟨i1, hi1, ha0, ha1, ha2⟩ := info_parts Try.infoI32
  have hll := toks_len (s := s)
  have hlw := U.wsum_toks s.data.toList
  rw [← U.size_eq] at hlw
  have hcl := C.clus_length_le (U.toks s.data.toList)
  have AL := fun w => all_any s s.size w (by omega) (by omega) (by omega)
  have ST := C.clus_steps (U.toks s.data.toList) (C.toks_14 _)
  have FA := C.first_alone (U.toks s.data.toList)
  have RP := C.rest_plain (U.toks s.data.toList)
  have BC := C.before_ctl (U.toks s.data.toList)
  obtain ⟨t, ht⟩ : ∃ t, U.toks s.data.toList = t := ⟨_, rfl⟩
  rw [ht] at hll hlw hcl AL ST FA RP BC
  obtain ⟨sg, hsg⟩ : ∃ sg, C.sgF t = sg := ⟨_, rfl⟩
  obtain ⟨at_, hat⟩ : ∃ sg, C.atF t = sg := ⟨_, rfl⟩
  rw [hsg, hat] at ST
  obtain ⟨l, hl⟩ : ∃ l, C.clus t = l := ⟨_, rfl⟩
  rw [hl] at hcl AL ST FA RP BC
  have AL := Lib.hid AL
  have ST := Lib.hid ST
  have FA := Lib.hid FA
  have RP := Lib.hid RP
  have BC := Lib.hid BC
  have HT := Lib.hid ht
  have HW := Lib.hid hlw
  clear hl hat hsg ht hlw
  have hno : decide (s.size < l.length) = false := decide_eq_false (by omega)
  go_enter Try.func8, Try.ntmps8
  go_wp2_with (first
    | (go_at_call 19; refine (known_any _).mono ?_; rintro e w1 ⟨rfl, hb1⟩)
    | (go_at_call 23; ((with_reducible refine (AL.out _).mono ?_); rintro e w3 ⟨v3, rfl, hb3, hr3⟩; obtain ⟨A3, cp3, rfl, hA3⟩ := own_form hr3)))
  have hB3 : Below w.heap.size w w3 := bst hb1 hb3
  go_loopw [5] (fun v wr => ∃ k : Nat, k ≤ t.length ∧ C.pl t k ≤ s.size ∧ Hid (U.toks (s.data.toList.drop (C.pl t k)) = t.drop k) ∧ Below w3.heap.size w3 wr ∧ w3.heap.size + 1 ≤ wr.heap.size ∧ wr.heap[w3.heap.size]? = some (.stringIter s (C.pl t k)) ∧
    wr.ownsRow (w3.heap.size + 1) 21 1 v k (runesV (t.take k))) (fun _ wr => s.size - wr.iterPos w3.heap.size)
  case atStart =>
    exact ⟨0, Nat.zero_le _, by simp [C.pl, U.wsum], Lib.hid (by simp [C.pl, U.wsum, HT.out]), (Below.refl _ _).alloc (Nat.le_refl _) _, by simp [World.iter], World.iter_heap _ _ _, World.ownsRow_nil _ _ _ _⟩
  case round =>
    obtain ⟨k, hk, hps, hH, hB, hsz, hit, hrow1⟩ := hrel
    have hpos : wr.iterPos w3.heap.size = C.pl t k := by simp [World.iterPos, hit]
    by_cases hp : C.pl t k < s.size
    · have hd := decode_facts hp
      have hts := toks_at hp
      have hnx : ∀ ty, (Instr.next (.pointer (some ⟨w3.heap.size, 0, none⟩)) true ty).run Try.prog wr = _ := fun ty => run_next_any_at wr w3.heap.size s (C.pl t k) ty hit hp
      obtain ⟨c, wd, hdec⟩ : ∃ c wd, Utf8.decode s (C.pl t k) = (c, wd) := ⟨_, _, rfl⟩
      rw [hdec] at hd hts hnx
      simp only at hd hts hnx
      have hlt : k < t.length := by
        have := congrArg List.length (hH.out.symm.trans hts)
        rw [List.length_drop, List.length_cons] at this
        omega
      have hdk : t.drop k = (c, wd) :: U.toks (s.data.toList.drop (C.pl t k + wd)) := hH.out.symm.trans hts
      have hlk : t[k]? = some (c, wd) := by
        rw [List.drop_eq_getElem_cons hlt] at hdk
        rw [List.getElem?_eq_getElem hlt, (List.cons.inj hdk).1]
      have hpl : C.pl t (k + 1) = C.pl t k + wd := by rw [C.pl_succ t k hlt]; simp [C.lenAt, hlk]
      have hnt : U.toks (s.data.toList.drop (C.pl t (k + 1))) = t.drop (k + 1) := by
        rw [List.drop_eq_getElem_cons hlt] at hdk
        rw [hpl, (List.cons.inj hdk).2]
      have htk : t.take (k + 1) = t.take k ++ [(c, wd)] := by rw [List.take_add_one, hlk]; rfl
      have F1 : Fr (fun k => k ≠ w3.heap.size) wr (wr.iterAt w3.heap.size s (C.pl t k + wd)) := (Fr.refl _ _).iterAt _ _ _ (fun _ h => h rfl)
      have hit1 := iterAt_heap wr w3.heap.size s (C.pl t k) (C.pl t k + wd) hit
      have hrow1' := ownsRow_fr hrow1 F1 (fun k hk => by omega)
      have hB1 : Below w3.heap.size w3 (wr.iterAt w3.heap.size s (C.pl t k + wd)) := hB.trans (F1.toBelow (fun k hk => by omega) (by omega))
      have hsz1 : w3.heap.size + 1 ≤ (wr.iterAt w3.heap.size s (C.pl t k + wd)).heap.size := by rw [iterAt_size]; exact hsz
      generalize wr.iterAt w3.heap.size s (C.pl t k + wd) = A1 at hnx hit1 hrow1' hB1 hsz1 F1
      have HN := Lib.hid (And.intro hnt (And.intro htk hpl))
      have hd1 := hd.1
      have hd2 := hd.2.2.1
      have hl1 := hrow1'.lt
      clear hd hts hdec hH hdk hlk hnt htk hrow1 hB hit F1
      go_wp2_with (at_builtin; go_must (refine wpList_append_own _ rfl _ _ 38 rfl (w3.heap.size + 1) 21 i1 _ 1 4 Try.underlying38 hi1 ha0 ha1 ha2 rfl (by decide) _ _ _ rfl (hrow1'.alloc _) ⟨A1.heap.size, 0, none⟩ 1 1 [.int .i32 (c : Int)] rfl rfl (World.news_of_block (World.alloc_heap_new A1 _)) (by simp [Value.oneCell']) (by unfold maxLen; omega) (by omega) (by simp; omega) ?_; intro v1' w2 hown1 hg1 _))
      have hz2 := hg1.size
      simp only [World.size_alloc] at hz2
      have hit3 : w2.heap[w3.heap.size]? = some (.stringIter s (C.pl t (k + 1))) := by
        rw [HN.out.2.2]
        exact (hg1.block _ (by simp; omega) (fun e => by have := (hl1 _ e.symm).1; omega)).trans ((Below.heap_alloc _ _ _ (by omega)).trans hit1)
      go_roundw
      case rel =>
        obtain ⟨hnt, htk, hpl⟩ := HN.out
        refine ⟨k + 1, hlt, by omega, Lib.hid hnt, (hB1.alloc (by omega) _).grown hg1 (by simp; omega) (fun q e => by have := (hl1 q e).1; omega), by omega, hit3, ?_⟩
        rw [htk, runesV_snoc]
        exact hown1
      case measure =>
        rw [iterPos_of hit3, hpos, HN.out.2.2]
        omega
    · have hnx : ∀ ty, (Instr.next (.pointer (some ⟨w3.heap.size, 0, none⟩)) true ty).run Try.prog wr = _ := fun ty => run_next_end_at wr w3.heap.size s (C.pl t k) ty hit hp
      have hkl : k = t.length := by
        have := hH.out
        rw [toks_end hp] at this
        have := congrArg List.length this
        rw [List.length_drop] at this
        simp at this
        omega
      subst hkl
      rw [List.take_length] at hrow1
      obtain ⟨A5, cp5, rfl, hA5⟩ := own_form hrow1
      clear hH hit hpos
      have hBw : Below w.heap.size w wr := bst hB3 hB
      have RN := Lib.hid (fun W' (hb : Below wr.heap.size wr W') => And.intro (own_below (own_below hr3 hB) hb) (And.intro (own_below hrow1 hb) (bst hBw hb)))
      go_wp2
      go_loopw [8] (fun i wr' => ∃ k : Nat, i = .int .i64 (k : Int) ∧ k ≤ l.length ∧ Below wr.heap.size wr wr') (fun i _ => l.length - (intOf i).toNat)
      case atStart => exact ⟨0, rfl, Nat.zero_le _, Below.refl _ _⟩
      case round =>
        obtain ⟨k, rfl, hk, hB2⟩ := hrel
        by_cases hlt : k < l.length
        · obtain ⟨hr3', hr5', hBx⟩ := RN.out _ hB2
          obtain ⟨g3, rfl⟩ := hA3 (by omega)
          obtain ⟨x, hx⟩ : ∃ s, l[k]? = some s := ⟨_, List.getElem?_eq_getElem hlt⟩
          obtain ⟨a0, a1, a2, a3, a4⟩ := cellsC_at hr3' hx
          obtain ⟨e1, e2, e3, e4, e5, e6, e7, e8, e9, e10⟩ := ST.out k x hx
          have fa := FA.out k x hx
          have rp := RP.out k x hx
          have bc := BC.out k x hx
          rw [e2] at fa rp bc a2
          rw [e3] at fa rp a3
          obtain ⟨g5, rfl⟩ := hA5 (by omega)
          have R5 : ∀ (o : Obj) (j : Nat), j < t.length → (wr.alloc o).cell? ⟨g5, j, none⟩ = some (.int .i32 (C.rune t j : Int)) := fun o j hj => row_cell (own_below hr5' ((Below.refl _ _).alloc (Nat.le_refl _) o)) j _ (by simp [runesV, C.rune, List.getElem?_eq_getElem hj])
          obtain ⟨q, hq⟩ : ∃ p, sg k = p := ⟨_, rfl⟩
          obtain ⟨q', hq'⟩ : ∃ p, sg (k + 1) = p := ⟨_, rfl⟩
          rw [hq] at fa rp bc a2 e5
          rw [hq'] at fa rp a3 e5 e6
          have RP2 := Lib.hid rp
          have c1 := fun o => R5 o q (by omega)
          have R5 := Lib.hid R5
          clear hx hr3 hr3' hr5' e1 e2 e3 e4 e8 e9 e10 hq hq' rp hrow1 hA3 hA5
          obtain ⟨f, hf⟩ : ∃ f, C.rune t q = f := ⟨_, rfl⟩
          rw [hf] at fa bc c1
          have CF_ := fun w => controlL_any (f : Int) w
          have WF_ := fun w => width_any (f : Int) w
          have cw : C.ctl (f : Int) = true → C.wid (f : Int) = 0 := C.ctl_wid
          obtain ⟨cf, hcf⟩ : ∃ x, C.ctl (f : Int) = x := ⟨_, rfl⟩
          obtain ⟨wf, hwf⟩ : ∃ x, C.wid (f : Int) = x := ⟨_, rfl⟩
          rw [hcf] at fa bc CF_ cw
          rw [hwf] at bc WF_ cw
          have CF := Lib.hid CF_
          have WF := Lib.hid WF_
          have BC2 := Lib.hid bc
          clear CF_ WF_ hf hcf hwf bc
          have HB2 := Lib.hid hB2
          cases cf
          · clear fa cw
            by_cases hw0 : wf = 0
            · subst hw0
              by_cases hq0 : 0 < q
              · have cp := BC2.out hq0 rfl rfl
                have c2 := fun o => R5.out o (q - 1) (by omega)
                obtain ⟨p, hp⟩ : ∃ p, C.rune t (q - 1) = p := ⟨_, rfl⟩
                rw [hp] at cp c2
                have CP_ := fun w => controlL_any (p : Int) w
                rw [cp] at CP_
                have CP := Lib.hid CP_
                clear CP_ cp hp
                obtain ⟨r, rfl⟩ : ∃ r, q = r + 1 := ⟨q - 1, by omega⟩
                rw [Nat.add_sub_cancel] at c2
                go_wp2_with (first | (go_at_call 27; ((with_reducible refine (CF.out _).mono ?_); rintro e w' ⟨rfl, rfl⟩)) | (go_at_call 20; ((with_reducible refine (WF.out _).mono ?_); rintro e w' ⟨rfl, rfl⟩)) | (go_at_call 27; ((with_reducible refine (CP.out _).mono ?_); rintro e w' ⟨rfl, rfl⟩)))
                go_loopw [11] (fun j wq => ∃ (m : Nat) (o : Obj), j = .int .i64 (m : Int) ∧ (r + 1) + 1 ≤ m ∧ m ≤ q' ∧ wq = wr.alloc o ∧ (wr.alloc o).cell? ⟨wr.heap.size, 3, none⟩ = some (.int .i64 (q' : Int))) (fun j _ => q' - (intOf j).toNat)
                case atStart => exact ⟨(r + 1) + 1, _, by go_num, Nat.le_refl _, by omega, rfl, (At.new wr _ _).cell 3 _ rfl⟩
                case round =>
                  obtain ⟨m, o, rfl, hm1, hm2, rfl, hc3⟩ := hrel
                  by_cases hmt : m < q'
                  · have hcm := RP2.out m (by omega) hmt
                    have c9 := R5.out o m (by omega)
                    obtain ⟨u, hu⟩ : ∃ u, C.rune t m = u := ⟨_, rfl⟩
                    rw [hu] at hcm c9
                    have CM_ := fun w => controlL_any (u : Int) w
                    rw [hcm] at CM_
                    have CM := Lib.hid CM_
                    clear CM_ hcm hu
                    go_wp2_with (go_at_call 27; ((with_reducible refine (CM.out _).mono ?_); rintro e w' ⟨rfl, rfl⟩))
                    go_roundw
                    case rel => exact ⟨m + 1, o, by go_num, by omega, hmt, by trivial, hc3⟩
                    case measure => simp [intOf]; omega
                  · obtain rfl : m = q' := by omega
                    go_wp2
                    go_roundw
                    case rel => exact ⟨k + 1, by go_num, hlt, HB2.out.alloc HB2.out.size _⟩
                    case measure => simp [intOf]; omega
              · obtain rfl : q = 0 := by omega
                go_wp2_with (first | (go_at_call 27; ((with_reducible refine (CF.out _).mono ?_); rintro e w' ⟨rfl, rfl⟩)) | (go_at_call 20; ((with_reducible refine (WF.out _).mono ?_); rintro e w' ⟨rfl, rfl⟩)))
                go_loopw [11] (fun j wq => ∃ (m : Nat) (o : Obj), j = .int .i64 (m : Int) ∧ 0 + 1 ≤ m ∧ m ≤ q' ∧ wq = wr.alloc o ∧ (wr.alloc o).cell? ⟨wr.heap.size, 3, none⟩ = some (.int .i64 (q' : Int))) (fun j _ => q' - (intOf j).toNat)
                case atStart => exact ⟨0 + 1, _, by go_num, Nat.le_refl _, by omega, rfl, (At.new wr _ _).cell 3 _ rfl⟩
                case round =>
                  obtain ⟨m, o, rfl, hm1, hm2, rfl, hc3⟩ := hrel
                  by_cases hmt : m < q'
                  · have hcm := RP2.out m (by omega) hmt
                    have c9 := R5.out o m (by omega)
                    obtain ⟨u, hu⟩ : ∃ u, C.rune t m = u := ⟨_, rfl⟩
                    rw [hu] at hcm c9
                    have CM_ := fun w => controlL_any (u : Int) w
                    rw [hcm] at CM_
                    have CM := Lib.hid CM_
                    clear CM_ hcm hu
                    go_wp2_with (go_at_call 27; ((with_reducible refine (CM.out _).mono ?_); rintro e w' ⟨rfl, rfl⟩))
                    go_roundw
                    case rel => exact ⟨m + 1, o, by go_num, by omega, hmt, by trivial, hc3⟩
                    case measure => simp [intOf]; omega
                  · obtain rfl : m = q' := by omega
                    go_wp2
                    go_roundw
                    case rel => exact ⟨k + 1, by go_num, hlt, HB2.out.alloc HB2.out.size _⟩
                    case measure => simp [intOf]; omega
            · have hw1 : ((wf : Int) == 0) = false := by simp; omega
              go_wp2_with (first | (go_at_call 27; ((with_reducible refine (CF.out _).mono ?_); rintro e w' ⟨rfl, rfl⟩)) | (go_at_call 20; ((with_reducible refine (WF.out _).mono ?_); rintro e w' ⟨rfl, rfl⟩)))
              go_loopw [11] (fun j wq => ∃ (m : Nat) (o : Obj), j = .int .i64 (m : Int) ∧ q + 1 ≤ m ∧ m ≤ q' ∧ wq = wr.alloc o ∧ (wr.alloc o).cell? ⟨wr.heap.size, 3, none⟩ = some (.int .i64 (q' : Int))) (fun j _ => q' - (intOf j).toNat)
              case atStart => exact ⟨q + 1, _, by go_num, Nat.le_refl _, by omega, rfl, (At.new wr _ _).cell 3 _ rfl⟩
              case round =>
                obtain ⟨m, o, rfl, hm1, hm2, rfl, hc3⟩ := hrel
                by_cases hmt : m < q'
                · have hcm := RP2.out m (by omega) hmt
                  have c9 := R5.out o m (by omega)
                  obtain ⟨u, hu⟩ : ∃ u, C.rune t m = u := ⟨_, rfl⟩
                  rw [hu] at hcm c9
                  have CM_ := fun w => controlL_any (u : Int) w
                  rw [hcm] at CM_
                  have CM := Lib.hid CM_
                  clear CM_ hcm hu
                  go_wp2_with (go_at_call 27; ((with_reducible refine (CM.out _).mono ?_); rintro e w' ⟨rfl, rfl⟩))
                  go_roundw
                  case rel => exact ⟨m + 1, o, by go_num, by omega, hmt, by trivial, hc3⟩
                  case measure => simp [intOf]; omega
                · obtain rfl : m = q' := by omega
                  go_wp2
                  go_roundw
                  case rel => exact ⟨k + 1, by go_num, hlt, HB2.out.alloc HB2.out.size _⟩
                  case measure => simp [intOf]; omega
          · obtain rfl : q' = q + 1 := fa rfl
            obtain rfl : wf = 0 := cw rfl
            clear fa cw
            go_wp2_with (first | (go_at_call 27; ((with_reducible refine (CF.out _).mono ?_); rintro e w' ⟨rfl, rfl⟩)) | (go_at_call 20; ((with_reducible refine (WF.out _).mono ?_); rintro e w' ⟨rfl, rfl⟩)))
            go_loopw [11] (fun j wq => ∃ (m : Nat) (o : Obj), j = .int .i64 (m : Int) ∧ q + 1 ≤ m ∧ m ≤ q + 1 ∧ wq = wr.alloc o ∧ (wr.alloc o).cell? ⟨wr.heap.size, 3, none⟩ = some (.int .i64 ((q + 1 : Nat) : Int))) (fun j _ => q + 1 - (intOf j).toNat)
            case atStart => exact ⟨q + 1, _, by go_num, Nat.le_refl _, by omega, rfl, (At.new wr _ _).cell 3 _ rfl⟩
            case round =>
              obtain ⟨m, o, rfl, hm1, hm2, rfl, hc3⟩ := hrel
              by_cases hmt : m < q + 1
              · exact absurd hmt (by omega)
              · obtain rfl : m = q + 1 := by omega
                go_wp2
                go_roundw
                case rel => exact ⟨k + 1, by go_num, hlt, HB2.out.alloc HB2.out.size _⟩
                case measure => simp [intOf]; omega
        · obtain rfl : k = l.length := by omega
          have hBx := (RN.out _ hB2).2.2
          go_wp2
          go_ret
          exact ⟨rfl, hBx⟩
end Go.Proofs.Ytcngfcckajpkhaa
