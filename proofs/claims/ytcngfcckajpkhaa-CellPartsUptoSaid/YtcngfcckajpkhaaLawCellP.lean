/- The law of the parts: a front that ends at a cluster's end, and the rest. -/
import Derived.Test.YtcngfcckajpkhaaLawCellC
import Derived.Test.YtcngfcckajpkhaaCellX
import Derived.Test.YtcngfcckajpkhaaCellI
set_option linter.unusedVariables false
set_option linter.unusedSimpArgs false
namespace Go.Proofs.Ytcngfcckajpkhaa
open Go.RowKit Go.Shelf Go.Lib Go.BigFrame
attribute [local go_sem] Oper.semAt_some

theorem ext_list (s : ByteArray) (a b : Nat) : (s.extract a b).data.toList = (s.data.toList.take b).drop a := by
  rw [Lib.extract_data, List.drop_take]

set_option maxRecDepth 1000000 in
set_option maxHeartbeats 8000000 in
theorem cellParts_law (s : ByteArray) (n : Int) (hs : s.size ≤ 1048576) (xn : (Lit.int .i64 n).wf = true) (w : World) : Calls Try.prog 9 #[.string s, .int .i64 n] w fun e w' => e = .returned (.bool true) ∧ Below w.heap.size w w' := by
  have hll := toks_len (s := s)
  have hlw := U.wsum_toks s.data.toList
  rw [← U.size_eq] at hlw
  have hcl := C.clus_length_le (U.toks s.data.toList)
  have hc2 := C.clus_cells_le (U.toks s.data.toList)
  obtain ⟨k, hkl, WI⟩ := within_nat n ((C.clus (U.toks s.data.toList)).length + 1) w (by omega) (by omega)
  have hk : k ≤ (C.clus (U.toks s.data.toList)).length := by omega
  obtain ⟨cp1, cp2⟩ := C.clus_parts s.data.toList k hk
  have ST := C.clus_steps (U.toks s.data.toList) (C.toks_14 _)
  have hae := C.atF_end (U.toks s.data.toList)
  have hale : C.atF (U.toks s.data.toList) k ≤ s.size := by have := C.pl_le (U.toks s.data.toList) (C.sgF (U.toks s.data.toList) k); rw [hlw] at this; exact this
  have hsgle : C.sgF (U.toks s.data.toList) k ≤ s.size := by
    by_cases h : k < (C.clus (U.toks s.data.toList)).length
    · have := ST k _ (List.getElem?_eq_getElem h); omega
    · have e : k = (C.clus (U.toks s.data.toList)).length := by omega
      rw [e, C.sgF_end]; exact hll
  rw [hlw] at ST hae
  have sA : (s.extract 0 (C.atF (U.toks s.data.toList) k)).data.toList = s.data.toList.take (C.atF (U.toks s.data.toList) k) := by rw [ext_list, List.drop_zero]
  have sB : (s.extract (C.atF (U.toks s.data.toList) k) s.size).data.toList = s.data.toList.drop (C.atF (U.toks s.data.toList) k) := by rw [ext_list, List.take_of_length_le (i := s.size) (by rw [U.size_eq]; exact Nat.le_refl _)]
  rw [← sA] at cp1
  rw [← sB] at cp2
  have zA : (s.extract 0 (C.atF (U.toks s.data.toList) k)).size ≤ s.size := by rw [U.size_eq, sA, List.length_take, ← U.size_eq]; omega
  have zB : (s.extract (C.atF (U.toks s.data.toList) k) s.size).size ≤ s.size := by rw [U.size_eq, sB, List.length_drop, ← U.size_eq]; omega
  have nA : (C.clus (U.toks (s.extract 0 (C.atF (U.toks s.data.toList) k)).data.toList)).length ≤ s.size := Nat.le_trans (C.clus_length_le _) (Nat.le_trans toks_len zA)
  have nB : (C.clus (U.toks (s.extract (C.atF (U.toks s.data.toList) k) s.size).data.toList)).length ≤ s.size := Nat.le_trans (C.clus_length_le _) (Nat.le_trans toks_len zB)
  have AL := fun w => all_any s s.size w (by omega) (by omega) (by omega)
  have AA := fun w => all_any (s.extract 0 (C.atF (U.toks s.data.toList) k)) s.size w (by omega) nA (by omega)
  have AB := fun w => all_any (s.extract (C.atF (U.toks s.data.toList) k) s.size) s.size w (by omega) nB (by omega)
  have OF := fun w => of_any s w (by omega)
  have OA := fun w => of_any (s.extract 0 (C.atF (U.toks s.data.toList) k)) w (by omega)
  have OB := fun w => of_any (s.extract (C.atF (U.toks s.data.toList) k) s.size) w (by omega)
  rw [cp1] at AA OA
  obtain ⟨lb, hlb⟩ : ∃ lb, C.clus (U.toks (s.extract (C.atF (U.toks s.data.toList) k) s.size).data.toList) = lb := ⟨_, rfl⟩
  rw [hlb] at cp2 AB OB nB
  have hnb : lb.length = (C.clus (U.toks s.data.toList)).length - k := by have := congrArg List.length cp2; rw [List.length_map, List.length_drop] at this; exact this
  have hcb : C.cells (C.clus (U.toks s.data.toList)) = C.cells ((C.clus (U.toks s.data.toList)).take k) + C.cells lb := by
    rw [← C.cells_sh (C.atF (U.toks s.data.toList) k) (C.sgF (U.toks s.data.toList) k) lb, cp2, ← C.cells_append, List.take_append_drop]
  clear hlb cp1 sA sB zA zB nA
  obtain ⟨sg, hsg⟩ : ∃ sg, C.sgF (U.toks s.data.toList) = sg := ⟨_, rfl⟩
  obtain ⟨at_, hat⟩ : ∃ sg, C.atF (U.toks s.data.toList) = sg := ⟨_, rfl⟩
  rw [hsg, hat] at ST
  rw [hat] at hae hale AA AB OA OB cp2
  rw [hsg] at cp2 hsgle
  obtain ⟨l, hl⟩ : ∃ l, C.clus (U.toks s.data.toList) = l := ⟨_, rfl⟩
  rw [hl] at hcl hc2 hkl WI hk cp2 ST hae AL AA OF OA hnb hcb
  have hcs : C.cells l ≤ 2 * l.length := C.cells_le2 l hc2
  have htl : (l.take k).length = k := by rw [List.length_take]; omega
  rw [htl] at AA
  have hcb0 : lb.length = 0 → C.cells lb = 0 := fun h => by rw [List.length_eq_zero_iff.1 h]; rfl
  obtain ⟨nb, hnb'⟩ : ∃ nb, lb.length = nb := ⟨_, rfl⟩
  rw [hnb'] at hnb AB nB hcb0
  obtain ⟨ca, hca⟩ : ∃ c, C.cells (l.take k) = c := ⟨_, rfl⟩
  obtain ⟨cb, hcb'⟩ : ∃ c, C.cells lb = c := ⟨_, rfl⟩
  obtain ⟨cc, hcc⟩ : ∃ c, C.cells l = c := ⟨_, rfl⟩
  rw [hca] at hcb OA
  rw [hcb'] at hcb OB hcb0
  rw [hcc] at hcb OF hcs
  have LB : ∀ i, k ≤ i → i < l.length → ∃ y, lb[i - k]? = some y ∧ l[i]? = some (C.sh (at_ k) (sg k) y) := fun i h1 h2 => by
    obtain ⟨y, hy⟩ : ∃ y, lb[i - k]? = some y := ⟨_, List.getElem?_eq_getElem (by omega)⟩
    refine ⟨y, hy, ?_⟩
    have := congrArg (fun x => x[i - k]?) cp2
    simp only [List.getElem?_map, hy, List.getElem?_drop] at this
    rw [show k + (i - k) = i by omega] at this
    exact this.symm
  obtain ⟨a, ha⟩ : ∃ a, at_ k = a := ⟨_, rfl⟩
  obtain ⟨q, hq⟩ : ∃ q, sg k = q := ⟨_, rfl⟩
  rw [ha] at hale AA AB OA OB LB
  rw [hq] at LB hsgle
  have AL := Lib.hid AL
  have AA := Lib.hid AA
  have AB := Lib.hid AB
  have OF := Lib.hid OF
  have OA := Lib.hid OA
  have OB := Lib.hid OB
  rw [show ((l.length + 1 : Nat) : Int) = (l.length : Int) + 1 from rfl] at WI
  have WI := Lib.hid WI
  have LB := Lib.hid LB
  have ST := Lib.hid ST
  have HA := Lib.hid (And.intro ha (And.intro hq hae))
  clear hl hat hsg ha hq hca hcb' hcc hlw hc2 cp2 hae hnb' htl
  have hno : decide (s.size < l.length) = false := decide_eq_false (by omega)
  have HCB := Lib.hid hcb0
  clear hcb0
  have hsum : (k : Int) + (nb : Int) = (l.length : Int) := by omega
  have hw1 : IntKind.i64.wrap ((k : Int) + (nb : Int)) = (l.length : Int) := by rw [hsum]; exact IntWalk.i64_in _ (by omega)
  have hw2 : IntKind.i64.wrap ((ca : Int) + (cb : Int)) = (cc : Int) := by rw [show (ca : Int) + (cb : Int) = (cc : Int) by omega]; exact IntWalk.i64_in _ (by omega)
  have hnb1 : k + nb ≤ l.length := by omega
  have hnb2 : l.length ≤ k + nb := by omega
  have hc1 : ca + cb ≤ cc := by omega
  have hc2 : cc ≤ ca + cb := by omega
  clear hsum hnb hcb
  by_cases hk' : k < l.length
  · go_enter Try.func9, Try.ntmps9
    go_wp2_with (first
      | (go_at_call 19; refine (known_any _).mono ?_; rintro e w1 ⟨rfl, hb1⟩)
      | (go_at_call 23; ((with_reducible refine (AL.out _).mono ?_); rintro e w3 ⟨v3, rfl, hb3, hr3⟩; obtain ⟨A3, cp3, rfl, hA3⟩ := own_form hr3; (obtain ⟨g3, rfl⟩ := hA3 (by omega)); (obtain ⟨x, hx⟩ : ∃ s, l[k]? = some s := ⟨_, List.getElem?_eq_getElem hk'⟩); (obtain ⟨a0, _, a2, _, _⟩ := cellsC_at hr3 hx); (obtain ⟨e1, e2, _, _, _, _, _, _, _, _⟩ := ST.out k x hx); (rw [e1, HA.out.1] at a0); (rw [e2, HA.out.2.1] at a2); clear e1 e2 hx))
      | (go_at_call 28; ((with_reducible refine (WI.out _).mono ?_); rintro e w4 ⟨rfl, rfl⟩))
      | (go_at_call 23; ((with_reducible refine (AA.out _).mono ?_); rintro e w5 ⟨v5, rfl, hb5, hr5⟩; obtain ⟨A5, cp5, rfl, hA5⟩ := own_form hr5))
      | (go_at_call 23; ((with_reducible refine (AB.out _).mono ?_); rintro e w6 ⟨v6, rfl, hb6, hr6⟩; obtain ⟨A6, cp6, rfl, hA6⟩ := own_form hr6)))
    have hB6 : Below w.heap.size w w6 := bst (bst (bst hb1 hb3) hb5) hb6
    have hr3' := own_below (own_below hr3 hb5) hb6
    have hr5' := own_below hr5 hb6
    go_region_held3 (fun _ => True) (trivial) (first
      | (go_at_call 25; ((with_reducible refine (OA.out _).mono ?_); rintro e wa ⟨rfl, hwa⟩))
      | (go_at_call 25; ((with_reducible refine (OB.out _).mono ?_); rintro e wb ⟨rfl, hwb⟩))
      | (go_at_call 25; ((with_reducible refine (OF.out _).mono ?_); rintro e wc ⟨rfl, hwc⟩)))
    have hBc : Below w6.heap.size w6 wc := bst (bst (bst (Below.refl _ _).drew hwa) hwb) hwc
    have hBw := bst hB6 hBc
    clear hwa hwb hwc
    go_wp2
    go_loopw [14] (fun i wr => ∃ m : Nat, i = .int .i64 (m : Int) ∧ m ≤ l.length ∧ Below w.heap.size w wr ∧ Below w6.heap.size w6 wr) (fun i _ => l.length - (intOf i).toNat)
    case atStart => exact ⟨0, rfl, Nat.zero_le _, hBw, hBc⟩
    case round =>
      obtain ⟨m, rfl, hm, hB, hB'⟩ := hrel
      by_cases hml : m < l.length
      · have i1 : (0 : Int) ≤ (m : Int) := by omega
        have i2 : (m : Int) < (l.length : Int) := by omega
        by_cases hmk : m < k
        · obtain ⟨g5, rfl⟩ := hA5 (by omega)
          obtain ⟨x, hx⟩ : ∃ s, l[m]? = some s := ⟨_, List.getElem?_eq_getElem hml⟩
          obtain ⟨b0, b1, b2, b3, b4⟩ := cellsC_at (own_below hr3' hB') hx
          obtain ⟨c0, c1, c2, c3, c4⟩ := cellsC_at (own_below hr5' hB') (show (l.take k)[m]? = some x by rw [List.getElem?_take, if_pos hmk]; exact hx)
          have he := fun w => eq_cellsC x x w
          rw [decide_eq_true rfl] at he
          unfold encC at he
          have i3 : (m : Int) < (k : Int) := by omega
          clear hx hr3 hr3' hr5 hr5' hr6
          go_wp2
          go_quiet (fail)
          go_wp2
          go_roundw
          case rel => exact ⟨m + 1, by go_num, hml, below_dn hB _, below_dn hB' _⟩
          case measure => simp [intOf]; omega
        · obtain ⟨y, hy, hx⟩ := LB.out m (by omega) hml
          obtain ⟨e1, e2, e3, e4, e5, e6, _, _, _, e10⟩ := ST.out m _ hx
          obtain ⟨j, hj⟩ : ∃ j, m - k = j := ⟨_, rfl⟩
          rw [hj] at hy
          have hjn : j < nb := by omega
          have hij : (m : Int) - (k : Int) = (j : Int) := by omega
          obtain ⟨g6, rfl⟩ := hA6 (by omega)
          have Q := fun o : Obj => cellsC_at (own_below hr3' (hB'.alloc hB'.size o)) hx
          obtain ⟨c0, c1, c2, c3, c4⟩ := cellsC_at (own_below hr6 hB') hy
          have d0 : ∀ o, (wr.alloc o).cell? ⟨g3, m * 5, none⟩ = some (.int .i64 ((y.at_ : Int) + (a : Int))) := fun o => (Q o).1
          have d1 : ∀ o, (wr.alloc o).cell? ⟨g3, m * 5 + 1, none⟩ = some (.int .i64 (y.len : Int)) := fun o => (Q o).2.1
          have d2 : ∀ o, (wr.alloc o).cell? ⟨g3, m * 5 + 2, none⟩ = some (.int .i64 ((y.frm : Int) + (q : Int))) := fun o => (Q o).2.2.1
          have d3 : ∀ o, (wr.alloc o).cell? ⟨g3, m * 5 + 3, none⟩ = some (.int .i64 ((y.to_ : Int) + (q : Int))) := fun o => (Q o).2.2.2.1
          have d4 : ∀ o, (wr.alloc o).cell? ⟨g3, m * 5 + 4, none⟩ = some (.int .i64 (y.cells : Int)) := fun o => (Q o).2.2.2.2
          have he : ∀ w, (Op.equalIn 10000 33 (.agg #[.int .i64 ((y.at_ : Int) + (a : Int)), .int .i64 (y.len : Int), .int .i64 ((y.frm : Int) + (q : Int)), .int .i64 ((y.to_ : Int) + (q : Int)), .int .i64 (y.cells : Int)]) (.agg #[.int .i64 ((y.at_ : Int) + (a : Int)), .int .i64 (y.len : Int), .int .i64 ((y.frm : Int) + (q : Int)), .int .i64 ((y.to_ : Int) + (q : Int)), .int .i64 (y.cells : Int)])).run Try.prog w = .ok true w := fun w => by
            have := eq_cellsC (C.sh a q y) (C.sh a q y) w
            rw [decide_eq_true rfl] at this
            exact this
          simp only [C.sh] at e1 e2 e3 e4
          have y1 : y.at_ + a ≤ 1048576 := by omega
          have y2 : y.to_ + q ≤ 1048576 := by omega
          have y3 : y.frm + q ≤ 1048576 := by omega
          have i3 : (j : Int) < (nb : Int) := by omega
          have hmk' : ¬ (m : Int) < (k : Int) := by omega
          clear hx hy Q hr3 hr3' hr5 hr5' hr6 e1 e2 e3 e4 e5 e6 e10 hj
          go_wp2
          go_quiet (fail)
          go_wp2
          go_roundw
          case rel => exact ⟨m + 1, by go_num, hml, below_dn (hB.alloc hB.size _) _, below_dn (hB'.alloc hB'.size _) _⟩
          case measure => simp [intOf]; omega
      · obtain rfl : m = l.length := by omega
        go_wp2
        go_ret
        exact ⟨rfl, hB⟩
  · have hx1 : IntKind.i64.wrap (l.length : Int) = (l.length : Int) := IntWalk.i64_in _ (by omega)
    have hx2 : IntKind.i64.wrap (ca : Int) = (ca : Int) := IntWalk.i64_in _ (by omega)
    clear hw1 hw2
    obtain rfl : k = l.length := by omega
    obtain rfl : nb = 0 := by omega
    obtain rfl : cb = 0 := HCB.out rfl
    obtain rfl : cc = ca := by omega
    obtain rfl : a = s.size := by have := HA.out.1; have := HA.out.2.2; omega
    have hex0 : s.extract 0 s.size = s := by simp
    have hex1 : s.extract s.size s.size = ByteArray.empty := by simp
    have AA2 := AA.out
    have AB2 := AB.out
    have OA2 := OA.out
    have OB2 := OB.out
    rw [hex0] at AA2 OA2
    rw [hex1] at AB2 OB2
    rw [List.take_length] at AA2
    have AA2 := Lib.hid AA2
    have AB2 := Lib.hid AB2
    have OA2 := Lib.hid OA2
    have OB2 := Lib.hid OB2
    clear hex0 hex1
    go_enter Try.func9, Try.ntmps9
    go_wp2_with (first
      | (go_at_call 19; refine (known_any _).mono ?_; rintro e w1 ⟨rfl, hb1⟩)
      | (go_at_call 23; (have _ := hb3); ((with_reducible refine (AA2.out _).mono ?_); rintro e w5 ⟨v5, rfl, hb5, hr5⟩; obtain ⟨A5, cp5, rfl, hA5⟩ := own_form hr5))
      | (go_at_call 23; ((with_reducible refine (AL.out _).mono ?_); rintro e w3 ⟨v3, rfl, hb3, hr3⟩; obtain ⟨A3, cp3, rfl, hA3⟩ := own_form hr3))
      | (go_at_call 28; ((with_reducible refine (WI.out _).mono ?_); rintro e w4 ⟨rfl, rfl⟩))
      | (go_at_call 23; ((with_reducible refine (AB2.out _).mono ?_); rintro e w6 ⟨v6, rfl, hb6, hr6⟩; obtain ⟨A6, cp6, rfl, hA6⟩ := own_form hr6)))
    have hB6 : Below w.heap.size w w6 := bst (bst (bst hb1 hb3) hb5) hb6
    have hr3' := own_below (own_below hr3 hb5) hb6
    have hr5' := own_below hr5 hb6
    go_region_held3 (fun _ => True) (trivial) (first
      | (go_at_call 25; (have _ := hwb); ((with_reducible refine (OA2.out _).mono ?_); rintro e wc ⟨rfl, hwc⟩))
      | (go_at_call 25; ((with_reducible refine (OA2.out _).mono ?_); rintro e wa ⟨rfl, hwa⟩))
      | (go_at_call 25; ((with_reducible refine (OB2.out _).mono ?_); rintro e wb ⟨rfl, hwb⟩)))
    have hBc : Below w6.heap.size w6 wc := bst (bst (bst (Below.refl _ _).drew hwa) hwb) hwc
    have hBw := bst hB6 hBc
    clear hwa hwb hwc
    go_wp2
    go_loopw [14] (fun i wr => ∃ m : Nat, i = .int .i64 (m : Int) ∧ m ≤ l.length ∧ Below w.heap.size w wr ∧ Below w6.heap.size w6 wr) (fun i _ => l.length - (intOf i).toNat)
    case atStart => exact ⟨0, rfl, Nat.zero_le _, hBw, hBc⟩
    case round =>
      obtain ⟨m, rfl, hm, hB, hB'⟩ := hrel
      by_cases hml : m < l.length
      · have i1 : (0 : Int) ≤ (m : Int) := by omega
        have i2 : (m : Int) < (l.length : Int) := by omega
        obtain ⟨g3, rfl⟩ := hA3 (by omega)
        obtain ⟨g5, rfl⟩ := hA5 (by omega)
        obtain ⟨x, hx⟩ : ∃ s, l[m]? = some s := ⟨_, List.getElem?_eq_getElem hml⟩
        obtain ⟨b0, b1, b2, b3, b4⟩ := cellsC_at (own_below hr3' hB') hx
        obtain ⟨c0, c1, c2, c3, c4⟩ := cellsC_at (own_below hr5' hB') hx
        have he := fun w => eq_cellsC x x w
        rw [decide_eq_true rfl] at he
        unfold encC at he
        clear hx hr3 hr3' hr5 hr5' hr6
        go_wp2
        go_quiet (fail)
        go_wp2
        go_roundw
        case rel => exact ⟨m + 1, by go_num, hml, below_dn hB _, below_dn hB' _⟩
        case measure => simp [intOf]; omega
      · obtain rfl : m = l.length := by omega
        go_wp2
        go_ret
        exact ⟨rfl, hB⟩
end Go.Proofs.Ytcngfcckajpkhaa
