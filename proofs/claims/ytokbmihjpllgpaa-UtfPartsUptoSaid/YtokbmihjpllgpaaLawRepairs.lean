/- The law of the repairs. -/
import Derived.Test.YtokbmihjpllgpaaEnc
import Derived.Test.YtokbmihjpllgpaaCount4
import Derived.Test.YtokbmihjpllgpaaRepair
import Derived.Shelf.RegionOpenPlain
set_option linter.unusedVariables false
namespace Go.Proofs.Ytokbmihjpllgpaa
open Go.RowKit Go.Shelf Go.Lib Go.BigFrame
attribute [local go_sem] Oper.semAt_some

theorem repB_list (s : ByteArray) : (repB s).data.toList = textB (runesL s.data.toList) := rfl
theorem textB_len (l : List Int) : (textB l).length ≤ 4 * l.length := by
  rw [← Lib.byteCells_length, ← runesC_eq]; exact runesC_len l
theorem repB_size (s : ByteArray) : (repB s).size ≤ 4 * s.size := by
  rw [U.size_eq, repB_list]
  have := textB_len (runesL s.data.toList)
  rw [runesL_len] at this
  have := toks_len (s := s)
  omega
theorem repB_rep (s : ByteArray) : repB (repB s) = repB s := by
  unfold repB
  congr 2
  show textB (runesL (textB (runesL s.data.toList))) = _
  rw [U.runesL_rep]
theorem badsN_rep (s : ByteArray) : badsL (U.signs (repB s).data.toList) = [] := by rw [repB_list, U.bads_text]
theorem toks_rep (s : ByteArray) : (U.toks (repB s).data.toList).length = (U.toks s.data.toList).length := by
  rw [repB_list, U.toks_textB, U.encT, List.length_map, runesL_len]
/-- One sign of each. -/
theorem rep_at (s : ByteArray) (k : Nat) (x : U.Sg) (hx : (U.signs s.data.toList)[k]? = some x) : ∃ y, (U.signs (repB s).data.toList)[k]? = some y ∧ y.rune = x.rune ∧ y.bad = false := by
  have h1 : (U.toks s.data.toList)[k]? = some (tk x) := by rw [← tk_signs, List.getElem?_map, hx]; rfl
  have hk : k < (U.signs (repB s).data.toList).length := by
    rw [← toks_signs, toks_rep, toks_signs]
    exact (List.getElem?_eq_some_iff.1 hx).1
  refine ⟨_, List.getElem?_eq_getElem hk, ?_⟩
  obtain ⟨y, hy⟩ : ∃ y, (U.signs (repB s).data.toList)[k] = y := ⟨_, rfl⟩
  have hy' : (U.signs (repB s).data.toList)[k]? = some y := by rw [List.getElem?_eq_getElem hk, hy]
  rw [hy]
  have h2 : (U.toks (repB s).data.toList)[k]? = some (tk y) := by rw [← tk_signs, List.getElem?_map, hy']; rfl
  rw [repB_list, U.toks_textB, U.encT, runesL, List.map_map, List.getElem?_map, h1] at h2
  have h3 := (Prod.mk.inj (Option.some.inj h2)).1
  have hf := U.toks_fact s.data.toList (tk x) (List.mem_of_getElem? h1)
  rw [show U.norm ((tk x).1 : Int) = (tk x).1 from U.norm_norm _ ⟨hf.2.2.1, hf.2.2.2⟩] at h3
  refine ⟨h3.symm, ?_⟩
  have hm := List.mem_of_getElem? hy'
  rw [U.signs, repB_list, U.toks_textB] at hm
  exact U.put_bad _ 0 (U.encT_good _) y hm
theorem bads_at (l : List U.Sg) : ∀ (k : Nat) (x : U.Sg), l[k]? = some x → x.bad = true → (badsL l)[(badsL (l.take k)).length]? = some (x.at_ : Int) := by
  intro k x hx hb
  have e : badsL l = badsL (l.take k) ++ (x.at_ : Int) :: badsL (l.drop (k + 1)) := by
    have hd : l = l.take k ++ x :: l.drop (k + 1) := by
      obtain ⟨hk, rfl⟩ := List.getElem?_eq_some_iff.1 hx
      rw [← List.drop_eq_getElem_cons hk, List.take_append_drop]
    conv => lhs; rw [hd]
    unfold badsL
    rw [List.filter_append, List.map_append, List.filter_cons, if_pos hb]
    rfl
  rw [e, List.getElem?_append_right (Nat.le_refl _), Nat.sub_self]
  rfl

set_option maxRecDepth 1000000 in
set_option maxHeartbeats 4000000 in
theorem utfRepairs_law (s : ByteArray) (hs : s.size ≤ 1048576) (w : World) : Calls Try.prog 12 #[.string s] w fun e w' => e = .returned (.bool true) ∧ Below w.heap.size w w' := by
  have hrl : (runesL s.data.toList).length ≤ 4194304 := by rw [runesL_len]; have := toks_len (s := s); omega
  have hT := repB_size s
  have hTT := repB_rep s
  have hbT := badsN_rep s
  have hcT := toks_rep s
  have hat := rep_at s
  have hba := bads_at (U.signs s.data.toList)
  have hll := signs_len_le s
  have hbl := badsL_len (U.signs s.data.toList)
  have hal : (U.signs (repB s).data.toList).length = (U.signs s.data.toList).length := by rw [← toks_signs, toks_rep, toks_signs]
  have P1 := fun w => repairU_any s w (by omega)
  have P2 := fun w => repairU_any (repB s) w (by omega)
  have RU := fun w => runes_utf s w (by omega)
  have TU := fun w g cap h => text_utf (runesL s.data.toList) w g cap h
  have B1 := fun w => badsU_any s w (by omega)
  have B2 := fun w => badsU_any (repB s) w (by omega)
  have C1 := fun w => count4_any s w (by omega)
  have C2 := fun w => count4_any (repB s) w (by omega)
  have A1 := fun w => all_any s w (by omega)
  have A2 := fun w => all_any (repB s) w (by omega)
  have hbn : badsN (repB s) = 0 := by show (badsL (U.signs (repB s).data.toList)).length = 0; rw [hbT]; rfl
  have hbn1 : badsN s = (badsL (U.signs s.data.toList)).length := rfl
  rw [hbn, hTT] at P2
  rw [hbn1] at P1
  rw [hbT] at B2
  rw [hcT] at C2
  rw [hal] at A2
  rw [show (⟨(textB (runesL s.data.toList)).toArray⟩ : ByteArray) = repB s from rfl] at TU
  obtain ⟨T, hTd⟩ : ∃ T, repB s = T := ⟨_, rfl⟩
  rw [hTd] at P1 P2 TU B2 C2 A2 hat
  obtain ⟨rs, hrs⟩ : ∃ l, runesL s.data.toList = l := ⟨_, rfl⟩
  rw [hrs] at RU TU
  obtain ⟨n, hn⟩ : ∃ l, (U.toks s.data.toList).length = l := ⟨_, rfl⟩
  rw [hn] at C1 C2
  obtain ⟨l, hl⟩ : ∃ l, U.signs s.data.toList = l := ⟨_, rfl⟩
  rw [hl] at P1 B1 A1 A2 hat hba hll hbl
  obtain ⟨m, hm⟩ : ∃ l, U.signs T.data.toList = l := ⟨_, rfl⟩
  rw [hm] at A2 hat
  have hml : m.length = l.length := by rw [← hm, ← hTd, hal, hl]
  rw [← hml] at A2
  have P1 := Lib.hid P1
  have P2 := Lib.hid P2
  have RU := Lib.hid RU
  have TU := Lib.hid TU
  have B1 := Lib.hid B1
  have B2 := Lib.hid B2
  have C1 := Lib.hid C1
  have C2 := Lib.hid C2
  have A1 := Lib.hid A1
  have A2 := Lib.hid A2
  have HAT := Lib.hid hat
  have HBA := Lib.hid hba
  have HML := Lib.hid hml
  clear hrl hT hTT hbT hcT hat hba hal hbn hbn1 hTd hrs hn hl hm hml
  go_enter Try.func12, Try.ntmps12
  go_wp2_with (first
    | (go_at_call 19; refine (head_any _).mono ?_; rintro e w1 ⟨rfl, hb1⟩)
    | (go_at_call 38; first | ((with_reducible refine (P1.out _).mono ?_); rintro e w2 ⟨rfl, hb2⟩) | ((with_reducible refine (P2.out _).mono ?_); rintro e w3 ⟨rfl, hb3⟩))
    | (go_at_call 36; (with_reducible refine (RU.out _).mono ?_); rintro e w4 ⟨cp4, rfl, hb4, hr4⟩)
    | (go_at_call 33; (with_reducible refine (TU.out _ _ _ hr4).mono ?_); rintro e w5 ⟨rfl, hb5⟩)
    | (go_at_call 42; first | ((with_reducible refine (B1.out _).mono ?_); rintro e w6 ⟨v6, rfl, hb6, hr6⟩; obtain ⟨A6, c6, rfl, hA6⟩ := own_form hr6) | ((with_reducible refine (B2.out _).mono ?_); rintro e w7 ⟨v7, rfl, hb7, hr7⟩; obtain ⟨A7, c7, rfl, _⟩ := own_form hr7))
    | (go_at_call 23; first | ((with_reducible refine (C1.out _).mono ?_); rintro e w8 ⟨rfl, hb8⟩) | ((with_reducible refine (C2.out _).mono ?_); rintro e w9 ⟨rfl, hb9⟩))
    | (go_at_call 21; first | ((with_reducible refine (A1.out _).mono ?_); rintro e w10 ⟨v10, rfl, hb10, hr10⟩; obtain ⟨A10, c10, rfl, hA10⟩ := own_form hr10) | ((with_reducible refine (A2.out _).mono ?_); rintro e w11 ⟨v11, rfl, hb11, hr11⟩; obtain ⟨A11, c11, rfl, hA11⟩ := own_form hr11)))
  have hB0 : Below w.heap.size w w6 := by repeat (first | assumption | refine bst ?_ ‹_›)
  have W6a := own_below (own_below hr10 hb11) hb6
  have W6b := own_below hr11 hb6
  go_loopw [9, 11] (fun k i wr => ∃ (j m' : Nat), i = .int .i64 (j : Int) ∧ k = .int .i64 ((badsL (l.take j)).length : Int) ∧ j ≤ l.length ∧ wr = w6.drewN m') (fun _ i _ => l.length - (intOf i).toNat)
  case atStart => exact ⟨0, 0, rfl, rfl, Nat.zero_le _, rfl⟩
  case round =>
    obtain ⟨j, m', rfl, rfl, hj, rfl⟩ := hrel
    by_cases hlt : j < l.length
    · obtain ⟨ga, rfl⟩ := hA10 (by omega)
      obtain ⟨gb, rfl⟩ := hA11 (by have := HML.out; omega)
      obtain ⟨x, hx⟩ : ∃ s, l[j]? = some s := ⟨_, List.getElem?_eq_getElem hlt⟩
      obtain ⟨y, hy, hyr, hyb⟩ := HAT.out j x hx
      obtain ⟨p0, p1, p2, p3⟩ := cellsS_at W6a hx
      obtain ⟨q0, q1, q2, q3⟩ := cellsS_at W6b hy
      rw [hyr] at q2
      rw [hyb] at q3
      have hjm : j < m.length := by have := HML.out; omega
      have HS := Lib.hid (show badsL (l.take (j + 1)) = badsL (l.take j) ++ (if x.bad then [(x.at_ : Int)] else []) by rw [List.take_add_one, hx]; exact badsL_snoc _ _)
      have hbj := badsL_len (l.take j)
      rw [List.length_take] at hbj
      obtain ⟨bd, hbd⟩ : ∃ b, x.bad = b := ⟨_, rfl⟩
      rw [hbd] at p3
      have HBD := Lib.hid hbd
      obtain ⟨K, hK⟩ : ∃ K, (badsL (l.take j)).length = K := ⟨_, rfl⟩
      have HK := Lib.hid hK
      cases bd
      · rw [hK] at hbj ⊢
        clear hy hyr hyb hx hbd hK W6a W6b hr6 hr10 hr11 hA10 hA11
        go_wp2
        go_quiet (fail)
        go_wp2
        go_roundw
        case rel => exact ⟨j + 1, m' + nq, by go_num, by rw [HS.out, HBD.out, if_neg (by simp), List.append_nil, HK.out], by omega, rfl⟩
        case measure => simp [intOf]; omega
      · have hba := HBA.out j x hx hbd
        have hkl : (badsL (l.take j)).length < (badsL l).length := (List.getElem?_eq_some_iff.1 hba).1
        obtain ⟨gl, rfl⟩ := hA6 (by omega)
        have r0 := nums_at hr6 hba
        rw [hK] at hbj hkl r0 ⊢
        clear hy hyr hyb hx hbd hK W6a W6b hr6 hr10 hr11 hA10 hA11 hba
        go_wp2
        go_quiet (fail)
        go_wp2
        go_roundw
        case rel => exact ⟨j + 1, m' + nq, by go_num, by rw [HS.out, HBD.out, if_pos rfl, List.length_append, HK.out]; go_num, by omega, rfl⟩
        case measure => simp [intOf]; omega
    · obtain rfl : j = l.length := by omega
      rw [List.take_length]
      go_wp2_with (go_at_call 19; refine (head_any _).mono ?_; rintro e w13 ⟨rfl, hb13⟩)
      go_ret
      exact ⟨rfl, bst (below_dn hB0 _) hb13⟩
end Go.Proofs.Ytokbmihjpllgpaa
