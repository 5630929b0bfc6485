/- The law of the stream of pieces. -/
import Derived.Test.YtokbmihjpllgpaaDoorStrW
import Derived.Test.YtokbmihjpllgpaaDoorRepG
set_option linter.unusedVariables false
set_option linter.unusedSimpArgs false
namespace Go.Proofs.YtokbmihjpllgpaaDoor
open Go.RowKit Go.Shelf Go.Lib Go.BigFrame
attribute [local go_sem] Oper.semAt_some

set_option maxRecDepth 1000000 in
set_option maxHeartbeats 8000000 in
theorem utfStream_law (s : ByteArray) (cv : Value) (c : List Int) (hs : s.size ≤ 1048576) (hc : c.length ≤ 1048576) (w : World) (hC : ArgI w cv c) (T : Tabs w) : Calls Tryd.prog 4 #[.string s, cv] w fun e w' => e = .returned (.bool true) ∧ Below w.heap.size w w' := by
  obtain ⟨CA, cc, rfl, hCA⟩ := hC
  obtain ⟨L, hL⟩ : ∃ L, s.size = L := ⟨_, rfl⟩
  have HL := Lib.hid hL
  rw [hL] at hs
  have HT := Lib.hid T
  obtain ⟨N, hN⟩ : ∃ N, c.length = N := ⟨_, rfl⟩
  rw [hN] at hCA hc ⊢
  have HN := Lib.hid hN
  have HCA := Lib.hid hCA
  have hT2 := T.size
  clear T hCA hN
  go_enter Tryd.func4, Tryd.ntmps4
  go_wp2_with (go_at_call 6; (with_reducible refine (newPc_any w).mono ?_); rintro e w1 ⟨rfl, hb1, hp1, hs1⟩)
  go_loopw [6, 7, 8, 9] (fun lv av tv iv wr => ∃ a t i : Nat, av = .int .i64 (a : Int) ∧ tv = .int .i64 (t : Int) ∧ iv = .int .i64 (i : Int) ∧ a ≤ L ∧ t ≤ a ∧ a - t ≤ 3 ∧ i ≤ 1001 ∧ (i = 1001 → a = L) ∧ St w w.heap.size s.data.toList lv a t w1.heap.size wr) (fun _ _ _ iv _ => 1002 - (intOf iv).toNat)
  case atStart =>
    exact ⟨0, 0, 0, rfl, rfl, rfl, Nat.zero_le _, Nat.le_refl _, by omega, by omega, fun h => by omega, hb1, by simpa using hp1, ⟨[], Nat.le_refl _, by simp [onL, on_zero], World.ownsRow_nil _ _ _ _⟩, Nat.le_refl _⟩
  case round =>
    obtain ⟨a, t, i, rfl, rfl, rfl, ha, hta, hat, hi, hi2, hSt⟩ := hrel
    by_cases hlt : a < L
    · have W9 : Hid (∀ (x : Int) (w : World), Calls Tryd.prog 13 #[.int .i64 x, .int .i64 9] w fun e w' => e = .returned (.int .i64 (x % 9)) ∧ w = w') := Lib.hid (fun x w => within_any x 9 w (by omega) (by omega))
      obtain ⟨n, hn, hway⟩ : ∃ n, n ≤ L - a ∧ ((n = L - a ∧ (N = 0 ∨ (0 < N ∧ 1000 ≤ i))) ∨ (0 < N ∧ i < 1000 ∧ ∃ x, c[i % N]? = some x ∧ (n : Int) = min ((L : Int) - a) (x % 9))) := by
        have hcN := HN.out
        by_cases h0 : N = 0
        · exact ⟨L - a, by omega, .inl ⟨rfl, .inl h0⟩⟩
        · by_cases h1 : i < 1000
          · have hm : i % N < c.length := by rw [hcN]; exact Nat.mod_lt i (show 0 < N by omega)
            refine ⟨(min ((L : Int) - a) (c[i % N] % 9)).toNat, by omega, .inr ⟨by omega, h1, c[i % N], List.getElem?_eq_getElem hm, ?_⟩⟩
            have := Int.emod_nonneg c[i % N] (show (9 : Int) ≠ 0 by omega)
            omega
          · exact ⟨L - a, by omega, .inl ⟨rfl, .inr ⟨by omega, by omega⟩⟩⟩
      have hi1 : i < 1001 := by
        rcases Nat.lt_or_ge i 1001 with h | h
        · exact h
        · have := hi2 (by omega); omega
      have hNX : i = 1000 → a + n = L := fun h => by
        rcases hway with ⟨h1, _⟩ | ⟨_, h1, _⟩ <;> omega
      obtain ⟨m, al, hR⟩ := rd_is s L a t n HL.out hta (by omega)
      have hn2 : a + n ≤ L := by omega
      have hm1 := hR.le
      have hm2 := hR.le3
      have hsm := hR.sm
      obtain ⟨V, hV1⟩ := Classical.skolem.1 (bytes_conv (s.extract a (a + n)))
      obtain ⟨NX, hV2⟩ := Classical.skolem.1 hV1
      have hcv := fun W => (hV2 W).1
      have hcb := (hV2 wr).2.1
      have hTr : Tabs (NX wr) := (HT.out.below hSt.below hT2).below hcb (by have := hSt.below.size; omega)
      have FD := Lib.hid (feed_fr_is w.heap.size (V wr) _ _ al _ _ (NX wr) hT2 (hSt.pc.below hcb) (hV2 wr).2.2 hTr (by omega) hR.cat hR.told hR.rest)
      have HST := Lib.hid hSt
      have HR := Lib.hid hR
      have HCB := Lib.hid hcb
      have hRs := hR.sz
      have HH := Lib.hid hR.held
      have hes := HL.out
      have hsl3 : ∀ W, (Instr.slice 9 (.string s) (some (.int .i64 (t : Int))) (some (.int .i64 ((t : Int) + (m : Int)))) none).run Tryd.prog W = .ok (.string (s.extract t (t + m))) W := fun W =>
        run_slice_string (P := Tryd.prog) (w := W) 9 s .i64 .i64 (t : Int) ((t : Int) + (m : Int)) Tryd.underlying9 (by omega) (by omega) (by omega)
      have hsl1 : ∀ W, (Instr.slice 9 (.string s) (some (.int .i64 (a : Int))) (some (.int .i64 ((a : Int) + (n : Int)))) none).run Tryd.prog W = .ok (.string (s.extract a (a + n))) W := fun W =>
        run_slice_string (P := Tryd.prog) (w := W) 9 s .i64 .i64 (a : Int) ((a : Int) + (n : Int)) Tryd.underlying9 (by omega) (by omega) (by omega)
      have MV := Lib.hid (fun la W h1 h2 h3 => moved_fr u6 la w1.heap.size (s.extract t (t + m)) t W (by rw [hRs]; omega) (by omega) h1 h2 h3)
      obtain ⟨R, hRR⟩ : ∃ R, s.extract t (t + m) = R := ⟨_, rfl⟩
      rw [hRR] at FD hRs hsl3 MV
      have HRR := Lib.hid hRR
      clear hSt hR hcb hTr hV1 hV2 hRR hsm
      have hq : (t : Int) + (m : Int) ≤ (a : Int) + (n : Int) := by omega
      have hq3 : (a : Int) + (n : Int) - ((t : Int) + (m : Int)) ≤ 3 := by omega
      rcases hway with ⟨h1, h2⟩ | ⟨h1, h2, x, hx, hnx⟩
      · have e1 : ((L : Int) - (a : Int)) = (n : Int) := by omega
        clear h1
        rcases h2 with h2 | ⟨h2, h3⟩
        · have hd1 : decide (0 < N) = false := decide_eq_false (by omega)
          have hd2 : decide ((0 : Int) < (N : Int)) = false := decide_eq_false (by omega)
          clear h2
          go_wp2_with (first
          | (go_at_call 7; (with_reducible refine FD.out.mono ?_); rintro e w2 ⟨rfl, hf2, hp2⟩; have HF2 := Lib.hid (And.intro hf2 hp2); clear hf2 hp2)
          | (go_at_call 14; obtain ⟨⟨la, hla1, hla2, hla3⟩, hs2, hob2⟩ := HST.out.row2 hs1 HCB.out HF2.out.1; (with_reducible refine (MV.out la _ (by omega) hs2 hla3).mono ?_); rintro e w3 ⟨lv', rfl, hb3, hfr3, hob3, hrow3⟩; have H3 := Lib.hid (HST.out.step HR.out (Nat.le_refl _) hs1 HCB.out HF2.out.1 HF2.out.2 hla1 hla2 hob2 hb3 hfr3 hob3 (by rw [HRR.out]; exact hrow3)); clear hla2 hla3 hob2 hb3 hfr3 hob3 hrow3; have HE : Hid (Calls Tryd.prog 9 #[.pointer (some ⟨w.heap.size, 0, none⟩)] w3 fun e w' => e = .returned (.int .i64 ((a : Int) + (n : Int) - ((t : Int) + (m : Int)))) ∧ w3 = w') := Lib.hid (by have := heldU_any w.heap.size _ w3 H3.out.pc; rw [HH.out, show (((a + n - (t + m) : Nat)) : Int) = (a : Int) + (n : Int) - ((t : Int) + (m : Int)) by omega] at this; exact this))
          | (go_at_call 9; (with_reducible refine HE.out.mono ?_); rintro e w4 ⟨rfl, rfl⟩))
          go_roundw
          case rel => exact ⟨a + n, t + m, i + 1, by go_num, by go_num, by go_num, hn2, hm1, by omega, by omega, fun h => hNX (by omega), H3.out⟩
          case measure => simp [intOf]; omega
        · have hd1 : decide (i < 1000) = false := decide_eq_false (by omega)
          have hd2 : decide ((i : Int) < 1000) = false := decide_eq_false (by omega)
          have hd3 : (0 : Int) < (N : Int) := by omega
          go_wp2_with (first
          | (go_at_call 7; (with_reducible refine FD.out.mono ?_); rintro e w2 ⟨rfl, hf2, hp2⟩; have HF2 := Lib.hid (And.intro hf2 hp2); clear hf2 hp2)
          | (go_at_call 14; obtain ⟨⟨la, hla1, hla2, hla3⟩, hs2, hob2⟩ := HST.out.row2 hs1 HCB.out HF2.out.1; (with_reducible refine (MV.out la _ (by omega) hs2 hla3).mono ?_); rintro e w3 ⟨lv', rfl, hb3, hfr3, hob3, hrow3⟩; have H3 := Lib.hid (HST.out.step HR.out (Nat.le_refl _) hs1 HCB.out HF2.out.1 HF2.out.2 hla1 hla2 hob2 hb3 hfr3 hob3 (by rw [HRR.out]; exact hrow3)); clear hla2 hla3 hob2 hb3 hfr3 hob3 hrow3; have HE : Hid (Calls Tryd.prog 9 #[.pointer (some ⟨w.heap.size, 0, none⟩)] w3 fun e w' => e = .returned (.int .i64 ((a : Int) + (n : Int) - ((t : Int) + (m : Int)))) ∧ w3 = w') := Lib.hid (by have := heldU_any w.heap.size _ w3 H3.out.pc; rw [HH.out, show (((a + n - (t + m) : Nat)) : Int) = (a : Int) + (n : Int) - ((t : Int) + (m : Int)) by omega] at this; exact this))
          | (go_at_call 9; (with_reducible refine HE.out.mono ?_); rintro e w4 ⟨rfl, rfl⟩))
          go_roundw
          case rel => exact ⟨a + n, t + m, i + 1, by go_num, by go_num, by go_num, hn2, hm1, by omega, by omega, fun h => hNX (by omega), H3.out⟩
          case measure => simp [intOf]; omega
      · obtain ⟨g, o, rfl, hcells⟩ := HCA.out h1
        have hx' := hcells _ _ hx
        have hcell : wr.cell? ⟨g, o + i % N, none⟩ = some (.int .i64 x) := (World.cell?_of_block (HST.out.below.block _ (World.block_lt_of_cell? _ _ hx'))).trans hx'
        have hm := Nat.mod_lt i h1
        have hd3 : (0 : Int) < (N : Int) := by omega
        have h9 := Int.emod_nonneg x (show (9 : Int) ≠ 0 by omega)
        obtain ⟨y, hy⟩ : ∃ y, x % 9 = y := ⟨_, rfl⟩
        rw [hy] at hnx h9
        have W9' := W9.out x
        rw [hy] at W9'
        have W9' := Lib.hid W9'
        clear hcells hx hx' hy
        by_cases hle : (n : Int) ≤ y ∧ (L : Int) - (a : Int) = (n : Int)
        · obtain ⟨hle, e1⟩ := hle
          clear hnx
          go_wp2_with (first
          | (go_at_call 13; (with_reducible refine (W9'.out _).mono ?_); rintro e w0 ⟨rfl, rfl⟩)
          | (go_at_call 7; (with_reducible refine FD.out.mono ?_); rintro e w2 ⟨rfl, hf2, hp2⟩; have HF2 := Lib.hid (And.intro hf2 hp2); clear hf2 hp2)
          | (go_at_call 14; obtain ⟨⟨la, hla1, hla2, hla3⟩, hs2, hob2⟩ := HST.out.row2 hs1 HCB.out HF2.out.1; (with_reducible refine (MV.out la _ (by omega) hs2 hla3).mono ?_); rintro e w3 ⟨lv', rfl, hb3, hfr3, hob3, hrow3⟩; have H3 := Lib.hid (HST.out.step HR.out (Nat.le_refl _) hs1 HCB.out HF2.out.1 HF2.out.2 hla1 hla2 hob2 hb3 hfr3 hob3 (by rw [HRR.out]; exact hrow3)); clear hla2 hla3 hob2 hb3 hfr3 hob3 hrow3; have HE : Hid (Calls Tryd.prog 9 #[.pointer (some ⟨w.heap.size, 0, none⟩)] w3 fun e w' => e = .returned (.int .i64 ((a : Int) + (n : Int) - ((t : Int) + (m : Int)))) ∧ w3 = w') := Lib.hid (by have := heldU_any w.heap.size _ w3 H3.out.pc; rw [HH.out, show (((a + n - (t + m) : Nat)) : Int) = (a : Int) + (n : Int) - ((t : Int) + (m : Int)) by omega] at this; exact this))
          | (go_at_call 9; (with_reducible refine HE.out.mono ?_); rintro e w4 ⟨rfl, rfl⟩))
          go_roundw
          case rel => exact ⟨a + n, t + m, i + 1, by go_num, by go_num, by go_num, hn2, hm1, by omega, by omega, fun h => hNX (by omega), H3.out⟩
          case measure => simp [intOf]; omega
        · obtain ⟨M, hM⟩ : ∃ M : Nat, (L : Int) - (a : Int) = (M : Int) := ⟨L - a, by omega⟩
          have hlt2 : (n : Int) < (M : Int) := by omega
          have hlt3 : ¬ ((M : Int) ≤ (n : Int)) := by omega
          obtain rfl : (n : Int) = y := by omega
          clear hle hnx
          go_wp2_with (first
          | (go_at_call 13; (with_reducible refine (W9'.out _).mono ?_); rintro e w0 ⟨rfl, rfl⟩)
          | (go_at_call 7; (with_reducible refine FD.out.mono ?_); rintro e w2 ⟨rfl, hf2, hp2⟩; have HF2 := Lib.hid (And.intro hf2 hp2); clear hf2 hp2)
          | (go_at_call 14; obtain ⟨⟨la, hla1, hla2, hla3⟩, hs2, hob2⟩ := HST.out.row2 hs1 HCB.out HF2.out.1; (with_reducible refine (MV.out la _ (by omega) hs2 hla3).mono ?_); rintro e w3 ⟨lv', rfl, hb3, hfr3, hob3, hrow3⟩; have H3 := Lib.hid (HST.out.step HR.out (Nat.le_refl _) hs1 HCB.out HF2.out.1 HF2.out.2 hla1 hla2 hob2 hb3 hfr3 hob3 (by rw [HRR.out]; exact hrow3)); clear hla2 hla3 hob2 hb3 hfr3 hob3 hrow3; have HE : Hid (Calls Tryd.prog 9 #[.pointer (some ⟨w.heap.size, 0, none⟩)] w3 fun e w' => e = .returned (.int .i64 ((a : Int) + (n : Int) - ((t : Int) + (m : Int)))) ∧ w3 = w') := Lib.hid (by have := heldU_any w.heap.size _ w3 H3.out.pc; rw [HH.out, show (((a + n - (t + m) : Nat)) : Int) = (a : Int) + (n : Int) - ((t : Int) + (m : Int)) by omega] at this; exact this))
          | (go_at_call 9; (with_reducible refine HE.out.mono ?_); rintro e w4 ⟨rfl, rfl⟩))
          go_roundw
          case rel => exact ⟨a + n, t + m, i + 1, by go_num, by go_num, by go_num, hn2, hm1, by omega, by omega, fun h => hNX (by omega), H3.out⟩
          case measure => simp [intOf]; omega
    · obtain rfl : a = L := by omega
      obtain ⟨la, hla1, hla2, hla3⟩ := hSt.row
      have hL2 := HL.out
      have hlen : s.data.toList.length = a := by rw [← hL2]; exact (U.size_eq s).symm
      have hES : (s.extract t a).data.toList = s.data.toList.drop t := by rw [ext_list, List.take_of_length_le (by rw [List.length_drop]; omega)]
      have hEz : (s.extract t a).size = a - t := ext_size s t a (by omega)
      have hEq : (⟨((s.data.toList.drop t).take (a - t)).toArray⟩ : ByteArray) = s.extract t a := by
        apply ba_eq
        rw [ext_list]
      have EN := hEq ▸ endU_any w.heap.size _ wr hSt.pc
      have MV := fun W h1 h2 => moved_fr u6 la w1.heap.size (s.extract t a) t W (by rw [hEz]; omega) (by omega) (by omega) h1 h2
      rw [hES, ← hla2] at MV
      have hlx : la.length + (U.signs (s.data.toList.drop t)).length = (U.signs s.data.toList).length := by
        rw [hla2, List.length_append]; simp [onL]
      rw [hlx] at MV
      have hll := signs_len_le s
      have AL := Lib.hid (fun W => all_any s W (by omega))
      have RP := Lib.hid (fun W => repairU_any s W (by omega))
      obtain ⟨V, hV1⟩ := Classical.skolem.1 (bytes_conv (repB s))
      obtain ⟨NX, hV2⟩ := Classical.skolem.1 hV1
      have hcv := fun W => (hV2 W).1
      have HB := Lib.hid (fun W => (hV2 W).2.1)
      have HX := Lib.hid (fun W => (hV2 W).2.2)
      have hTz : (repB s).data.toList.length ≤ 4194304 := by rw [← U.size_eq]; have := repG_size s; omega
      have HTz := Lib.hid hTz
      have HTh := Lib.hid (repG_hold s)
      have hsl4 : ∀ W, (Instr.slice 9 (.string s) (some (.int .i64 (t : Int))) none none).run Tryd.prog W = .ok (.string (s.extract t a)) W := fun W => by
        have := run_slice_string_l (P := Tryd.prog) W 9 s Tryd.underlying9 .i64 (t : Int) (by omega) (by omega)
        rw [hL2] at this
        exact this
      obtain ⟨l, hl⟩ : ∃ l, U.signs s.data.toList = l := ⟨_, rfl⟩
      rw [hl] at MV AL hll
      obtain ⟨TB, hTB⟩ : ∃ T, repB s = T := ⟨_, rfl⟩
      rw [hTB] at RP hcv HX HTz HTh
      obtain ⟨E, hE⟩ : ∃ E, s.extract t a = E := ⟨_, rfl⟩
      rw [hE] at EN MV hEz hsl4
      obtain ⟨k, hk⟩ : ∃ k, a - t = k := ⟨_, rfl⟩
      rw [hk] at hEz
      have e2 : (t : Int) + (k : Int) = (a : Int) := by omega
      have EN := Lib.hid EN
      have MV := Lib.hid MV
      have HST := Lib.hid hSt
      have HLA := Lib.hid hla3
      clear hSt hla1 hla2 hla3 hlen hES hEq hlx hV1 hV2 hTz hl hTB hE hk hta hat hi hi2
      go_wp2_with (first
        | (go_at_call 10; (with_reducible refine EN.out.mono ?_); rintro e w2 ⟨rfl, hf2, hp2⟩; have HF2 := Lib.hid (And.intro hf2 hp2); clear hf2 hp2)
        | (go_at_call 14; have hsz2 : w1.heap.size ≤ w2.heap.size := Nat.le_trans HST.out.size HF2.out.1.size; (with_reducible refine (MV.out _ hsz2 (ownsRow_fr HLA.out HF2.out.1 (fun g hg _ => by omega))).mono ?_); rintro e w3 ⟨lv', rfl, hb3, hfr3, hob3, hrow3⟩; have HE : Hid (Calls Tryd.prog 9 #[.pointer (some ⟨w.heap.size, 0, none⟩)] w3 fun e w' => e = .returned (.int .i64 0) ∧ w3 = w') := Lib.hid (heldU_any w.heap.size [] w3 (HF2.out.2.nil_fr hfr3 (fun e => by have := (HLA.out.lt _ e).1; omega))); obtain ⟨A3, c3, rfl, hA3⟩ := own_form hrow3; have HB3 := Lib.hid ((HST.out.below.trans (HF2.out.1.toBelow (fun k hk => by omega) HST.out.below.size)).trans (hb3.mono (by omega))); clear hb3 hfr3 hob3)
        | (go_at_call 9; (with_reducible refine HE.out.mono ?_); rintro e w3' ⟨rfl, rfl⟩)
        | (go_at_call 15; (with_reducible refine (AL.out _).mono ?_); rintro e w4 ⟨v4, rfl, hb4, hr4⟩; obtain ⟨A4, c4, rfl, hA4⟩ := own_form hr4))
      have hB4 : Below w.heap.size w w4 := bst HB3.out hb4
      have hr3 := own_below hrow3 hb4
      clear hrow3 hb4 hsl4 e2 hEz
      go_loopw [14] (fun iv wr => ∃ k m' : Nat, iv = .int .i64 (k : Int) ∧ wr = w4.drewN m' ∧ k ≤ l.length) (fun iv _ => l.length - (intOf iv).toNat)
      case atStart => exact ⟨0, 0, rfl, rfl, Nat.zero_le _⟩
      case round =>
        obtain ⟨k, m', rfl, rfl, hk⟩ := hrel
        by_cases hlt : k < l.length
        · obtain ⟨g3, rfl⟩ := hA3 (by omega)
          obtain ⟨g4, rfl⟩ := hA4 (by omega)
          obtain ⟨x, hx⟩ : ∃ s, l[k]? = some s := ⟨_, List.getElem?_eq_getElem hlt⟩
          obtain ⟨p0, p1, p2, p3⟩ := cellsS_at hr3 hx
          obtain ⟨q0, q1, q2, q3⟩ := cellsS_at hr4 hx
          have he := fun w => eq_cellsS x x w
          rw [show decide (x = x) = true by simp] at he
          clear hx hr3 hr4 hA3 hA4 hcv
          go_wp2
          go_quiet (fail)
          go_wp2
          go_roundw
          case rel => exact ⟨k + 1, m' + nq, by go_num, rfl, hlt⟩
          case measure => simp only [intOf]; omega
        · obtain rfl : k = l.length := by omega
          have hB5 : Below w.heap.size w (w4.drewN m') := below_dn hB4 _
          clear hr3 hr4 hA3 hA4 hB4
          go_wp2_with (first
            | (go_at_call 16; (with_reducible refine (RP.out _).mono ?_); rintro e w6 ⟨rfl, hb6⟩; have hB6 := bst hB5 hb6)
            | (go_at_call 6; (with_reducible refine (newPc_any w6).mono ?_); rintro e w7 ⟨rfl, hb7, hp7, hs7⟩; have s6 := hB6.size; have s7' := (HB.out w7).size; have FD := Lib.hid (feed_is w6.heap.size (V w7) [] TB.data.toList TB.data.toList [] TB (NX w7) (by omega) (hp7.below (HB.out w7)) (HX.out w7) ((HT.out.below ((hB6.trans (hb7.mono s6)).trans ((HB.out w7).mono (by omega))) hT2)) (by rw [List.length_nil, Nat.zero_add]; exact HTz.out) rfl (by rw [HTh.out, Nat.sub_zero, List.take_of_length_le (Nat.le_refl _)]) (by rw [HTh.out, Nat.sub_zero, List.drop_of_length_le (Nat.le_refl _)])))
            | (go_at_call 7; (with_reducible refine FD.out.mono ?_); rintro e w8 ⟨rfl, hf8, hp8⟩; have HE8 : Hid (Calls Tryd.prog 9 #[.pointer (some ⟨w6.heap.size, 0, none⟩)] w8 fun e w' => e = .returned (.int .i64 0) ∧ w8 = w') := Lib.hid (heldU_any w6.heap.size [] w8 hp8))
            | (go_at_call 9; (with_reducible refine HE8.out.mono ?_); rintro e w8' ⟨rfl, rfl⟩)
            | (go_at_call 12; (with_reducible refine (head_any _).mono ?_); rintro e w9 ⟨rfl, hb9⟩))
          go_ret
          refine ⟨rfl, ?_⟩
          have k7 := (hB6.trans (hb7.mono s6)).trans ((HB.out w7).mono (by omega))
          have k8 := k7.trans (hf8.toBelow (fun k hk => by omega) k7.size)
          exact k8.trans (hb9.mono k8.size)
end Go.Proofs.YtokbmihjpllgpaaDoor
