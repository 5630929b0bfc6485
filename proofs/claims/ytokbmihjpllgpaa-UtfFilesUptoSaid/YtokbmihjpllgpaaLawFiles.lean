/- The law of files: lines and their ends are the file. -/
import Derived.Test.YtokbmihjpllgpaaLawLines
import Derived.Test.YtokbmihjpllgpaaHeld
set_option linter.unusedVariables false
set_option linter.unusedSimpArgs false
namespace Go.Proofs.Ytokbmihjpllgpaa
open Go.RowKit Go.Shelf Go.Lib
attribute [local go_sem] Oper.semAt_some

/-- Where the next line begins, behind so many lines. -/
def lnAt (L : List UInt8) : List (Nat × Nat) → Nat
  | [] => 0
  | x :: l => match (x :: l).getLast? with
    | some y => if y.2 < L.length then U.aft L y.2 else y.2
    | none => 0
theorem lnAt_snoc (L : List UInt8) (pre : List (Nat × Nat)) (x : Nat × Nat) : lnAt L (pre ++ [x]) = if x.2 < L.length then U.aft L x.2 else x.2 := by
  cases pre with
  | nil => rfl
  | cons a l =>
    show (match (a :: (l ++ [x])).getLast? with | some y => if y.2 < L.length then U.aft L y.2 else y.2 | none => 0) = _
    have : (a :: (l ++ [x])).getLast? = some x := by
      rw [← List.cons_append, List.getLast?_append]; rfl
    rw [this]
theorem lnAt_facts (L : List UInt8) (pre post : List (Nat × Nat)) (x : Nat × Nat) (h : U.lns L 0 = pre ++ x :: post) :
    x.1 = lnAt L pre ∧ x.1 < L.length ∧ x.1 ≤ x.2 ∧ x.2 ≤ L.length ∧ (∀ j, x.1 ≤ j → j < x.2 → U.isEol (U.by_ L j) = false) ∧ (x.2 < L.length → U.isEol (U.by_ L x.2) = true) := by
  obtain ⟨h1, h2, h3, _, h5, h6, _, h8, h9⟩ := U.lns_split L _ 0 pre post x (Nat.le_refl _) h
  refine ⟨?_, h1, h2, h3, h5, fun hh => (h6 hh).1⟩
  rcases List.eq_nil_or_concat pre with rfl | ⟨p, y, rfl⟩
  · exact h8 rfl
  · rw [List.concat_eq_append] at h9 ⊢
    obtain ⟨h10, h11⟩ := h9 p y rfl
    rw [lnAt_snoc, if_pos h10]; exact h11
theorem lnAt_all (L : List UInt8) : lnAt L (U.lns L 0) = L.length := by
  obtain ⟨h1, h2⟩ := U.lns_done L _ rfl
  rcases List.eq_nil_or_concat (U.lns L 0) with h | ⟨p, y, h⟩
  · rw [h, h1 h]; rfl
  · rw [List.concat_eq_append] at h
    obtain ⟨_, _, h3, _, _, _⟩ := lnAt_facts L p [] y h
    have h4 := (lnAt_facts L p [] y h).2.2.2.1
    rw [h, lnAt_snoc]
    split
    · exact h2 p y h ‹_›
    · omega
theorem lnAt_le (L : List UInt8) (pre : List (Nat × Nat)) (h : ∃ post, U.lns L 0 = pre ++ post) : lnAt L pre ≤ L.length := by
  obtain ⟨post, h⟩ := h
  rcases List.eq_nil_or_concat pre with rfl | ⟨p, y, rfl⟩
  · exact Nat.zero_le _
  · rw [List.concat_eq_append] at h ⊢
    have h4 := (lnAt_facts L p post y (by rw [h]; simp)).2.2.2.1
    rw [lnAt_snoc]
    split
    · exact (U.aft_le L _ ‹_›).2
    · exact h4
/-- A line's byte. -/
theorem lnS_by (s : ByteArray) (x : Nat × Nat) (j : Nat) (h : x.1 + j < x.2) : U.by_ (lnS s x).data.toList j = U.by_ s.data.toList (x.1 + j) := by
  unfold lnS U.by_
  rw [Lib.extract_data]
  simp only [List.getD_eq_getElem?_getD, List.getElem?_take, List.getElem?_drop]
  rw [if_pos (by omega)]

set_option maxRecDepth 1000000 in
set_option maxHeartbeats 8000000 in
theorem utfFiles_law (s : ByteArray) (hs : s.size ≤ 1048576) (w : World) : Calls Try.prog 17 #[.string s] w fun e w' => e = .returned (.bool true) ∧ Below w.heap.size w w' := by
  have LI := fun Bn w hB => lines_in s (by omega) Bn w hB
  have LF := lnAt_facts s.data.toList
  have LA := lnAt_all s.data.toList
  have LL := lnAt_le s.data.toList
  have LB := lnS_by s
  have IX := ix_by s
  obtain ⟨L, hL⟩ : ∃ L, s.data.toList = L := ⟨_, rfl⟩
  have hLz : L.length = s.size := by rw [← hL, U.size_eq]
  rw [hL] at LI LF LA LL LB IX
  obtain ⟨l, hl⟩ : ∃ l, U.lns L 0 = l := ⟨_, rfl⟩
  rw [hl] at LI LF LA LL
  rw [hLz] at LF LA LL
  have LI := Lib.hid LI
  have LF := Lib.hid LF
  have LA := Lib.hid LA
  have LL := Lib.hid LL
  have LB := Lib.hid LB
  have IX := Lib.hid IX
  clear hl
  refine (callsIn_wide (n := 0)).1 (callsIn_of_wp_marks Try.func17 rfl trivial (wpIn_wide.2 ?_) rfl)
  simp only [Try.ntmps17, List.size_toArray, List.length_cons, List.length_nil, Nat.reduceAdd, Nat.reduceSub, Array.replicate_succ, Array.replicate_zero, List.push_toArray, List.append_toArray, List.nil_append, List.cons_append]
  go_wp2_with (first
    | (go_at_call 19; refine (head_any _).mono ?_; rintro e w1 ⟨rfl, hb1⟩; have hq1 : w1.cell? ⟨w.heap.size, 0, none⟩ = some (.string s) := (World.cell?_of_block (hb1.block _ (by simp; omega))).trans ((World.cell?_of_block (Below.heap_alloc _ _ _ (by simp))).trans (cell_new w _ _).1); have hq2 : w.heap.size + 2 ≤ w1.heap.size := (by have := hb1.size; simp at this; omega); have hq3 : w.heap.size < w1.heap.size := (by omega))
    | (go_at_call 48; ((with_reducible refine (lines_call s _).mono ?_); rintro e w3 ⟨rfl, rfl⟩)))
  obtain ⟨B, hBz⟩ : ∃ B, w1.heap.size = B := ⟨_, rfl⟩
  rw [hBz]
  refine at_world fun W0 hW0 => ?_
  have hz : W0.heap.size = B + 2 := by rw [← hW0]; simp; omega
  have hf : Fr (fun i => i < B) w1 W0 := by rw [← hW0]; exact ((Fr.refl _ _).alloc _).alloc _
  have hA : W0.heap[B]? = some (.cells #[.int .i64 0] 3 (0, 0)) := by
    rw [← hW0, ← hBz]
    exact (Below.heap_alloc _ _ _ (by simp)).trans (World.alloc_heap_new w1 _)
  have hS2 : W0.cell? ⟨B + 1, 0, none⟩ = some (.string s) := by
    rw [← hW0, ← hBz]
    have := (cell_new (w1.alloc (.cells #[.int .i64 0] 3)) (.string s) 9).1
    rwa [World.size_alloc] at this
  have hS : W0.cell? ⟨w.heap.size, 0, none⟩ = some (.string s) := hf.cell hq1 (by simp; omega)
  have hR : W0.heap[w.heap.size + 1]? = some (.cells #[.bool false] 4 (0, 0)) := by
    refine (hf.block _ (by omega) (by omega)).trans ((hb1.block _ (by simp)).trans ?_)
    have := World.alloc_heap_new (w.alloc (.cells #[.string s] 9)) (.cells #[.bool false] 4)
    rwa [World.size_alloc] at this
  have hB0 : Below w.heap.size w W0 := ((((Below.refl _ _).alloc (Nat.le_refl _) _).alloc (by simp) _).trans (hb1.mono (by simp; omega))).trans (hf.toBelow (fun k hk => by omega) (by omega))
  have hwB : w.heap.size + 2 ≤ B := by omega
  clear hW0 hf hq1 hq2 hq3 hb1 hBz
  refine wp_rf W0 rfl enters_lines (LI.out (B + 1) W0 hS2) (Fr.refl _ _) (fun k h => by omega) (fun _ => rfl)
    (fun pre W => Ct W0 (B + 2) B (lnAt L pre) W) (fun _ _ _ => False) ?hI (fun _ _ _ _ _ h => h) ⟨Fr.refl _ _, hA⟩ ?round ?done (fun c pre W _ _ h => h.elim)
  case hI => intro pre A C hf h; exact h.to (by omega) hf (fun i hi => by omega)
  case round =>
    rintro pre x post W hx hsz hT
    obtain ⟨e1, e2, e3, e4, e5, e6⟩ := LF.out pre post x hx
    have hsn := lnAt_snoc L pre x
    rw [hLz] at hsn
    have LBx := Lib.hid (LB.out x)
    have hlz : (lnS s x).size = x.2 - x.1 := by unfold lnS; rw [ByteArray.size_extract]; omega
    have hsl0 : ∀ w, (Instr.slice 9 (.string s) (some (.int .i64 (x.1 : Int))) (some (.int .i64 (x.2 : Int))) none).run Try.prog w = .ok (.string (lnS s x)) w := fun w => by
      have := run_slice_string (P := Try.prog) (w := w) 9 s .i64 .i64 (x.1 : Int) (x.2 : Int) Try.underlying9 (by omega) (by omega) (by omega)
      rw [this, Int.toNat_natCast, Int.toNat_natCast]; rfl
    have ixl := ix_by (lnS s x)
    have hne0 : x.1 < x.2 → (lnS s x).toList.isEmpty = false := fun h => by
      rw [Lib.toList_data]
      cases hh : (lnS s x).data.toList with
      | nil => have := U.size_eq (lnS s x); rw [hh, hlz] at this; simp at this; omega
      | cons => rfl
    unfold encL
    obtain ⟨p, q⟩ := x
    simp only at e1 e2 e3 e4 e5 e6 hsn LBx hlz hsl0 hne0 ⊢
    obtain ⟨Ln, hLn⟩ : ∃ Ln, lnS s (p, q) = Ln := ⟨_, rfl⟩
    rw [hLn] at LBx hlz hsl0 ixl hne0 ⊢
    obtain ⟨d, hd⟩ : ∃ d, q - p = d := ⟨_, rfl⟩
    rw [hd] at hlz
    have hpq : (p : Int) + (d : Int) = (q : Int) := by omega
    rw [← e1] at hT
    have E5 := Lib.hid e5
    have HX := Lib.hid hsn
    have HA := Lib.hid e1
    clear hx e5 hLn hsn e1
    gi_wp2
    refine ⟨Fr.refl _ _, fun W3 hf3 hs3 hr3 => ?_⟩
    have hT3 := hT.to (by omega) hf3 (fun i hi => by omega)
    have cs := hT3.cell hS (by simp; omega) (by simp; omega)
    have ca := (cell_of_block hT3.box).1
    have fa := (cell_of_block hT3.box).2
    have HT3 := Lib.hid hT3
    clear hT hT3 hf3 hs3 hr3
    gi_wp2
    gi_loopw [6] (fun i wr => ∃ k : Nat, wr = W3 ∧ i = .int .i64 (k : Int) ∧ k ≤ d) (fun i _ => d - (Go.RowKit.intOf i).toNat)
    case atStart => exact ⟨0, rfl, rfl, Nat.zero_le _⟩
    case round =>
      obtain ⟨k, rfl, rfl, hk⟩ := hrel
      by_cases hlt : k < d
      · have ixk := ixl k (by omega)
        rw [LBx.out k (by omega)] at ixk
        have hn := E5.out (p + k) (by omega) (by omega)
        obtain ⟨b, hb⟩ : ∃ b, U.by_ L (p + k) = b := ⟨_, rfl⟩
        rw [hb] at ixk hn
        simp only [U.isEol, Bool.or_eq_false_iff, beq_eq_false_iff_ne] at hn
        have h10 : ((b : Int) == 10) = false := by rw [beq_eq_false_iff_ne]; omega
        have h13 : ((b : Int) == 13) = false := by rw [beq_eq_false_iff_ne]; omega
        clear hn hb ixl
        gi_wp2
        go_roundw
        case rel => exact ⟨k + 1, by trivial, by go_num, hlt⟩
        case measure => simp [Go.RowKit.intOf]; omega
      · obtain rfl : k = d := by omega
        clear ixl
        have fin : ∀ (m : Nat) (Z : World), Ct W0 (B + 2) B m Z → m = (if q < s.size then U.aft L q else q) → Fr (fun k => k = B + 1 ∨ (W0.heap.size ≤ k ∧ k < W0.heap.size + 2 + 0)) wr Z → roundEnd (fun k => k = B + 1 ∨ (W0.heap.size ≤ k ∧ k < W0.heap.size + 2 + 0)) (fun pre W => Ct W0 (B + 2) B (lnAt L pre) W) (fun _ _ _ => False) (pre ++ [(p, q)]) wr .normal ⟨#[], []⟩ Z := fun m Z h1 h2 h3 => ⟨h3, by
          show Ct W0 (B + 2) B (lnAt L (pre ++ [(p, q)])) Z
          rw [HX.out, ← h2]; exact h1⟩
        have FIN := Lib.hid fin
        clear fin HX
        have frs : ∀ v, Fr (fun k => k = B + 1 ∨ (W0.heap.size ≤ k ∧ k < W0.heap.size + 2 + 0)) wr (wr.setCell ⟨B, 0, none⟩ v) := fun v => (Fr.refl _ _).setCell _ _ (fun _ h => by simp at h; omega)
        by_cases hqs : q < s.size
        · have haf : U.aft L q = if U.by_ L q = 13 ∧ U.by_ L (q + 1) = 10 then q + 2 else q + 1 := rfl
          have ix1 := IX.out q hqs
          rcases (U.isEol_iff _).1 (e6 hqs) with hb1 | hb1
          · rw [hb1] at ix1 haf
            rw [if_neg (by omega)] at haf
            gi_wp2
            have h := FIN.out (q + 1) _ ((HT3.out.set q).set (q + 1)) (by rw [if_pos hqs]; exact haf.symm) ((frs _).setCell _ _ (fun _ h => by simp at h; omega))
            first | exact h | exact ⟨h.1.mono (fun k _ hk => by omega), h.2⟩
          · rw [hb1] at ix1 haf
            by_cases hq2 : q + 1 < s.size
            · have ix2 := IX.out (q + 1) hq2
              rw [show ((q + 1 : Nat) : Int) = (q : Int) + 1 by omega] at ix2
              obtain ⟨b2, hb2⟩ : ∃ b, U.by_ L (q + 1) = b := ⟨_, rfl⟩
              rw [hb2] at ix2 haf
              by_cases h10 : b2 = 10
              · subst h10
                rw [if_pos ⟨rfl, rfl⟩] at haf
                gi_wp2
                have h := FIN.out (q + 1 + 1) _ (((HT3.out.set q).set (q + 1)).set (q + 1 + 1)) (by rw [if_pos hqs]; exact haf.symm) (((frs _).setCell _ _ (fun _ h => by simp at h; omega)).setCell _ _ (fun _ h => by simp at h; omega))
                first | exact h | exact ⟨h.1.mono (fun k _ hk => by omega), h.2⟩
              · rw [if_neg (by omega)] at haf
                have hne : ((b2 : Int) == 10) = false := by rw [beq_eq_false_iff_ne]; omega
                gi_wp2
                have h := FIN.out (q + 1) _ ((HT3.out.set q).set (q + 1)) (by rw [if_pos hqs]; exact haf.symm) ((frs _).setCell _ _ (fun _ h => by simp at h; omega))
                first | exact h | exact ⟨h.1.mono (fun k _ hk => by omega), h.2⟩
            · have h0 : U.by_ L (q + 1) = 0 := U.by_out L (q + 1) (by omega)
              rw [h0, if_neg (by omega)] at haf
              gi_wp2
              have h := FIN.out (q + 1) _ ((HT3.out.set q).set (q + 1)) (by rw [if_pos hqs]; exact haf.symm) ((frs _).setCell _ _ (fun _ h => by simp at h; omega))
              first | exact h | exact ⟨h.1.mono (fun k _ hk => by omega), h.2⟩
        · have hqe : q = s.size := by omega
          have hne := hne0 (by omega)
          gi_wp2
          have h := FIN.out (s.size) _ (HT3.out.set s.size) (by rw [if_neg hqs]; exact hqe.symm) (frs _)
          first | exact h | exact ⟨h.1.mono (fun k _ hk => by omega), h.2⟩
  case done =>
    rintro W hT hD
    rw [LA.out] at hT
    have ca := (cell_of_block hT.box).1
    have cs := hT.cell hS (by simp; omega) (by simp; omega)
    have cr := (cell_of_block (hT.old hR (by omega) (by omega))).1
    have hTs := hT.fr.size
    have HT := Lib.hid hT
    clear hT
    go_wp2_with (go_at_call 19; refine (head_any _).mono ?_; rintro e w' ⟨rfl, hb⟩; have hT' := Lib.hid (HT.out.to (by omega) (Fr.of_below (S := fun k => k < W.heap.size) hb (fun k _ h => h)) (fun i hi => by omega)); have cr' := (cell_of_block (hT'.out.old hR (by omega) (by omega))).1; have fr' := (cell_of_block (hT'.out.old hR (by omega) (by omega))).2)
    have hDlt := (Array.getElem?_eq_some_iff.1 hD).1
    have hD' : w'.heap[W0.heap.size]? = some (.deferred (some [])) := (hb.block _ hDlt).trans hD
    rw [hz] at hD'
    refine ⟨by simp, .inl ⟨_, _, rfl, run_takeDeferred (by rw [Below.heap_setCell _ _ _ _ (by simp; omega)]; exact hD'), ?_⟩⟩
    have hRb := heap_setCell_same (hT'.out.old hR (by omega) (by omega)) (.bool true)
    have hRc : ((w'.setCell ⟨w.heap.size + 1, 0, none⟩ (.bool true)).putObj (B + 2) (Obj.deferred none)).cell? ⟨w.heap.size + 1, 0, none⟩ = some (.bool true) :=
      (cell_of_block ((World.putObj_heap_other (by omega)).trans hRb)).1
    refine ⟨.bool true, by simp [results, Try.results17, go_sem, hRc], rfl, ?_⟩
    have k1 : Below w.heap.size w W := hB0.trans (HT.out.fr.toBelow (fun k hk => by omega) (by omega))
    have k2 : Below w.heap.size w w' := k1.trans (hb.mono (by omega))
    exact ((Fr.of_below (S := fun k => k < w.heap.size) (k2.setCell (p := ⟨w.heap.size + 1, 0, none⟩) (by simp) _) (fun k _ h => h)).putObj _ _ (fun _ h => by omega)).toBelow (fun k h => h) (Nat.le_refl _)
end Go.Proofs.Ytokbmihjpllgpaa
