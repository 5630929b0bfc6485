/- The document's joins, cells. -/
import Derived.Test.YtclblidfamabdaaCellK
set_option linter.unusedVariables false
set_option linter.unusedSimpArgs false
namespace Go.Proofs.Ytclblidfamabdaa
open Go.RowKit Go.Shelf Go.Lib Go.BigFrame
attribute [local go_sem] Oper.semAt_some

/-- The runes of signs lie in a block. -/
def RunesC (W : World) (g : Nat) (l : List U.Tk) : Prop := ∀ (j : Nat), j < l.length → W.cell? ⟨g, j, none⟩ = some (.int .i32 (C.rune l j : Int))

set_option maxRecDepth 1000000 in
set_option maxHeartbeats 4000000 in
theorem joinsR_any (g cap : Nat) (l : List U.Tk) (frm k : Nat) (w : World) (hr : RunesC w g l) (h1 : frm < k) (h2 : k < l.length) (h3 : l.length ≤ 4194304) :
    Calls Try.prog 76 #[.slice (some ⟨g, 0, none⟩) l.length cap, .int .i64 (frm : Int), .int .i64 (k : Int)] w fun e w' => e = .returned (.bool (C.joins l frm k)) ∧ w = w' := by
  obtain ⟨j, rfl⟩ : ∃ j, k = j + 1 := ⟨k - 1, by omega⟩
  have c1 : w.cell? ⟨g, frm, none⟩ = some (.int .i32 (C.rune l frm : Int)) := hr frm (by omega)
  have c2 : w.cell? ⟨g, j + 1, none⟩ = some (.int .i32 (C.rune l (j + 1) : Int)) := hr (j + 1) h2
  have c3 : w.cell? ⟨g, j, none⟩ = some (.int .i32 (C.rune l j : Int)) := hr j (by omega)
  obtain ⟨T, hT⟩ : ∃ T, C.joins l frm (j + 1) = T := ⟨_, rfl⟩
  rw [hT]
  unfold C.joins at hT
  rw [Nat.add_sub_cancel] at hT
  generalize C.rune l frm = f at c1 hT
  generalize C.rune l (j + 1) = r at c2 hT
  generalize C.rune l j = p at c3 hT
  have WR_ := fun w => widthR_any (r : Int) w
  have WF_ := fun w => widthR_any (f : Int) w
  have CR_ := fun w => controlR_any (r : Int) w
  have CF_ := fun w => controlR_any (f : Int) w
  have FR_ := fun w => letter_any (r : Int) w
  have FF_ := fun w => letter_any (f : Int) w
  have hfw : C.flag (r : Int) = true → C.wid (r : Int) = 1 := C.flag_wid
  have hwr := C.wid_le (r : Int)
  generalize C.wid (r : Int) = wr at WR_ hT hwr hfw
  generalize C.wid (f : Int) = wf at WF_ hT
  generalize C.ctl (r : Int) = cr at CR_ hT
  generalize C.ctl (f : Int) = cf at CF_ hT
  generalize C.flag (r : Int) = fr at FR_ hT hfw
  generalize C.flag (f : Int) = ff at FF_ hT
  have WR := Lib.hid WR_
  have WF := Lib.hid WF_
  have CR := Lib.hid CR_
  have CF := Lib.hid CF_
  have FR := Lib.hid FR_
  have FF := Lib.hid FF_
  have HT := Lib.hid hT
  clear hT WR_ WF_ CR_ CF_ FR_ FF_ hr
  by_cases hA : wr = 0 ∧ cr = false ∧ cf = false
  · obtain ⟨rfl, rfl, rfl⟩ := hA
    go_enter Try.func76, Try.ntmps76
    go_wp2_with (first | (go_at_call 94; ((with_reducible refine (WR.out _).mono ?_); rintro e w' ⟨rfl, rfl⟩)) | (go_at_call 94; ((with_reducible refine (WF.out _).mono ?_); rintro e w' ⟨rfl, rfl⟩)) | (go_at_call 95; ((with_reducible refine (CR.out _).mono ?_); rintro e w' ⟨rfl, rfl⟩)) | (go_at_call 95; ((with_reducible refine (CF.out _).mono ?_); rintro e w' ⟨rfl, rfl⟩)) | (go_at_call 96; ((with_reducible refine (FR.out _).mono ?_); rintro e w' ⟨rfl, rfl⟩)) | (go_at_call 96; ((with_reducible refine (FF.out _).mono ?_); rintro e w' ⟨rfl, rfl⟩)))
    go_ret
    exact ⟨ret_bool (by rw [← HT.out]; rfl), rfl⟩
  have HT1 := Lib.hid ((if_neg hA).symm.trans HT.out)
  clear HT
  by_cases hB : wr = 2 ∧ p = 8205 ∧ wf = 2
  · obtain ⟨rfl, hp, rfl⟩ := hB
    have hp1 : ((p : Int) == 8205) = true := by rw [hp]; rfl
    have hp2 : (p : Int) = 8205 := by omega
    go_enter Try.func76, Try.ntmps76
    go_wp2_with (first | (go_at_call 94; ((with_reducible refine (WR.out _).mono ?_); rintro e w' ⟨rfl, rfl⟩)) | (go_at_call 94; ((with_reducible refine (WF.out _).mono ?_); rintro e w' ⟨rfl, rfl⟩)) | (go_at_call 95; ((with_reducible refine (CR.out _).mono ?_); rintro e w' ⟨rfl, rfl⟩)) | (go_at_call 95; ((with_reducible refine (CF.out _).mono ?_); rintro e w' ⟨rfl, rfl⟩)) | (go_at_call 96; ((with_reducible refine (FR.out _).mono ?_); rintro e w' ⟨rfl, rfl⟩)) | (go_at_call 96; ((with_reducible refine (FF.out _).mono ?_); rintro e w' ⟨rfl, rfl⟩)))
    go_ret
    exact ⟨ret_bool (by rw [← HT1.out]; simp [hp]), rfl⟩
  have HT2 := Lib.hid ((if_neg hB).symm.trans HT1.out)
  clear HT1
  have hcase : (wr = 0 ∧ cr = true) ∨ (wr = 0 ∧ cr = false ∧ cf = true) ∨ wr = 1 ∨ (wr = 2 ∧ p ≠ 8205) ∨ (wr = 2 ∧ p = 8205 ∧ wf ≠ 2) := by
    by_cases e0 : wr = 0
    · cases cr
      · cases cf
        · exact absurd ⟨e0, rfl, rfl⟩ hA
        · exact .inr (.inl ⟨e0, rfl, rfl⟩)
      · exact .inl ⟨e0, rfl⟩
    · by_cases e1 : wr = 1
      · exact .inr (.inr (.inl e1))
      · have e2 : wr = 2 := by omega
        by_cases e3 : p = 8205
        · exact .inr (.inr (.inr (.inr ⟨e2, e3, fun h => hB ⟨e2, e3, h⟩⟩)))
        · exact .inr (.inr (.inr (.inl ⟨e2, e3⟩)))
  clear hA hB hwr
  cases fr
  · rcases hcase with ⟨rfl, rfl⟩ | ⟨rfl, rfl, rfl⟩ | rfl | ⟨rfl, hp⟩ | ⟨rfl, hp, hw⟩
    · go_enter Try.func76, Try.ntmps76
      go_wp2_with (first | (go_at_call 94; ((with_reducible refine (WR.out _).mono ?_); rintro e w' ⟨rfl, rfl⟩)) | (go_at_call 94; ((with_reducible refine (WF.out _).mono ?_); rintro e w' ⟨rfl, rfl⟩)) | (go_at_call 95; ((with_reducible refine (CR.out _).mono ?_); rintro e w' ⟨rfl, rfl⟩)) | (go_at_call 95; ((with_reducible refine (CF.out _).mono ?_); rintro e w' ⟨rfl, rfl⟩)) | (go_at_call 96; ((with_reducible refine (FR.out _).mono ?_); rintro e w' ⟨rfl, rfl⟩)) | (go_at_call 96; ((with_reducible refine (FF.out _).mono ?_); rintro e w' ⟨rfl, rfl⟩)))
      go_ret
      exact ⟨ret_bool (by rw [← HT2.out]; rfl), rfl⟩
    · go_enter Try.func76, Try.ntmps76
      go_wp2_with (first | (go_at_call 94; ((with_reducible refine (WR.out _).mono ?_); rintro e w' ⟨rfl, rfl⟩)) | (go_at_call 94; ((with_reducible refine (WF.out _).mono ?_); rintro e w' ⟨rfl, rfl⟩)) | (go_at_call 95; ((with_reducible refine (CR.out _).mono ?_); rintro e w' ⟨rfl, rfl⟩)) | (go_at_call 95; ((with_reducible refine (CF.out _).mono ?_); rintro e w' ⟨rfl, rfl⟩)) | (go_at_call 96; ((with_reducible refine (FR.out _).mono ?_); rintro e w' ⟨rfl, rfl⟩)) | (go_at_call 96; ((with_reducible refine (FF.out _).mono ?_); rintro e w' ⟨rfl, rfl⟩)))
      go_ret
      exact ⟨ret_bool (by rw [← HT2.out]; rfl), rfl⟩
    · go_enter Try.func76, Try.ntmps76
      go_wp2_with (first | (go_at_call 94; ((with_reducible refine (WR.out _).mono ?_); rintro e w' ⟨rfl, rfl⟩)) | (go_at_call 94; ((with_reducible refine (WF.out _).mono ?_); rintro e w' ⟨rfl, rfl⟩)) | (go_at_call 95; ((with_reducible refine (CR.out _).mono ?_); rintro e w' ⟨rfl, rfl⟩)) | (go_at_call 95; ((with_reducible refine (CF.out _).mono ?_); rintro e w' ⟨rfl, rfl⟩)) | (go_at_call 96; ((with_reducible refine (FR.out _).mono ?_); rintro e w' ⟨rfl, rfl⟩)) | (go_at_call 96; ((with_reducible refine (FF.out _).mono ?_); rintro e w' ⟨rfl, rfl⟩)))
      go_ret
      exact ⟨ret_bool (by rw [← HT2.out]; rfl), rfl⟩
    · have hp1 : ((p : Int) == 8205) = false := by simp; omega
      go_enter Try.func76, Try.ntmps76
      go_wp2_with (first | (go_at_call 94; ((with_reducible refine (WR.out _).mono ?_); rintro e w' ⟨rfl, rfl⟩)) | (go_at_call 94; ((with_reducible refine (WF.out _).mono ?_); rintro e w' ⟨rfl, rfl⟩)) | (go_at_call 95; ((with_reducible refine (CR.out _).mono ?_); rintro e w' ⟨rfl, rfl⟩)) | (go_at_call 95; ((with_reducible refine (CF.out _).mono ?_); rintro e w' ⟨rfl, rfl⟩)) | (go_at_call 96; ((with_reducible refine (FR.out _).mono ?_); rintro e w' ⟨rfl, rfl⟩)) | (go_at_call 96; ((with_reducible refine (FF.out _).mono ?_); rintro e w' ⟨rfl, rfl⟩)))
      go_ret
      exact ⟨ret_bool (by rw [← HT2.out]; rfl), rfl⟩
    · have hp1 : ((p : Int) == 8205) = true := by rw [hp]; rfl
      have hw1 : ((wf : Int) == 2) = false := by simp; omega
      go_enter Try.func76, Try.ntmps76
      go_wp2_with (first | (go_at_call 94; ((with_reducible refine (WR.out _).mono ?_); rintro e w' ⟨rfl, rfl⟩)) | (go_at_call 94; ((with_reducible refine (WF.out _).mono ?_); rintro e w' ⟨rfl, rfl⟩)) | (go_at_call 95; ((with_reducible refine (CR.out _).mono ?_); rintro e w' ⟨rfl, rfl⟩)) | (go_at_call 95; ((with_reducible refine (CF.out _).mono ?_); rintro e w' ⟨rfl, rfl⟩)) | (go_at_call 96; ((with_reducible refine (FR.out _).mono ?_); rintro e w' ⟨rfl, rfl⟩)) | (go_at_call 96; ((with_reducible refine (FF.out _).mono ?_); rintro e w' ⟨rfl, rfl⟩)))
      go_ret
      exact ⟨ret_bool (by rw [← HT2.out]; rfl), rfl⟩
  · obtain rfl := hfw rfl
    clear hcase hfw c3
    by_cases hk : j = frm
    · subst hk
      go_enter Try.func76, Try.ntmps76
      go_wp2_with (first | (go_at_call 94; ((with_reducible refine (WR.out _).mono ?_); rintro e w' ⟨rfl, rfl⟩)) | (go_at_call 94; ((with_reducible refine (WF.out _).mono ?_); rintro e w' ⟨rfl, rfl⟩)) | (go_at_call 95; ((with_reducible refine (CR.out _).mono ?_); rintro e w' ⟨rfl, rfl⟩)) | (go_at_call 95; ((with_reducible refine (CF.out _).mono ?_); rintro e w' ⟨rfl, rfl⟩)) | (go_at_call 96; ((with_reducible refine (FR.out _).mono ?_); rintro e w' ⟨rfl, rfl⟩)) | (go_at_call 96; ((with_reducible refine (FF.out _).mono ?_); rintro e w' ⟨rfl, rfl⟩)))
      go_ret
      exact ⟨ret_bool (by rw [← HT2.out]; simp), rfl⟩
    · have hk1 : ((j : Int) == (frm : Int)) = false := by simp; omega
      have hk2 : ((j : Int) + 1 == (frm : Int) + 1) = false := by simp; omega
      go_enter Try.func76, Try.ntmps76
      go_wp2_with (first | (go_at_call 94; ((with_reducible refine (WR.out _).mono ?_); rintro e w' ⟨rfl, rfl⟩)) | (go_at_call 94; ((with_reducible refine (WF.out _).mono ?_); rintro e w' ⟨rfl, rfl⟩)) | (go_at_call 95; ((with_reducible refine (CR.out _).mono ?_); rintro e w' ⟨rfl, rfl⟩)) | (go_at_call 95; ((with_reducible refine (CF.out _).mono ?_); rintro e w' ⟨rfl, rfl⟩)) | (go_at_call 96; ((with_reducible refine (FR.out _).mono ?_); rintro e w' ⟨rfl, rfl⟩)) | (go_at_call 96; ((with_reducible refine (FF.out _).mono ?_); rintro e w' ⟨rfl, rfl⟩)))
      go_ret
      exact ⟨ret_bool (by rw [← HT2.out]; simp [hk]), rfl⟩

set_option maxRecDepth 1000000 in
set_option maxHeartbeats 4000000 in
theorem cellsR_any (g cap : Nat) (l : List U.Tk) (frm tz : Nat) (w : World) (hr : RunesC w g l) (h1 : frm < tz) (h2 : tz ≤ l.length) (h3 : l.length ≤ 4194304) :
    Calls Try.prog 77 #[.slice (some ⟨g, 0, none⟩) l.length cap, .int .i64 (frm : Int), .int .i64 (tz : Int)] w fun e w' => e = .returned (.int .i64 (C.cellsOf l frm tz : Int)) ∧ w = w' := by
  have c1 : w.cell? ⟨g, frm, none⟩ = some (.int .i32 (C.rune l frm : Int)) := hr frm (by omega)
  obtain ⟨T, hT⟩ : ∃ T, C.cellsOf l frm tz = T := ⟨_, rfl⟩
  rw [hT]
  have hm1 := C.hasMark_one l frm
  have hms := fun i hi => C.hasMark_succ l frm i hi
  unfold C.cellsOf at hT
  obtain ⟨f, hf⟩ : ∃ f, C.rune l frm = f := ⟨_, rfl⟩
  rw [hf] at c1 hT
  have WF_ := fun w => widthR_any (f : Int) w
  have FF_ := fun w => letter_any (f : Int) w
  generalize C.wid (f : Int) = wf at WF_ hT
  generalize C.flag (f : Int) = ff at FF_ hT
  have WF := Lib.hid WF_
  have FF := Lib.hid FF_
  clear WF_ FF_
  by_cases hA : 1 < tz - frm ∧ ff = true ∧ C.flag (C.rune l (frm + 1) : Int) = true
  · obtain ⟨hA1, rfl, hA3⟩ := hA
    have c2 : w.cell? ⟨g, frm + 1, none⟩ = some (.int .i32 (C.rune l (frm + 1) : Int)) := hr (frm + 1) (by omega)
    generalize C.rune l (frm + 1) = f2 at c2 hA3 hT
    have F2_ := fun w => letter_any (f2 : Int) w
    rw [hA3] at F2_ hT
    have F2 := Lib.hid F2_
    have HT := Lib.hid hT
    clear F2_ hT hr hm1 hms hA3
    go_enter Try.func77, Try.ntmps77
    go_wp2_with (first | (go_at_call 96; ((with_reducible refine (FF.out _).mono ?_); rintro e w' ⟨rfl, rfl⟩)) | (go_at_call 96; ((with_reducible refine (F2.out _).mono ?_); rintro e w' ⟨rfl, rfl⟩)))
    go_ret
    exact ⟨ret_int (by rw [← HT.out, decide_eq_true hA1]; rfl), rfl⟩
  have hAf : (decide (1 < tz - frm) && ff && C.flag (C.rune l (frm + 1) : Int)) = false := by
    rw [Bool.eq_false_iff]
    intro h
    simp only [Bool.and_eq_true, decide_eq_true_eq] at h
    exact hA ⟨h.1.1, h.1.2, h.2⟩
  rw [hAf] at hT
  have HT := Lib.hid (show (if (C.isArrow f && C.hasMark l frm tz) = true then 2 else wf) = T from hT)
  clear hT hAf
  have HM1 := Lib.hid hm1
  have HMS := Lib.hid hms
  have HR := Lib.hid hr
  clear hm1 hms
  -- the tail: arrows
  have hpre : (tz - frm ≤ 1) ∨ (1 < tz - frm ∧ ff = false) ∨ (1 < tz - frm ∧ ff = true ∧ C.flag (C.rune l (frm + 1) : Int) = false) := by
    by_cases e1 : 1 < tz - frm
    · cases ff
      · exact .inr (.inl ⟨e1, rfl⟩)
      · refine .inr (.inr ⟨e1, rfl, ?_⟩)
        cases e : C.flag (C.rune l (frm + 1) : Int) with
        | false => rfl
        | true => exact absurd ⟨e1, rfl, e⟩ hA
    · exact .inl (by omega)
  clear hA hr
  rcases hpre with e1 | ⟨e1, rfl⟩ | ⟨e1, rfl, e3⟩
  · have g1 : decide ((1 : Int) < (tz : Int) - (frm : Int)) = false := decide_eq_false (by omega)
    go_enter Try.func77, Try.ntmps77
    by_cases a1 : 8592 ≤ f
    · by_cases a2 : f ≤ 11263
      · have ar : C.isArrow f = true := by simp [C.isArrow, a1, a2]
        have HT2 := HT.out
        rw [ar, Bool.true_and] at HT2
        have HT2 := Lib.hid HT2
        clear ar
        go_wp2_with (first | (go_at_call 96; ((with_reducible refine (FF.out _).mono ?_); rintro e w' ⟨rfl, rfl⟩)) | (go_at_call 94; ((with_reducible refine (WF.out _).mono ?_); rintro e w' ⟨rfl, rfl⟩)))
        go_loopw [7] (fun i wr => ∃ k : Nat, wr = w ∧ i = .int .i64 (k : Int) ∧ frm + 1 ≤ k ∧ k ≤ tz ∧ Hid (C.hasMark l frm k = false)) (fun i _ => tz - (RowKit.intOf i).toNat)
        case atStart => exact ⟨frm + 1, rfl, by go_num, Nat.le_refl _, h1, Lib.hid HM1.out⟩
        case round =>
          obtain ⟨k, rfl, rfl, hk1, hk2, hm⟩ := hrel
          by_cases hlt : k < tz
          · have c3 : wr.cell? ⟨g, k, none⟩ = some (.int .i32 (C.rune l k : Int)) := HR.out k (by omega)
            by_cases hmk : C.rune l k = 65039
            · have hmi : ((C.rune l k : Int) == 65039) = true := by rw [hmk]; rfl
              go_wp2_with (first | (go_at_call 96; ((with_reducible refine (FF.out _).mono ?_); rintro e w' ⟨rfl, rfl⟩)) | (go_at_call 94; ((with_reducible refine (WF.out _).mono ?_); rintro e w' ⟨rfl, rfl⟩)))
              go_ret
              refine ⟨ret_int ?_, rfl⟩
              have := HT2.out
              rw [C.hasMark_of l frm tz k (by omega) hlt hmk] at this
              rw [← this]; rfl
            · have hmi : ((C.rune l k : Int) == 65039) = false := by simp; omega
              go_wp2_with (first | (go_at_call 96; ((with_reducible refine (FF.out _).mono ?_); rintro e w' ⟨rfl, rfl⟩)) | (go_at_call 94; ((with_reducible refine (WF.out _).mono ?_); rintro e w' ⟨rfl, rfl⟩)))
              go_roundw
              case rel => exact ⟨k + 1, by trivial, by go_num, by omega, hlt, Lib.hid (by rw [HMS.out k (by omega), hm.out]; simp [hmk])⟩
              case measure => simp [RowKit.intOf]; omega
          · obtain rfl : k = tz := by omega
            go_wp2_with (first | (go_at_call 96; ((with_reducible refine (FF.out _).mono ?_); rintro e w' ⟨rfl, rfl⟩)) | (go_at_call 94; ((with_reducible refine (WF.out _).mono ?_); rintro e w' ⟨rfl, rfl⟩)))
            go_ret
            exact ⟨ret_int (by rw [← HT2.out, hm.out]; rfl), rfl⟩
      · have ar : C.isArrow f = false := by simp [C.isArrow, a2]
        have HT2 := HT.out
        rw [ar, Bool.false_and] at HT2
        have HT2 := Lib.hid HT2
        clear ar
        go_wp2_with (first | (go_at_call 96; ((with_reducible refine (FF.out _).mono ?_); rintro e w' ⟨rfl, rfl⟩)) | (go_at_call 94; ((with_reducible refine (WF.out _).mono ?_); rintro e w' ⟨rfl, rfl⟩)))
        go_ret
        exact ⟨ret_int (by rw [← HT2.out]; rfl), rfl⟩
    · have ar : C.isArrow f = false := by simp [C.isArrow, a1]
      have a3 : decide ((8592 : Int) ≤ (f : Int)) = false := decide_eq_false (by omega)
      have HT2 := HT.out
      rw [ar, Bool.false_and] at HT2
      have HT2 := Lib.hid HT2
      clear ar
      go_wp2_with (first | (go_at_call 96; ((with_reducible refine (FF.out _).mono ?_); rintro e w' ⟨rfl, rfl⟩)) | (go_at_call 94; ((with_reducible refine (WF.out _).mono ?_); rintro e w' ⟨rfl, rfl⟩)))
      go_ret
      exact ⟨ret_int (by rw [← HT2.out]; rfl), rfl⟩
  · go_enter Try.func77, Try.ntmps77
    by_cases a1 : 8592 ≤ f
    · by_cases a2 : f ≤ 11263
      · have ar : C.isArrow f = true := by simp [C.isArrow, a1, a2]
        have HT2 := HT.out
        rw [ar, Bool.true_and] at HT2
        have HT2 := Lib.hid HT2
        clear ar
        go_wp2_with (first | (go_at_call 96; ((with_reducible refine (FF.out _).mono ?_); rintro e w' ⟨rfl, rfl⟩)) | (go_at_call 94; ((with_reducible refine (WF.out _).mono ?_); rintro e w' ⟨rfl, rfl⟩)))
        go_loopw [7] (fun i wr => ∃ k : Nat, wr = w ∧ i = .int .i64 (k : Int) ∧ frm + 1 ≤ k ∧ k ≤ tz ∧ Hid (C.hasMark l frm k = false)) (fun i _ => tz - (RowKit.intOf i).toNat)
        case atStart => exact ⟨frm + 1, rfl, by go_num, Nat.le_refl _, h1, Lib.hid HM1.out⟩
        case round =>
          obtain ⟨k, rfl, rfl, hk1, hk2, hm⟩ := hrel
          by_cases hlt : k < tz
          · have c3 : wr.cell? ⟨g, k, none⟩ = some (.int .i32 (C.rune l k : Int)) := HR.out k (by omega)
            by_cases hmk : C.rune l k = 65039
            · have hmi : ((C.rune l k : Int) == 65039) = true := by rw [hmk]; rfl
              go_wp2_with (first | (go_at_call 96; ((with_reducible refine (FF.out _).mono ?_); rintro e w' ⟨rfl, rfl⟩)) | (go_at_call 94; ((with_reducible refine (WF.out _).mono ?_); rintro e w' ⟨rfl, rfl⟩)))
              go_ret
              refine ⟨ret_int ?_, rfl⟩
              have := HT2.out
              rw [C.hasMark_of l frm tz k (by omega) hlt hmk] at this
              rw [← this]; rfl
            · have hmi : ((C.rune l k : Int) == 65039) = false := by simp; omega
              go_wp2_with (first | (go_at_call 96; ((with_reducible refine (FF.out _).mono ?_); rintro e w' ⟨rfl, rfl⟩)) | (go_at_call 94; ((with_reducible refine (WF.out _).mono ?_); rintro e w' ⟨rfl, rfl⟩)))
              go_roundw
              case rel => exact ⟨k + 1, by trivial, by go_num, by omega, hlt, Lib.hid (by rw [HMS.out k (by omega), hm.out]; simp [hmk])⟩
              case measure => simp [RowKit.intOf]; omega
          · obtain rfl : k = tz := by omega
            go_wp2_with (first | (go_at_call 96; ((with_reducible refine (FF.out _).mono ?_); rintro e w' ⟨rfl, rfl⟩)) | (go_at_call 94; ((with_reducible refine (WF.out _).mono ?_); rintro e w' ⟨rfl, rfl⟩)))
            go_ret
            exact ⟨ret_int (by rw [← HT2.out, hm.out]; rfl), rfl⟩
      · have ar : C.isArrow f = false := by simp [C.isArrow, a2]
        have HT2 := HT.out
        rw [ar, Bool.false_and] at HT2
        have HT2 := Lib.hid HT2
        clear ar
        go_wp2_with (first | (go_at_call 96; ((with_reducible refine (FF.out _).mono ?_); rintro e w' ⟨rfl, rfl⟩)) | (go_at_call 94; ((with_reducible refine (WF.out _).mono ?_); rintro e w' ⟨rfl, rfl⟩)))
        go_ret
        exact ⟨ret_int (by rw [← HT2.out]; rfl), rfl⟩
    · have ar : C.isArrow f = false := by simp [C.isArrow, a1]
      have a3 : decide ((8592 : Int) ≤ (f : Int)) = false := decide_eq_false (by omega)
      have HT2 := HT.out
      rw [ar, Bool.false_and] at HT2
      have HT2 := Lib.hid HT2
      clear ar
      go_wp2_with (first | (go_at_call 96; ((with_reducible refine (FF.out _).mono ?_); rintro e w' ⟨rfl, rfl⟩)) | (go_at_call 94; ((with_reducible refine (WF.out _).mono ?_); rintro e w' ⟨rfl, rfl⟩)))
      go_ret
      exact ⟨ret_int (by rw [← HT2.out]; rfl), rfl⟩
  · have c2 : w.cell? ⟨g, frm + 1, none⟩ = some (.int .i32 (C.rune l (frm + 1) : Int)) := HR.out (frm + 1) (by omega)
    have F2_ := fun w => letter_any (C.rune l (frm + 1) : Int) w
    rw [e3] at F2_
    have F2 := Lib.hid F2_
    clear F2_ e3
    go_enter Try.func77, Try.ntmps77
    by_cases a1 : 8592 ≤ f
    · by_cases a2 : f ≤ 11263
      · have ar : C.isArrow f = true := by simp [C.isArrow, a1, a2]
        have HT2 := HT.out
        rw [ar, Bool.true_and] at HT2
        have HT2 := Lib.hid HT2
        clear ar
        go_wp2_with (first | (go_at_call 96; ((with_reducible refine (FF.out _).mono ?_); rintro e w' ⟨rfl, rfl⟩)) | (go_at_call 96; ((with_reducible refine (F2.out _).mono ?_); rintro e w' ⟨rfl, rfl⟩)) | (go_at_call 94; ((with_reducible refine (WF.out _).mono ?_); rintro e w' ⟨rfl, rfl⟩)))
        go_loopw [7] (fun i wr => ∃ k : Nat, wr = w ∧ i = .int .i64 (k : Int) ∧ frm + 1 ≤ k ∧ k ≤ tz ∧ Hid (C.hasMark l frm k = false)) (fun i _ => tz - (RowKit.intOf i).toNat)
        case atStart => exact ⟨frm + 1, rfl, by go_num, Nat.le_refl _, h1, Lib.hid HM1.out⟩
        case round =>
          obtain ⟨k, rfl, rfl, hk1, hk2, hm⟩ := hrel
          by_cases hlt : k < tz
          · have c3 : wr.cell? ⟨g, k, none⟩ = some (.int .i32 (C.rune l k : Int)) := HR.out k (by omega)
            by_cases hmk : C.rune l k = 65039
            · have hmi : ((C.rune l k : Int) == 65039) = true := by rw [hmk]; rfl
              go_wp2_with (first | (go_at_call 96; ((with_reducible refine (FF.out _).mono ?_); rintro e w' ⟨rfl, rfl⟩)) | (go_at_call 96; ((with_reducible refine (F2.out _).mono ?_); rintro e w' ⟨rfl, rfl⟩)) | (go_at_call 94; ((with_reducible refine (WF.out _).mono ?_); rintro e w' ⟨rfl, rfl⟩)))
              go_ret
              refine ⟨ret_int ?_, rfl⟩
              have := HT2.out
              rw [C.hasMark_of l frm tz k (by omega) hlt hmk] at this
              rw [← this]; rfl
            · have hmi : ((C.rune l k : Int) == 65039) = false := by simp; omega
              go_wp2_with (first | (go_at_call 96; ((with_reducible refine (FF.out _).mono ?_); rintro e w' ⟨rfl, rfl⟩)) | (go_at_call 96; ((with_reducible refine (F2.out _).mono ?_); rintro e w' ⟨rfl, rfl⟩)) | (go_at_call 94; ((with_reducible refine (WF.out _).mono ?_); rintro e w' ⟨rfl, rfl⟩)))
              go_roundw
              case rel => exact ⟨k + 1, by trivial, by go_num, by omega, hlt, Lib.hid (by rw [HMS.out k (by omega), hm.out]; simp [hmk])⟩
              case measure => simp [RowKit.intOf]; omega
          · obtain rfl : k = tz := by omega
            go_wp2_with (first | (go_at_call 96; ((with_reducible refine (FF.out _).mono ?_); rintro e w' ⟨rfl, rfl⟩)) | (go_at_call 96; ((with_reducible refine (F2.out _).mono ?_); rintro e w' ⟨rfl, rfl⟩)) | (go_at_call 94; ((with_reducible refine (WF.out _).mono ?_); rintro e w' ⟨rfl, rfl⟩)))
            go_ret
            exact ⟨ret_int (by rw [← HT2.out, hm.out]; rfl), rfl⟩
      · have ar : C.isArrow f = false := by simp [C.isArrow, a2]
        have HT2 := HT.out
        rw [ar, Bool.false_and] at HT2
        have HT2 := Lib.hid HT2
        clear ar
        go_wp2_with (first | (go_at_call 96; ((with_reducible refine (FF.out _).mono ?_); rintro e w' ⟨rfl, rfl⟩)) | (go_at_call 96; ((with_reducible refine (F2.out _).mono ?_); rintro e w' ⟨rfl, rfl⟩)) | (go_at_call 94; ((with_reducible refine (WF.out _).mono ?_); rintro e w' ⟨rfl, rfl⟩)))
        go_ret
        exact ⟨ret_int (by rw [← HT2.out]; rfl), rfl⟩
    · have ar : C.isArrow f = false := by simp [C.isArrow, a1]
      have a3 : decide ((8592 : Int) ≤ (f : Int)) = false := decide_eq_false (by omega)
      have HT2 := HT.out
      rw [ar, Bool.false_and] at HT2
      have HT2 := Lib.hid HT2
      clear ar
      go_wp2_with (first | (go_at_call 96; ((with_reducible refine (FF.out _).mono ?_); rintro e w' ⟨rfl, rfl⟩)) | (go_at_call 96; ((with_reducible refine (F2.out _).mono ?_); rintro e w' ⟨rfl, rfl⟩)) | (go_at_call 94; ((with_reducible refine (WF.out _).mono ?_); rintro e w' ⟨rfl, rfl⟩)))
      go_ret
      exact ⟨ret_int (by rw [← HT2.out]; rfl), rfl⟩
end Go.Proofs.Ytclblidfamabdaa
