/- The document's Lines. -/
import Derived.Test.YtokbmihjpllgpaaLines
set_option linter.unusedVariables false
set_option linter.unusedSimpArgs false
namespace Go.Proofs.Ytokbmihjpllgpaa
open Go.RowKit Go.Shelf Go.Lib
attribute [local go_sem] Oper.semAt_some

/-- A line's cells. -/
def cellL (s : ByteArray) (x : Nat × Nat) : List Value := [.int .i64 (x.1 : Int), .string (lnS s x)]
def cellsL (s : ByteArray) (l : List (Nat × Nat)) : List Value := l.flatMap (cellL s)
theorem cellsL_snoc (s : ByteArray) (l : List (Nat × Nat)) (x : Nat × Nat) : cellsL s (l ++ [x]) = cellsL s l ++ cellL s x := by simp [cellsL]
theorem Try.infoLn : (Try.prog.info? 64).map (fun i => (i.zero, i.size, i.bytes)) = some (some (.agg #[.int .i64 0, .string ⟨#[]⟩]), 2, 24) := by kernel_rfl

set_option maxRecDepth 1000000 in
set_option maxHeartbeats 8000000 in
theorem linesR_any (s : ByteArray) (w : World) (hs : s.size ≤ 4194304) :
    Calls Try.prog 47 #[.string s] w fun e w' => ∃ v, e = .returned v ∧ Below w.heap.size w w' ∧
      w'.ownsRow w.heap.size 64 2 v (U.lns s.data.toList 0).length (cellsL s (U.lns s.data.toList 0)) := by
  obtain ⟨i0, hi, hz0, hz1, hz2⟩ := info_parts Try.infoLn
  obtain ⟨L, hL⟩ : ∃ L, s.data.toList = L := ⟨_, rfl⟩
  have hLz : L.length = s.size := by rw [← hL, U.size_eq]
  have IX := Lib.hid (fun q h => by have := ix_by s q h; rw [hL] at this; exact this)
  rw [hL]
  clear hL
  go_enter Try.func47, Try.ntmps47
  go_wp2
  go_loopw [3, 4, 5] (fun o f i wr => ∃ (frm pos : Nat) (pre : List (Nat × Nat)), f = .int .i64 (frm : Int) ∧ i = .int .i64 (pos : Int) ∧ frm ≤ pos ∧ pos ≤ s.size ∧ Below w.heap.size w wr ∧ wr.ownsRow w.heap.size 64 2 o pre.length (cellsL s pre) ∧ Hid (U.lns L 0 = pre ++ U.lns L frm) ∧ pre.length ≤ frm ∧ Hid (∀ j, frm ≤ j → j < pos → U.isEol (U.by_ L j) = false)) (fun _ _ i _ => s.size - (Go.RowKit.intOf i).toNat)
  case atStart => exact ⟨0, 0, [], rfl, rfl, Nat.le_refl _, Nat.zero_le _, Below.refl _ _, World.ownsRow_nil _ _ _ _, Lib.hid rfl, Nat.le_refl _, Lib.hid (fun j h1 h2 => by omega)⟩
  case round =>
    obtain ⟨frm, pos, pre, rfl, rfl, hfp, hps, hB, hrow, hx, hpl, hno⟩ := hrel
    have hBs := hB.size
    by_cases hp : pos < s.size
    · have ix1 := IX.out pos hp
      obtain ⟨b1, hb1⟩ : ∃ b, U.by_ L pos = b := ⟨_, rfl⟩
      rw [hb1] at ix1
      by_cases he : U.isEol b1 = true
      · have hnx := U.nxt_is L frm pos hfp (by omega) hno.out (by rw [hb1]; exact he)
        have hcons := U.lns_cons L frm (by omega) (by omega)
        rw [hnx] at hcons
        obtain ⟨haf1, haf2⟩ := U.aft_le L pos (by omega)
        have haf : U.aft L pos = if U.by_ L pos = 13 ∧ U.by_ L (pos + 1) = 10 then pos + 2 else pos + 1 := rfl
        rw [hb1] at haf
        obtain ⟨a, ha⟩ : ∃ a, U.aft L pos = a := ⟨_, rfl⟩
        rw [ha] at hcons haf haf1 haf2
        have HX := Lib.hid (show U.lns L 0 = (pre ++ [(frm, pos)]) ++ U.lns L a by rw [hx.out, hcons]; simp)
        have hsl : ∀ w, (Instr.slice 9 (.string s) (some (.int .i64 (frm : Int))) (some (.int .i64 (pos : Int))) none).run Try.prog w = .ok (.string (s.extract frm pos)) w := fun w => by
          have := run_slice_string (P := Try.prog) (w := w) 9 s .i64 .i64 (frm : Int) (pos : Int) Try.underlying9 (by omega) (by omega) (by omega)
          rw [this, Int.toNat_natCast, Int.toNat_natCast]
        have ix2 : ∀ (h : pos + 1 < s.size), ∀ w, (Instr.index 9 (.string s) (.int .i64 ((pos : Int) + 1))).run Try.prog w = .ok (.int .u8 (U.by_ L (pos + 1) : Int)) w := fun h => IX.out (pos + 1) h
        clear hcons hnx hx hno
        have hlt : ∀ k, Value.ownBlock u3 = some k → w.heap.size ≤ k ∧ k < wr.heap.size := fun k e => hrow.lt k e
        rcases (U.isEol_iff b1).1 he with rfl | rfl
        · rw [if_neg (by omega)] at haf
          subst haf
          go_wp2_with (at_builtin; go_must (refine wpList_append_own _ rfl _ _ 58 rfl w.heap.size 64 i0 _ 2 24 Try.underlying58 hi hz0 hz1 hz2 rfl (by decide) _ _ _ rfl (hrow.alloc _) ⟨wr.heap.size, 0, none⟩ 1 1 (cellL s (frm, pos)) rfl rfl (World.news_of_block (World.alloc_heap_new wr _)) (by simp [cellL, Value.oneCell']) (by unfold maxLen; omega) (by omega) (by simp; omega) ?_); intro v' w2 hown hg _; have hb2 : Below w.heap.size w w2 := (hB.alloc hBs _).grown hg (by simp; omega) (fun k e => by have := (hrow.lt k e).1; omega))
          go_roundw
          case rel => exact ⟨pos + 1, pos + 1, pre ++ [(frm, pos)], by go_num, by go_num, Nat.le_refl _, hp, hb2, by rw [List.length_append, cellsL_snoc]; exact hown, HX, by simp; omega, Lib.hid (fun j h1 h2 => by omega)⟩
          case measure => simp [Go.RowKit.intOf]; omega
        · by_cases hq2 : pos + 1 < s.size
          · have ix2 := ix2 hq2
            obtain ⟨b2, hb2⟩ : ∃ b, U.by_ L (pos + 1) = b := ⟨_, rfl⟩
            rw [hb2] at ix2 haf
            by_cases h10 : b2 = 10
            · subst h10
              rw [if_pos ⟨rfl, rfl⟩] at haf
              subst haf
              go_wp2_with (at_builtin; go_must (refine wpList_append_own _ rfl _ _ 58 rfl w.heap.size 64 i0 _ 2 24 Try.underlying58 hi hz0 hz1 hz2 rfl (by decide) _ _ _ rfl (hrow.alloc _) ⟨wr.heap.size, 0, none⟩ 1 1 (cellL s (frm, pos)) rfl rfl (World.news_of_block (World.alloc_heap_new wr _)) (by simp [cellL, Value.oneCell']) (by unfold maxLen; omega) (by omega) (by simp; omega) ?_); intro v' w2 hown hg _; have hb2 : Below w.heap.size w w2 := (hB.alloc hBs _).grown hg (by simp; omega) (fun k e => by have := (hrow.lt k e).1; omega))
              go_roundw
              case rel => exact ⟨pos + 2, pos + 2, pre ++ [(frm, pos)], by go_num, by go_num, Nat.le_refl _, by omega, hb2, by rw [List.length_append, cellsL_snoc]; exact hown, HX, by simp; omega, Lib.hid (fun j h1 h2 => by omega)⟩
              case measure => simp [Go.RowKit.intOf]; omega
            · rw [if_neg (by omega)] at haf
              subst haf
              have hne : ((b2 : Int) == 10) = false := by rw [beq_eq_false_iff_ne]; omega
              go_wp2_with (at_builtin; go_must (refine wpList_append_own _ rfl _ _ 58 rfl w.heap.size 64 i0 _ 2 24 Try.underlying58 hi hz0 hz1 hz2 rfl (by decide) _ _ _ rfl (hrow.alloc _) ⟨wr.heap.size, 0, none⟩ 1 1 (cellL s (frm, pos)) rfl rfl (World.news_of_block (World.alloc_heap_new wr _)) (by simp [cellL, Value.oneCell']) (by unfold maxLen; omega) (by omega) (by simp; omega) ?_); intro v' w2 hown hg _; have hb2 : Below w.heap.size w w2 := (hB.alloc hBs _).grown hg (by simp; omega) (fun k e => by have := (hrow.lt k e).1; omega))
              go_roundw
              case rel => exact ⟨pos + 1, pos + 1, pre ++ [(frm, pos)], by go_num, by go_num, Nat.le_refl _, by omega, hb2, by rw [List.length_append, cellsL_snoc]; exact hown, HX, by simp; omega, Lib.hid (fun j h1 h2 => by omega)⟩
              case measure => simp [Go.RowKit.intOf]; omega
          · have h0 : U.by_ L (pos + 1) = 0 := U.by_out L (pos + 1) (by omega)
            rw [h0, if_neg (by omega)] at haf
            subst haf
            go_wp2_with (at_builtin; go_must (refine wpList_append_own _ rfl _ _ 58 rfl w.heap.size 64 i0 _ 2 24 Try.underlying58 hi hz0 hz1 hz2 rfl (by decide) _ _ _ rfl (hrow.alloc _) ⟨wr.heap.size, 0, none⟩ 1 1 (cellL s (frm, pos)) rfl rfl (World.news_of_block (World.alloc_heap_new wr _)) (by simp [cellL, Value.oneCell']) (by unfold maxLen; omega) (by omega) (by simp; omega) ?_); intro v' w2 hown hg _; have hb2 : Below w.heap.size w w2 := (hB.alloc hBs _).grown hg (by simp; omega) (fun k e => by have := (hrow.lt k e).1; omega))
            go_roundw
            case rel => exact ⟨pos + 1, pos + 1, pre ++ [(frm, pos)], by go_num, by go_num, Nat.le_refl _, by omega, hb2, by rw [List.length_append, cellsL_snoc]; exact hown, HX, by simp; omega, Lib.hid (fun j h1 h2 => by omega)⟩
            case measure => simp [Go.RowKit.intOf]; omega
      · have he' : U.isEol b1 = false := by simpa using he
        have hno2 : ∀ j, frm ≤ j → j < pos + 1 → U.isEol (U.by_ L j) = false := fun j h1 h2 => by
          by_cases e : j = pos
          · subst e; rw [hb1]; exact he'
          · exact hno.out j h1 (by omega)
        have HNO := Lib.hid hno2
        have h10 : ((b1 : Int) != 10) = true := by
          simp only [U.isEol, Bool.or_eq_false_iff, beq_eq_false_iff_ne] at he'
          simp; omega
        have h13 : ((b1 : Int) != 13) = true := by
          simp only [U.isEol, Bool.or_eq_false_iff, beq_eq_false_iff_ne] at he'
          simp; omega
        clear hno2 he he' hb1
        go_wp2
        go_roundw
        case rel => exact ⟨frm, pos + 1, pre, by trivial, by go_num, by omega, hp, hB, hrow, hx, hpl, HNO⟩
        case measure => simp [Go.RowKit.intOf]; omega
    · obtain rfl : pos = s.size := by omega
      by_cases hf : frm < s.size
      · have hnx := U.nxt_end L frm (by omega) (by rw [hLz]; exact hno.out)
        have hlast := U.lns_last L frm (by omega) (by omega)
        have HX := Lib.hid (show U.lns L 0 = pre ++ [(frm, s.size)] by rw [hx.out, hlast, hLz])
        clear hnx hlast hx hno
        go_wp2_with (at_builtin; go_must (refine wpList_append_own _ rfl _ _ 58 rfl w.heap.size 64 i0 _ 2 24 Try.underlying58 hi hz0 hz1 hz2 rfl (by decide) _ _ _ rfl (hrow.alloc _) ⟨wr.heap.size, 0, none⟩ 1 1 (cellL s (frm, s.size)) rfl rfl (World.news_of_block (World.alloc_heap_new wr _)) (by simp [cellL, Value.oneCell']) (by unfold maxLen; omega) (by omega) (by simp; omega) ?_); intro v' w2 hown hg _; have hb2 : Below w.heap.size w w2 := (hB.alloc hBs _).grown hg (by simp; omega) (fun k e => by have := (hrow.lt k e).1; omega))
        go_ret
        refine ⟨_, rfl, hb2, ?_⟩
        rw [HX.out, List.length_append, cellsL_snoc]; exact hown
      · have hend := U.lns_end L frm (by omega)
        have HX := Lib.hid (show U.lns L 0 = pre by rw [hx.out, hend]; simp)
        clear hend hx hno
        go_wp2
        go_ret
        refine ⟨_, rfl, hB, ?_⟩
        rw [HX.out]; exact hrow
end Go.Proofs.Ytokbmihjpllgpaa
