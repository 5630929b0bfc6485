/- utf.Lines: the iterator that goes over a file's lines; the document's Lines. -/
import Derived.Test.YtokbmihjpllgpaaIdx
import Derived.Test.YtokbmihjpllgpaaColl
set_option linter.unusedVariables false
set_option linter.unusedSimpArgs false
namespace Go.Proofs.Ytokbmihjpllgpaa
open Go.RowKit Go.Shelf Go.Lib
attribute [local go_sem] Oper.semAt_some

theorem idx_any (s : ByteArray) (w : World) (hs : s.size ≤ 4194304) :
    Calls Try.prog 64 #[.string s, .string ⟨#[10, 13]⟩] w fun e w' => e = .returned (.int .i64 (if U.far s.data.toList < s.size then (U.far s.data.toList : Int) else -1)) ∧ Below w.heap.size w w' := by
  by_cases h : s.size ≤ 8
  · exact idx_short s w h
  · exact idx_long s w (by omega) hs
theorem extE_list (s : ByteArray) (p : Nat) : (s.extract p s.size).data.toList = s.data.toList.drop p := by
  rw [Lib.extract_data, ← List.drop_take, List.take_of_length_le (i := s.size) (by rw [U.size_eq]; exact Nat.le_refl _)]
/-- Of the text from a place on. -/
theorem idx_from (s : ByteArray) (p : Nat) (w : World) (hs : s.size ≤ 4194304) (hp : p ≤ s.size) :
    Calls Try.prog 64 #[.string (s.extract p s.size), .string ⟨#[10, 13]⟩] w fun e w' => e = .returned (.int .i64 (if U.nxt s.data.toList p < s.size then ((U.nxt s.data.toList p - p : Nat) : Int) else -1)) ∧ Below w.heap.size w w' := by
  have h := idx_any (s.extract p s.size) w (by rw [ByteArray.size_extract]; omega)
  rw [extE_list, show (s.extract p s.size).size = s.size - p by rw [ByteArray.size_extract]; omega] at h
  have e : U.nxt s.data.toList p - p = U.far (s.data.toList.drop p) := by unfold U.nxt; omega
  rw [e]
  by_cases hc : U.far (s.data.toList.drop p) < s.size - p
  · rw [if_pos hc] at h
    rw [if_pos (by unfold U.nxt; omega)]; exact h
  · rw [if_neg hc] at h
    rw [if_neg (by unfold U.nxt; omega)]; exact h

/-- A line as it is handed on: its place, its bytes. -/
def lnS (s : ByteArray) (x : Nat × Nat) : ByteArray := s.extract x.1 x.2
def encL (s : ByteArray) (x : Nat × Nat) : Array Value := #[.int .i64 (x.1 : Int), .string (lnS s x)]

set_option maxRecDepth 1000000 in
set_option maxHeartbeats 4000000 in
theorem lines_in (s : ByteArray) (hs : s.size ≤ 4194304) (Bn : Nat) (w : World) (hB : w.cell? ⟨Bn, 0, none⟩ = some (.string s)) :
    SeqC Try.prog 63 #[.pointer (some ⟨Bn, 0, none⟩)] (encL s) (U.lns s.data.toList 0) 0 (fun k => k = Bn) w := by
  intro l J Jx W hW hsz hJ hJx hY h0
  have hBW : W.cell? ⟨Bn, 0, none⟩ = some (.string s) := hW.cell hB rfl
  have hBlt := World.block_lt_of_cell? W _ hBW
  obtain ⟨L, hL⟩ : ∃ L, s.data.toList = L := ⟨_, rfl⟩
  have hLz : L.length = s.size := by rw [← hL, U.size_eq]
  have IX := Lib.hid (fun p w hp => idx_from s p w hs hp)
  rw [hL] at hY IX ⊢
  refine (callsIn_wide (n := 0)).1 (callsIn_of_wp Try.func63 rfl trivial ?_ rfl)
  simp only [Try.ntmps63, List.size_toArray, List.length_cons, List.length_nil, Nat.reduceAdd, Nat.reduceSub, Array.replicate_succ, Array.replicate_zero, List.push_toArray, List.append_toArray, List.nil_append, List.cons_append]
  gi_wp2
  gi_loopw [3] (fun p wr => ∃ (pos : Nat) (pre : List (Nat × Nat)), p = .int .i64 (pos : Int) ∧ pos ≤ s.size ∧ W.heap.size ≤ wr.heap.size ∧ wr.cell? ⟨Bn, 0, none⟩ = some (.string s) ∧ U.lns L 0 = pre ++ U.lns L pos ∧ J pre wr)
    (fun p _ => s.size - (Go.RowKit.intOf p).toNat)
  case atStart => exact ⟨0, [], rfl, Nat.zero_le _, Nat.le_refl _, hBW, rfl, h0⟩
  case round =>
    obtain ⟨pos, pre, rfl, hps, hsz1, hbx, hx, hj⟩ := hrel
    by_cases hp : pos < s.size
    · have hge := U.nxt_ge L pos
      have hle := U.nxt_le L pos (by omega)
      rw [hLz] at hle
      have IXp := fun w => IX.out pos w (by omega)
      have bst2 : ∀ w3, Below wr.heap.size wr w3 → J pre w3 ∧ W.heap.size ≤ w3.heap.size ∧ w3.cell? ⟨Bn, 0, none⟩ = some (.string s) := fun w3 hb3 =>
        ⟨hJ pre wr w3 (Fr.of_below hb3 (fun k h _ => h)) hj, Nat.le_trans hsz1 hb3.size, (World.cell?_of_block (hb3.block Bn (by omega))).trans hbx⟩
      by_cases hq : U.nxt L pos < s.size
      · rw [if_pos hq] at IXp
        have hcons := U.lns_cons L pos (by omega) (by omega)
        obtain ⟨haf1, haf2⟩ := U.aft_le L _ (show U.nxt L pos < L.length by omega)
        have haf : U.aft L (U.nxt L pos) = if U.by_ L (U.nxt L pos) = 13 ∧ U.by_ L (U.nxt L pos + 1) = 10 then U.nxt L pos + 2 else U.nxt L pos + 1 := rfl
        obtain ⟨q, hqq⟩ : ∃ q, U.nxt L pos = q := ⟨_, rfl⟩
        rw [hqq] at IXp hcons hq hge hle haf haf1 haf2
        obtain ⟨d, hd⟩ : ∃ d, q - pos = d := ⟨_, rfl⟩
        rw [hd] at IXp
        have e1 : (pos : Int) + (d : Int) = (q : Int) := by omega
        obtain ⟨a, ha⟩ : ∃ a, U.aft L q = a := ⟨_, rfl⟩
        rw [ha] at hcons haf haf1 haf2
        have HY : Hid (∀ w3, Below wr.heap.size wr w3 → YieldAt Fence.wide 0 Try.prog l #[.int .i64 (pos : Int), .string (s.extract pos q)] w3 fun e W' => (e = .returned (.bool true) ∧ J (pre ++ [(pos, q)]) W' ∧ Fr (fun k => k = Bn ∨ (W.heap.size ≤ k ∧ k < W.heap.size + 0)) w3 W') ∨ (e = .returned (.bool false) ∧ Jx (pre ++ [(pos, q)]) W')) :=
          Lib.hid (fun w3 hb3 => hY pre (pos, q) (U.lns L a) w3 (hx.trans (by rw [hcons])) (bst2 w3 hb3).2.1 (bst2 w3 hb3).1)
        have ix1 := ix_by s q hq
        rw [hL] at ix1
        obtain ⟨b1, hb1⟩ : ∃ b, U.by_ L q = b := ⟨_, rfl⟩
        rw [hb1] at ix1 haf
        have fin : ∀ w3 W3, Below wr.heap.size wr w3 → J (pre ++ [(pos, q)]) W3 → Fr (fun k => k = Bn ∨ (W.heap.size ≤ k ∧ k < W.heap.size + 0)) w3 W3 →
            ∃ (pre' : List (Nat × Nat)), a ≤ s.size ∧ W.heap.size ≤ W3.heap.size ∧ W3.cell? ⟨Bn, 0, none⟩ = some (.string s) ∧ U.lns L 0 = pre' ++ U.lns L a ∧ J pre' W3 := fun w3 W3 hb3 hJ3 hk3 =>
          ⟨pre ++ [(pos, q)], by omega, Nat.le_trans (bst2 w3 hb3).2.1 hk3.size, hk3.cell (bst2 w3 hb3).2.2 (.inl rfl), (by rw [hx, hcons]; simp), hJ3⟩
        have FIN := Lib.hid fin
        have HPRE : Hid (pre ++ [(pos, q)] <+: U.lns L 0) := Lib.hid ⟨U.lns L a, by rw [hx, hcons]; simp⟩
        have BST := Lib.hid bst2
        have IXp := Lib.hid IXp
        have hsl : ∀ w, (Instr.slice 9 (.string s) (some (.int .i64 (pos : Int))) (some (.int .i64 (q : Int))) none).run Try.prog w = .ok (.string (s.extract pos q)) w := fun w => by
          have := run_slice_string (P := Try.prog) (w := w) 9 s .i64 .i64 (pos : Int) (q : Int) Try.underlying9 (by omega) (by omega) (by omega)
          rw [this, Int.toNat_natCast, Int.toNat_natCast]
        clear fin hcons hx hj hJ hJx hY hW hqq hd bst2 hle
        by_cases h13 : b1 = 13
        · subst h13
          by_cases hq2 : q + 1 < s.size
          · have ix2 := ix_by s (q + 1) hq2
            rw [hL, show ((q + 1 : Nat) : Int) = (q : Int) + 1 by omega] at ix2
            obtain ⟨b2, hb2⟩ : ∃ b, U.by_ L (q + 1) = b := ⟨_, rfl⟩
            rw [hb2] at ix2 haf
            by_cases h10 : b2 = 10
            · subst h10
              rw [if_pos ⟨rfl, rfl⟩] at haf
              subst haf
              gi_wp2_with (first | (refine ⟨trivial, rfl, ?_⟩; gi_at_call 64; ((with_reducible refine (callsIn_wide.2 (IXp.out _)).mono ?_); rintro e w3 ⟨rfl, hb3⟩; obtain ⟨fn, tmps, assign, body, hy, hR⟩ := HY.out w3 hb3; have hbx3 := (BST.out w3 hb3).2.2)))
              refine ⟨rfl, hR.mono ?_⟩
              rintro e W3 (⟨rfl, hJ3, hk3⟩ | ⟨rfl, hJx3⟩)
              · have F := Lib.hid (FIN.out w3 W3 hb3 hJ3 hk3)
                have hbx4 := (F.out).choose_spec.2.2.1
                clear hR hJ3 hk3 hbx3
                gi_wp2
                go_roundw
                case rel => obtain ⟨pre', f1, f2, f3, f4, f5⟩ := F.out; exact ⟨q + 2, pre', by go_num, f1, f2, f3, f4, f5⟩
                case measure => simp [Go.RowKit.intOf]; omega
              · clear hR
                gi_wp2
                refine bodyPost_ret (results_none rfl _ _ _) rfl ?_
                exact ⟨⟨_, rfl⟩, .inr ⟨pre ++ [(pos, q)], HPRE.out, by simp, hJx3⟩⟩
            · rw [if_neg (by omega)] at haf
              subst haf
              have hne : ((b2 : Int) == 10) = false := by rw [beq_eq_false_iff_ne]; omega
              gi_wp2_with (first | (refine ⟨trivial, rfl, ?_⟩; gi_at_call 64; ((with_reducible refine (callsIn_wide.2 (IXp.out _)).mono ?_); rintro e w3 ⟨rfl, hb3⟩; obtain ⟨fn, tmps, assign, body, hy, hR⟩ := HY.out w3 hb3; have hbx3 := (BST.out w3 hb3).2.2)))
              refine ⟨rfl, hR.mono ?_⟩
              rintro e W3 (⟨rfl, hJ3, hk3⟩ | ⟨rfl, hJx3⟩)
              · have F := Lib.hid (FIN.out w3 W3 hb3 hJ3 hk3)
                have hbx4 := (F.out).choose_spec.2.2.1
                clear hR hJ3 hk3 hbx3
                gi_wp2
                go_roundw
                case rel => obtain ⟨pre', f1, f2, f3, f4, f5⟩ := F.out; exact ⟨q + 1, pre', by go_num, f1, f2, f3, f4, f5⟩
                case measure => simp [Go.RowKit.intOf]; omega
              · clear hR
                gi_wp2
                refine bodyPost_ret (results_none rfl _ _ _) rfl ?_
                exact ⟨⟨_, rfl⟩, .inr ⟨pre ++ [(pos, q)], HPRE.out, by simp, hJx3⟩⟩
          · have h0 : U.by_ L (q + 1) = 0 := U.by_out L (q + 1) (by omega)
            rw [h0, if_neg (by omega)] at haf
            subst haf
            gi_wp2_with (first | (refine ⟨trivial, rfl, ?_⟩; gi_at_call 64; ((with_reducible refine (callsIn_wide.2 (IXp.out _)).mono ?_); rintro e w3 ⟨rfl, hb3⟩; obtain ⟨fn, tmps, assign, body, hy, hR⟩ := HY.out w3 hb3; have hbx3 := (BST.out w3 hb3).2.2)))
            refine ⟨rfl, hR.mono ?_⟩
            rintro e W3 (⟨rfl, hJ3, hk3⟩ | ⟨rfl, hJx3⟩)
            · have F := Lib.hid (FIN.out w3 W3 hb3 hJ3 hk3)
              have hbx4 := (F.out).choose_spec.2.2.1
              clear hR hJ3 hk3 hbx3
              gi_wp2
              go_roundw
              case rel => obtain ⟨pre', f1, f2, f3, f4, f5⟩ := F.out; exact ⟨q + 1, pre', by go_num, f1, f2, f3, f4, f5⟩
              case measure => simp [Go.RowKit.intOf]; omega
            · clear hR
              gi_wp2
              refine bodyPost_ret (results_none rfl _ _ _) rfl ?_
              exact ⟨⟨_, rfl⟩, .inr ⟨pre ++ [(pos, q)], HPRE.out, by simp, hJx3⟩⟩
        · rw [if_neg (by omega)] at haf
          subst haf
          have hne : ((b1 : Int) == 13) = false := by rw [beq_eq_false_iff_ne]; omega
          gi_wp2_with (first | (refine ⟨trivial, rfl, ?_⟩; gi_at_call 64; ((with_reducible refine (callsIn_wide.2 (IXp.out _)).mono ?_); rintro e w3 ⟨rfl, hb3⟩; obtain ⟨fn, tmps, assign, body, hy, hR⟩ := HY.out w3 hb3; have hbx3 := (BST.out w3 hb3).2.2)))
          refine ⟨rfl, hR.mono ?_⟩
          rintro e W3 (⟨rfl, hJ3, hk3⟩ | ⟨rfl, hJx3⟩)
          · have F := Lib.hid (FIN.out w3 W3 hb3 hJ3 hk3)
            have hbx4 := (F.out).choose_spec.2.2.1
            clear hR hJ3 hk3 hbx3
            gi_wp2
            go_roundw
            case rel => obtain ⟨pre', f1, f2, f3, f4, f5⟩ := F.out; exact ⟨q + 1, pre', by go_num, f1, f2, f3, f4, f5⟩
            case measure => simp [Go.RowKit.intOf]; omega
          · clear hR
            gi_wp2
            refine bodyPost_ret (results_none rfl _ _ _) rfl ?_
            exact ⟨⟨_, rfl⟩, .inr ⟨pre ++ [(pos, q)], HPRE.out, by simp, hJx3⟩⟩
      · rw [if_neg hq] at IXp
        have hlast := U.lns_last L pos (by omega) (by omega)
        have HY : Hid (∀ w3, Below wr.heap.size wr w3 → YieldAt Fence.wide 0 Try.prog l #[.int .i64 (pos : Int), .string (s.extract pos s.size)] w3 fun e W' => (e = .returned (.bool true) ∧ J (pre ++ [(pos, L.length)]) W' ∧ Fr (fun k => k = Bn ∨ (W.heap.size ≤ k ∧ k < W.heap.size + 0)) w3 W') ∨ (e = .returned (.bool false) ∧ Jx (pre ++ [(pos, L.length)]) W')) :=
          Lib.hid (fun w3 hb3 => by rw [← hLz]; exact hY pre (pos, L.length) [] w3 (hx.trans (by rw [hlast])) (bst2 w3 hb3).2.1 (bst2 w3 hb3).1)
        have HX := Lib.hid (show U.lns L 0 = pre ++ [(pos, L.length)] by rw [hx, hlast])
        have BST := Lib.hid bst2
        have IXp := Lib.hid IXp
        clear hx hj hJ hJx hY hW hlast bst2 hle hge
        gi_wp2_with (first | (refine ⟨trivial, rfl, ?_⟩; gi_at_call 64; ((with_reducible refine (callsIn_wide.2 (IXp.out _)).mono ?_); rintro e w3 ⟨rfl, hb3⟩; obtain ⟨fn, tmps, assign, body, hy, hR⟩ := HY.out w3 hb3; have hbx3 := (BST.out w3 hb3).2.2)))
        refine ⟨rfl, hR.mono ?_⟩
        rintro e W3 (⟨rfl, hJ3, hk3⟩ | ⟨rfl, hJx3⟩)
        · gi_wp2
          refine bodyPost_ret (results_none rfl _ _ _) rfl ?_
          exact ⟨⟨_, rfl⟩, .inl (HX.out ▸ hJ3)⟩
        · gi_wp2
          refine bodyPost_ret (results_none rfl _ _ _) rfl ?_
          exact ⟨⟨_, rfl⟩, .inr ⟨pre ++ [(pos, L.length)], ⟨[], by rw [HX.out]; simp⟩, by simp, hJx3⟩⟩
    · rw [U.lns_end L pos (by omega), List.append_nil] at hx
      have HX := Lib.hid hx
      clear hx hJ hJx hY hW
      gi_wp2
      go_end0
      exact ⟨⟨_, rfl⟩, .inl (HX.out ▸ hj)⟩
end Go.Proofs.Ytokbmihjpllgpaa
