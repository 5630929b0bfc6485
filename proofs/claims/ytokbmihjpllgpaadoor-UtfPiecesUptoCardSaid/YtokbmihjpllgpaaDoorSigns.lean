/- utf.Signs: the iterator that goes over a text's signs. -/
import Derived.Test.YtokbmihjpllgpaaDoorBase
set_option linter.unusedVariables false
namespace Go.Proofs.YtokbmihjpllgpaaDoor
open Go.RowKit Go.Shelf Go.Lib
attribute [local go_sem] Oper.semAt_some

theorem ret_int {k : IntKind} {a b : Int} (h : a = b) : Ending.returned (.int k a) = .returned (.int k b) := by rw [h]
theorem ret_bool {a b : Bool} (h : a = b) : Ending.returned (.bool a) = .returned (.bool b) := by rw [h]

set_option maxRecDepth 1000000 in
theorem runeLen_any (c : Nat) (w : World) (h1 : c ≤ 1114111) (h2 : c < 55296 ∨ 57344 ≤ c) :
    Calls Tryd.prog 35 #[.int .i32 (c : Int)] w fun e w' => e = .returned (.int .i64 (U.rlen c : Int)) ∧ w = w' := by
  by_cases a1 : c < 128
  · have H := Lib.hid (show U.rlen c = 1 by unfold U.rlen; rw [if_pos a1])
    go_enter Tryd.func35, Tryd.ntmps35
    go_wp2
    go_ret
    exact ⟨ret_int (by rw [H.out]; rfl), rfl⟩
  by_cases a2 : c < 2048
  · have H := Lib.hid (show U.rlen c = 2 by unfold U.rlen; rw [if_neg a1, if_pos a2])
    go_enter Tryd.func35, Tryd.ntmps35
    go_wp2
    go_ret
    exact ⟨ret_int (by rw [H.out]; rfl), rfl⟩
  by_cases a3 : c < 65536
  · have H := Lib.hid (show U.rlen c = 3 by unfold U.rlen; rw [if_neg a1, if_neg a2, if_pos a3])
    rcases h2 with h2 | h2
    · go_enter Tryd.func35, Tryd.ntmps35
      go_wp2
      go_ret
      exact ⟨ret_int (by rw [H.out]; rfl), rfl⟩
    · go_enter Tryd.func35, Tryd.ntmps35
      go_wp2
      go_ret
      exact ⟨ret_int (by rw [H.out]; rfl), rfl⟩
  · have H := Lib.hid (show U.rlen c = 4 by unfold U.rlen; rw [if_neg a1, if_neg a2, if_neg a3])
    go_enter Tryd.func35, Tryd.ntmps35
    go_wp2
    go_ret
    exact ⟨ret_int (by rw [H.out]; rfl), rfl⟩

theorem extract_list (s : ByteArray) (a b : Nat) : (s.extract a b).data.toList = (s.data.toList.take b).drop a := by
  rw [Lib.extract_data, List.drop_take]

theorem hasPrefix_bad (s : ByteArray) (pos : Nat) (w : World) (hp : pos ≤ s.size) (hs : s.size ≤ 9223372036854775807) :
    Calls Tryd.prog 36 #[.string (s.extract pos s.size), .string ⟨#[239, 191, 189]⟩] w fun e w' => e = .returned (.bool (decide ((s.data.toList.drop pos).take 3 = [239, 191, 189]))) ∧ w = w' := by
  go_enter Tryd.func36, Tryd.ntmps36
  go_wp2
  · go_ret
    refine ⟨ret_bool ?_, rfl⟩
    have e : ((s.extract pos s.size).extract 0 3).toList = (s.data.toList.drop pos).take 3 := by
      rw [Lib.toList_data, extract_list, extract_list, List.drop_zero, List.take_of_length_le (i := s.size) (by rw [U.size_eq]; exact Nat.le_refl _)]
    show (((s.extract pos s.size).extract 0 3).toList == [239, 191, 189]) = _
    rw [e, Bool.eq_iff_iff, beq_iff_eq, decide_eq_true_eq]
  · go_ret
    refine ⟨ret_bool ?_, rfl⟩
    have h : ((s.size - pos : Nat) : Int) < 3 := by assumption
    symm
    rw [decide_eq_false_iff_not]
    intro hh
    have := congrArg List.length hh
    rw [List.length_take, List.length_drop, ← U.size_eq] at this
    simp at this
    omega

/-- A sign as it is handed on. -/
def encS (x : U.Sg) : Value := .agg #[.int .i64 (x.at_ : Int), .int .i64 (x.len : Int), .int .i32 (x.rune : Int), .bool x.bad]

set_option maxRecDepth 1000000 in
theorem signs_in (s : ByteArray) (hs : s.size ≤ 4194304) (Bn : Nat) (w : World) (hB : w.cell? ⟨Bn, 0, none⟩ = some (.string s)) :
    SeqC Tryd.prog 34 #[.pointer (some ⟨Bn, 0, none⟩)] (fun x => #[encS x]) (U.signs s.data.toList) 1 (fun k => k = Bn) w := by
  intro l J Jx W hW hsz hJ hJx hY h0
  have hBW : W.cell? ⟨Bn, 0, none⟩ = some (.string s) := hW.cell hB rfl
  have hBlt := World.block_lt_of_cell? W _ hBW
  refine (callsIn_wide (n := 0)).1 (callsIn_of_wp Tryd.func34 rfl trivial ?_ rfl)
  simp only [Tryd.ntmps34, List.size_toArray, List.length_cons, List.length_nil, Nat.reduceAdd, Nat.reduceSub, Array.replicate_succ, Array.replicate_zero, List.push_toArray, List.append_toArray, List.nil_append, List.cons_append]
  gi_wp2
  gi_loopw [8] (fun p wr => ∃ (pos : Nat) (pre : List U.Sg), pos ≤ s.size ∧ W.heap.size + 1 ≤ wr.heap.size ∧ wr.heap[W.heap.size]? = some (.stringIter s pos) ∧ wr.cell? ⟨Bn, 0, none⟩ = some (.string s) ∧ U.signs s.data.toList = pre ++ U.put pos (U.toks (s.data.toList.drop pos)) ∧ J pre wr)
    (fun _ wr => s.size - wr.iterPos W.heap.size)
  case atStart =>
    exact ⟨0, [], Nat.zero_le _, by simp [World.iter], World.iter_heap _ _ _, (by rw [← hBW]; exact World.cell?_of_block (Below.heap_alloc _ _ _ hBlt)), (by simp [U.signs]), hJ _ _ _ ((Fr.refl _ _).alloc _) h0⟩
  case round =>
    obtain ⟨pos, pre, hps, hsz1, hit, hbx, hx, hj⟩ := hrel
    have hpos : wr.iterPos W.heap.size = pos := by simp [World.iterPos, hit]
    by_cases hp : pos < s.size
    · have hd := decode_facts hp
      have hts := toks_at hp
      have hrl := U.dec_rlen (s.data.toList.drop pos)
      have hbd := U.dec_bad (s.data.toList.drop pos)
      rw [← U.decode_eq s pos hp] at hrl hbd
      have hnx : ∀ ty, (Instr.next (.pointer (some ⟨W.heap.size, 0, none⟩)) true ty).run Tryd.prog wr = _ := fun ty => run_next_any_at wr W.heap.size s pos ty hit hp
      obtain ⟨c, wd, hdec⟩ : ∃ c wd, Utf8.decode s pos = (c, wd) := ⟨_, _, rfl⟩
      rw [hdec] at hd hts hnx hrl hbd
      simp only at hd hts hnx hrl hbd
      have hj1 := hJ pre wr (wr.iterAt W.heap.size s (pos + wd)) ((Fr.refl _ _).iterAt _ _ _ (fun _ => by omega)) hj
      have hx1 : U.signs s.data.toList = pre ++ (⟨pos, wd, c, U.isBad (c, wd)⟩ : U.Sg) :: U.put (pos + wd) (U.toks (s.data.toList.drop (pos + wd))) := by rw [hx, hts]; rfl
      obtain ⟨fn, tmps, assign, body, hy, hR⟩ := hY pre ⟨pos, wd, c, U.isBad (c, wd)⟩ _ (wr.iterAt W.heap.size s (pos + wd)) hx1 (by rw [iterAt_size]; exact hsz1) hj1
      have hbx1 : (wr.iterAt W.heap.size s (pos + wd)).cell? ⟨Bn, 0, none⟩ = some (.string s) := by
        rw [← hbx]; exact World.cell?_of_block (iterAt_other _ _ _ _ _ (show Bn ≠ W.heap.size by omega))
      have hit1 := iterAt_heap wr W.heap.size s pos (pos + wd) hit
      have fin : ∀ W3, J (pre ++ [⟨pos, wd, c, U.isBad (c, wd)⟩]) W3 → Fr (fun k => k = Bn ∨ W.heap.size ≤ k ∧ k < W.heap.size + 1) (wr.iterAt W.heap.size s (pos + wd)) W3 →
          ∃ (pos' : Nat) (pre' : List U.Sg), pos' ≤ s.size ∧ W.heap.size + 1 ≤ W3.heap.size ∧ W3.heap[W.heap.size]? = some (.stringIter s pos') ∧ W3.cell? ⟨Bn, 0, none⟩ = some (.string s) ∧ U.signs s.data.toList = pre' ++ U.put pos' (U.toks (s.data.toList.drop pos')) ∧ J pre' W3 := fun W3 hj3 hk3 =>
        ⟨pos + wd, pre ++ [⟨pos, wd, c, U.isBad (c, wd)⟩], hd.2.2.1, Nat.le_trans hsz1 (Nat.le_trans (by rw [iterAt_size]; exact Nat.le_refl _) hk3.size),
          (hk3.block W.heap.size (by rw [iterAt_size]; omega) (.inr ⟨Nat.le_refl _, by omega⟩)).trans hit1, hk3.cell hbx1 (.inl rfl), (by rw [hx1]; simp), hj3⟩
      have mea : ∀ W3, Fr (fun k => k = Bn ∨ W.heap.size ≤ k ∧ k < W.heap.size + 1) (wr.iterAt W.heap.size s (pos + wd)) W3 → s.size - W3.iterPos W.heap.size < s.size - wr.iterPos W.heap.size := fun W3 hk3 => by
        rw [show W3.iterPos W.heap.size = pos + wd from iterPos_of ((hk3.block W.heap.size (by rw [iterAt_size]; omega) (.inr ⟨Nat.le_refl _, by omega⟩)).trans hit1), hpos]
        omega
      have stop : ∃ post, U.signs s.data.toList = (pre ++ [⟨pos, wd, c, U.isBad (c, wd)⟩]) ++ post := ⟨U.put (pos + wd) (U.toks (s.data.toList.drop (pos + wd))), by rw [hx1]; simp⟩
      obtain ⟨post, hpost⟩ := stop
      have HX := Lib.hid hx1
      have HP := Lib.hid hpost
      clear hx hx1 hpost hts hdec hpos hj1 hit hbx hj hJ hJx hY hW
      by_cases hc : c = 65533
      · subst hc
        rcases hbd rfl with ⟨rfl, h3⟩ | ⟨rfl, h3, _⟩
        · have hpre : decide ((s.data.toList.drop pos).take 3 = [239, 191, 189]) = true := decide_eq_true h3
          have hy' : (Instr.yield l #[.agg #[.int .i64 (pos : Int), .int .i64 3, .int .i32 65533, .bool false]]).run Tryd.prog (wr.iterAt W.heap.size s (pos + 3)) = _ := hy
          clear hy h3 hbd hrl hd
          gi_wp2_with (first | (refine ⟨trivial, rfl, ?_⟩; gi_at_call 36; refine (callsIn_wide.2 (hasPrefix_bad s pos _ hps (by omega))).mono ?_; rintro e w' ⟨rfl, rfl⟩; rw [hpre]))
          refine ⟨rfl, hR.mono ?_⟩
          rintro e W3 (⟨rfl, hJ3, hk3⟩ | ⟨rfl, hJx3⟩)
          · have F := Lib.hid (fin W3 hJ3 hk3)
            have M := Lib.hid (mea W3 hk3)
            clear fin mea hR hnx hJ3 hk3
            gi_wp2
            go_roundw
            case rel => exact F.out
            case measure => exact M.out
          · clear fin mea hR hnx
            gi_wp2
            refine bodyPost_ret (results_none rfl _ _ _) rfl ?_
            exact ⟨⟨_, rfl⟩, .inr ⟨pre ++ [_], ⟨post, HP.out.symm⟩, by simp, hJx3⟩⟩
        · have hpre : decide ((s.data.toList.drop pos).take 3 = [239, 191, 189]) = false := decide_eq_false h3
          have hy' : (Instr.yield l #[.agg #[.int .i64 (pos : Int), .int .i64 1, .int .i32 65533, .bool true]]).run Tryd.prog (wr.iterAt W.heap.size s (pos + 1)) = _ := hy
          clear hy h3 hbd hrl hd
          gi_wp2_with (first | (refine ⟨trivial, rfl, ?_⟩; gi_at_call 36; refine (callsIn_wide.2 (hasPrefix_bad s pos _ hps (by omega))).mono ?_; rintro e w' ⟨rfl, rfl⟩; rw [hpre]))
          refine ⟨rfl, hR.mono ?_⟩
          rintro e W3 (⟨rfl, hJ3, hk3⟩ | ⟨rfl, hJx3⟩)
          · have F := Lib.hid (fin W3 hJ3 hk3)
            have M := Lib.hid (mea W3 hk3)
            clear fin mea hR hnx hJ3 hk3
            gi_wp2
            go_roundw
            case rel => exact F.out
            case measure => exact M.out
          · clear fin mea hR hnx
            gi_wp2
            refine bodyPost_ret (results_none rfl _ _ _) rfl ?_
            exact ⟨⟨_, rfl⟩, .inr ⟨pre ++ [_], ⟨post, HP.out.symm⟩, by simp, hJx3⟩⟩
      · obtain rfl := hrl hc
        have hne : ((c : Int) != 65533) = true := by simp; omega
        have hne2 : ((c : Int) == 65533) = false := by simp; omega
        have hb : U.isBad (c, U.rlen c) = false := by simp [U.isBad, hc]
        rw [hb] at hy hR fin HX HP
        have hy' : (Instr.yield l #[.agg #[.int .i64 (pos : Int), .int .i64 (U.rlen c : Int), .int .i32 (c : Int), .bool false]]).run Tryd.prog (wr.iterAt W.heap.size s (pos + U.rlen c)) = _ := hy
        have hc1 := hd.2.2.2.1
        have hc2 := hd.2.2.2.2
        clear hy hbd hrl hb
        gi_wp2_with (first | (refine ⟨trivial, rfl, ?_⟩; gi_at_call 35; refine (callsIn_wide.2 (runeLen_any c _ hc1 hc2)).mono ?_; rintro e w' ⟨rfl, rfl⟩))
        refine ⟨rfl, hR.mono ?_⟩
        rintro e W3 (⟨rfl, hJ3, hk3⟩ | ⟨rfl, hJx3⟩)
        · have F := Lib.hid (fin W3 hJ3 hk3)
          have M := Lib.hid (mea W3 hk3)
          clear fin mea hR hnx hJ3 hk3
          gi_wp2
          go_roundw
          case rel => exact F.out
          case measure => exact M.out
        · clear fin mea hR hnx
          gi_wp2
          refine bodyPost_ret (results_none rfl _ _ _) rfl ?_
          exact ⟨⟨_, rfl⟩, .inr ⟨pre ++ [_], ⟨post, HP.out.symm⟩, by simp, hJx3⟩⟩
    · have hnx : ∀ ty, (Instr.next (.pointer (some ⟨W.heap.size, 0, none⟩)) true ty).run Tryd.prog wr = _ := fun ty => run_next_end_at wr W.heap.size s pos ty hit hp
      rw [toks_end hp, U.put, List.append_nil] at hx
      have HX := Lib.hid hx
      clear hx hJ hJx hY hW hit hbx
      gi_wp2
      go_end0
      exact ⟨⟨_, rfl⟩, .inl (HX.out.symm ▸ hj)⟩
end Go.Proofs.YtokbmihjpllgpaaDoor
