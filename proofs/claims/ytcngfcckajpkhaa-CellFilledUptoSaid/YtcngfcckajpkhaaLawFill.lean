/- The law of padded texts, outright. -/
import Derived.Test.YtcngfcckajpkhaaCellD
import Derived.Test.YtcngfcckajpkhaaCellE
import Derived.Test.YtcngfcckajpkhaaCellI
set_option linter.unusedVariables false
set_option linter.unusedSimpArgs false
namespace Go.Proofs.Ytcngfcckajpkhaa
open Go.RowKit Go.Shelf Go.Lib Go.BigFrame
attribute [local go_sem] Oper.semAt_some

/-- A byte of a text. -/
theorem ix_at (T : ByteArray) (k : Nat) (h : k < T.size) : ∀ w, (Instr.index 9 (.string T) (.int .i64 (k : Int))).run Try.prog w = .ok (.int .u8 (U.by_ T.data.toList k : Int)) w := fun w => by
  rw [run_index_string w _ T _ _ Try.underlying9, dif_pos ⟨by omega, by omega⟩]
  congr 3
  unfold U.by_
  rw [List.getD_eq_getElem?_getD, List.getElem?_eq_getElem (by rw [← U.size_eq]; exact h)]
  rfl
theorem ext_eq (a b s : ByteArray) : (a ++ s ++ b).extract a.size (a.size + s.size) = s := by
  apply ByteArray.ext
  apply Array.ext'
  rw [Lib.extract_data, ByteArray.data_append, Array.toList_append, ByteArray.data_append, Array.toList_append, U.size_eq, U.size_eq, List.append_assoc, List.drop_left', Nat.add_sub_cancel_left, List.take_left']
  · rfl
  · rfl

set_option maxRecDepth 1000000 in
set_option maxHeartbeats 4000000 in
theorem blanks_any (T s : ByteArray) (a F D : Nat) (w : World) (hT : T.size = F + s.size + D) (hs : s.size ≤ 1048576) (ha : a ≤ 10) (hl : F + D ≤ 200) (hF : (F + D) * a / 10 = F)
    (h1 : ∀ j, j < F → U.by_ T.data.toList j = 32) (h2 : ∀ j, F + s.size ≤ j → j < T.size → U.by_ T.data.toList j = 32) (h3 : T.extract F (F + s.size) = s) :
    Calls Try.prog 39 #[.string T, .string s, .int .i64 (a : Int)] w fun e w' => e = .returned (.bool true) ∧ w = w' := by
  obtain ⟨N, hN⟩ : ∃ N, T.size = N := ⟨_, rfl⟩
  rw [hN] at hT h2
  have e1 : (N : Int) - (s.size : Int) = ((F + D : Nat) : Int) := by omega
  have hT1 : F + s.size ≤ N := by omega
  obtain ⟨m, hm⟩ : ∃ m, (F + D) * a = m := ⟨_, rfl⟩
  have e2 : ((F + D : Nat) : Int) * (a : Int) = (m : Int) := by rw [← hm]; simp
  have hm2 : m ≤ 2000 := by rw [← hm]; exact Nat.le_trans (Nat.mul_le_mul hl ha) (by omega)
  rw [hm] at hF
  have e3 : (m : Int).tdiv 10 = (F : Int) := by rw [Int.tdiv_eq_ediv_of_nonneg (by omega)]; omega
  obtain ⟨L, hL⟩ : ∃ L, F + D = L := ⟨_, rfl⟩
  rw [hL] at e1 e2 hl
  have H1 := Lib.hid h1
  have H2 := Lib.hid h2
  have hNN := Lib.hid hN
  clear hm h1 h2 hF hT
  go_enter Try.func39, Try.ntmps39
  go_wp2
  go_loopw [9] (fun i wr => ∃ k : Nat, wr = w ∧ i = .int .i64 (k : Int) ∧ k ≤ N) (fun i _ => N - (Go.RowKit.intOf i).toNat)
  case atStart => exact ⟨0, rfl, rfl, Nat.zero_le _⟩
  case round =>
    obtain ⟨k, rfl, rfl, hk⟩ := hrel
    by_cases hlt : k < N
    · have hix := ix_at T k (by rw [hN]; exact hlt)
      by_cases hf : k < F
      · rw [H1.out k hf] at hix
        go_wp2
        go_roundw
        case rel => exact ⟨k + 1, by trivial, by go_num, hlt⟩
        case measure => simp [Go.RowKit.intOf]; omega
      · by_cases hb : F + s.size ≤ k
        · rw [H2.out k hb hlt] at hix
          go_wp2
          go_roundw
          case rel => exact ⟨k + 1, by trivial, by go_num, hlt⟩
          case measure => simp [Go.RowKit.intOf]; omega
        · go_wp2
          go_roundw
          case rel => exact ⟨k + 1, by trivial, by go_num, hlt⟩
          case measure => simp [Go.RowKit.intOf]; omega
    · obtain rfl : k = N := by omega
      have hsl : ∀ w, (Instr.slice 9 (.string T) (some (.int .i64 (F : Int))) (some (.int .i64 ((F : Int) + (s.size : Int)))) none).run Try.prog w = .ok (.string s) w := fun w => by
        have := run_slice_string (P := Try.prog) (w := w) 9 T .i64 .i64 (F : Int) ((F : Int) + (s.size : Int)) Try.underlying9 (by omega) (by omega) (by omega)
        rw [this]
        rw [show ((F : Int) + (s.size : Int)).toNat = F + s.size by omega, Int.toNat_natCast, h3]
      go_wp2
      go_ret
      exact ⟨ret_bool (by simp), rfl⟩

set_option maxRecDepth 1000000 in
set_option maxHeartbeats 4000000 in
theorem cellFilled_law (s : ByteArray) (c a : Int) (hs : s.size ≤ 1048576) (h1 : (Lit.int .i64 c).wf = true) (h2 : (Lit.int .i64 a).wf = true) (w : World) : Calls Try.prog 18 #[.string s, .int .i64 c, .int .i64 a] w fun e w' => e = .returned (.bool true) ∧ Below w.heap.size w w' := by
  obtain ⟨k, hk, WK⟩ := within_nat c 201 w (by omega) (by omega)
  obtain ⟨j, hj, WJ⟩ := within_nat a 11 w (by omega) (by omega)
  change ∀ w, Calls _ _ #[_, .int .i64 201] w _ at WK
  change ∀ w, Calls _ _ #[_, .int .i64 11] w _ at WJ
  have PA := fun w => pad_any s k j w (by omega) (by omega) (by omega)
  have OS := fun w => of_any s w (by omega)
  have hO := C.padded_cells
  have b1 := C.cells_le2 _ (C.clus_cells_le (U.toks s.data.toList))
  have hna := Nat.le_trans (C.clus_length_le (U.toks s.data.toList)) (toks_len (s := s))
  obtain ⟨o, ho⟩ : ∃ o, C.cells (C.clus (U.toks s.data.toList)) = o := ⟨_, rfl⟩
  have ho4 : o ≤ 8388608 := by omega
  rw [ho] at PA OS
  have hnb : ¬ padBad (k : Int) (j : Int) := by unfold padBad; omega
  unfold padI at PA
  simp only [if_neg hnb] at PA
  obtain ⟨F, hF⟩ : ∃ F, padF o k j = F := ⟨_, rfl⟩
  obtain ⟨D, hD⟩ : ∃ D, padD o k j = D := ⟨_, rfl⟩
  rw [hF, hD] at PA
  have hFD : F + D = ((k : Int) - (o : Int)).toNat := by
    unfold padD at hD
    rw [hF] at hD
    unfold padF at hF
    rw [Int.toNat_natCast] at hF
    have : ((k : Int) - (o : Int)).toNat * j ≤ ((k : Int) - (o : Int)).toNat * 10 := Nat.mul_le_mul_left _ (by omega)
    omega
  have hFj : (F + D) * j / 10 = F := by
    rw [hFD, ← hF]; unfold padF; rw [Int.toNat_natCast]
  have hTl : (spaces F ++ s ++ spaces D).data.toList = List.replicate F 32 ++ s.data.toList ++ List.replicate D 32 := by
    rw [ByteArray.data_append, Array.toList_append, ByteArray.data_append, Array.toList_append, spaces_list, spaces_list]
  have hTo := hO F D s.data.toList
  rw [← hTl, ho] at hTo
  have OT := fun w (h : (spaces F ++ s ++ spaces D).size ≤ 4194304) => of_any (spaces F ++ s ++ spaces D) w h
  rw [hTo] at OT
  have hTz : (spaces F ++ s ++ spaces D).size = F + s.size + D := by rw [ByteArray.size_append, ByteArray.size_append, spaces_size, spaces_size]
  have hlF : (spaces F).size = F := spaces_size F
  have hx := ext_eq (spaces F) (spaces D) s
  rw [hlF] at hx
  have q1 : ∀ i, i < F → U.by_ (spaces F ++ s ++ spaces D).data.toList i = 32 := fun i hi => by
    unfold U.by_
    rw [hTl, List.getD_eq_getElem?_getD, List.append_assoc, List.getElem?_append_left (by rw [List.length_replicate]; exact hi), List.getElem?_replicate, if_pos hi]; rfl
  have q2 : ∀ i, F + s.size ≤ i → i < (spaces F ++ s ++ spaces D).size → U.by_ (spaces F ++ s ++ spaces D).data.toList i = 32 := fun i hi hi2 => by
    unfold U.by_
    rw [hTz] at hi2
    rw [hTl, List.getD_eq_getElem?_getD, List.getElem?_append_right (by rw [List.length_append, List.length_replicate, ← U.size_eq]; exact hi), List.getElem?_replicate, if_pos (by rw [List.length_append, List.length_replicate, ← U.size_eq]; omega)]; rfl
  obtain ⟨T, hT⟩ : ∃ T, spaces F ++ s ++ spaces D = T := ⟨_, rfl⟩
  rw [hT] at PA OT hTz hx q1 q2
  have BL := fun w => blanks_any T s j F D w hTz hs (by omega) (by omega) hFj q1 q2 hx
  have OT := fun w => OT w (by omega)
  have PA := Lib.hid PA
  have OS := Lib.hid OS
  have OT := Lib.hid OT
  have BL := Lib.hid BL
  have WK := Lib.hid WK
  have WJ := Lib.hid WJ
  obtain ⟨N, hN⟩ : ∃ N, T.size = N := ⟨_, rfl⟩
  rw [hN] at hTz
  have m1 : max (o : Int) (k : Int) = ((o + F + D : Nat) : Int) := by omega
  have m2 : (N : Int) - (s.size : Int) = ((F + D : Nat) : Int) := by omega
  have m3 : max (0 : Int) ((k : Int) - (o : Int)) = ((F + D : Nat) : Int) := by omega
  have hsm : F + D ≤ 200 := by omega
  have hsN : s.size ≤ N := by omega
  have hN2 : N ≤ 4194304 := by omega
  clear hTz hT q1 q2 hx hTo hTl hO ho hna b1 hFj hF hD hFD hlF hnb
  go_enter Try.func18, Try.ntmps18
  go_wp2_with (first
    | (go_at_call 19; refine (known_any _).mono ?_; rintro e w1 ⟨rfl, hb1⟩)
    | (go_at_call 28; ((with_reducible refine (WK.out _).mono ?_); rintro e w2 ⟨rfl, rfl⟩))
    | (go_at_call 28; ((with_reducible refine (WJ.out _).mono ?_); rintro e w2 ⟨rfl, rfl⟩))
    | (go_at_call 37; ((with_reducible refine (PA.out _).mono ?_); rintro e w3 ⟨rfl, hb3⟩)))
  go_loopw [9] (fun i wr => ∃ q : Nat, wr = w3 ∧ i = .int .i64 (q : Int) ∧ q ≤ N) (fun i _ => N - (Go.RowKit.intOf i).toNat)
  case atStart => exact ⟨0, rfl, rfl, Nat.zero_le _⟩
  case round =>
    obtain ⟨q, rfl, rfl, hq⟩ := hrel
    by_cases hg1 : q < N
    · have hix := ix_at T q (by rw [hN]; exact hg1)
      obtain ⟨x, hx⟩ : ∃ x, U.by_ T.data.toList q = x := ⟨_, rfl⟩
      rw [hx] at hix
      by_cases hg2 : (s.size : Int) < (N : Int) - (q : Int)
      · by_cases hx32 : x = 32
        · subst hx32
          have hsl : ∀ w, (Instr.slice 9 (.string T) (some (.int .i64 (q : Int))) (some (.int .i64 ((q : Int) + (s.size : Int)))) none).run Try.prog w = .ok (.string (T.extract q (q + s.size))) w := fun w => by
            have := run_slice_string (P := Try.prog) (w := w) 9 T .i64 .i64 (q : Int) ((q : Int) + (s.size : Int)) Try.underlying9 (by omega) (by omega) (by omega)
            rw [this]
            rw [show ((q : Int) + (s.size : Int)).toNat = q + s.size by omega, Int.toNat_natCast]
          by_cases hxs : T.extract q (q + s.size) = s
          · rw [hxs] at hsl
            go_wp2_with (first
            | (go_at_call 25; ((with_reducible refine (OT.out _).mono ?_); rintro e w4 ⟨rfl, hb4⟩))
            | (go_at_call 25; ((with_reducible refine (OS.out _).mono ?_); rintro e w5 ⟨rfl, hb5⟩))
            | (go_at_call 39; ((with_reducible refine (BL.out _).mono ?_); rintro e w6 ⟨rfl, rfl⟩)))
            go_ret
            exact ⟨ret_bool (by simp), by repeat (first | assumption | refine bst ?_ ‹_›)⟩
          · obtain ⟨X, hX⟩ : ∃ X, T.extract q (q + s.size) = X := ⟨_, rfl⟩
            rw [hX] at hsl hxs
            have hne : (X.toList == s.toList) = false := by
              rw [Lib.toList_data, Lib.toList_data, beq_eq_false_iff_ne]
              exact fun h => hxs (ByteArray.ext (Array.ext' h))
            clear hxs hX
            go_wp2
            go_roundw
            case rel => exact ⟨q + 1, by trivial, by go_num, hg1⟩
            case measure => simp [Go.RowKit.intOf]; omega
        · have hx33 : ((x : Int) == 32) = false := by rw [beq_eq_false_iff_ne]; omega
          go_wp2_with (first
            | (go_at_call 25; ((with_reducible refine (OT.out _).mono ?_); rintro e w4 ⟨rfl, hb4⟩))
            | (go_at_call 25; ((with_reducible refine (OS.out _).mono ?_); rintro e w5 ⟨rfl, hb5⟩))
            | (go_at_call 39; ((with_reducible refine (BL.out _).mono ?_); rintro e w6 ⟨rfl, rfl⟩)))
          go_ret
          exact ⟨ret_bool (by simp), by repeat (first | assumption | refine bst ?_ ‹_›)⟩
      · go_wp2_with (first
            | (go_at_call 25; ((with_reducible refine (OT.out _).mono ?_); rintro e w4 ⟨rfl, hb4⟩))
            | (go_at_call 25; ((with_reducible refine (OS.out _).mono ?_); rintro e w5 ⟨rfl, hb5⟩))
            | (go_at_call 39; ((with_reducible refine (BL.out _).mono ?_); rintro e w6 ⟨rfl, rfl⟩)))
        go_ret
        exact ⟨ret_bool (by simp), by repeat (first | assumption | refine bst ?_ ‹_›)⟩
    · have hqN : ¬ (q : Int) < (N : Int) := by omega
      go_wp2_with (first
            | (go_at_call 25; ((with_reducible refine (OT.out _).mono ?_); rintro e w4 ⟨rfl, hb4⟩))
            | (go_at_call 25; ((with_reducible refine (OS.out _).mono ?_); rintro e w5 ⟨rfl, hb5⟩))
            | (go_at_call 39; ((with_reducible refine (BL.out _).mono ?_); rintro e w6 ⟨rfl, rfl⟩)))
      go_ret
      exact ⟨ret_bool (by simp), by repeat (first | assumption | refine bst ?_ ‹_›)⟩
end Go.Proofs.Ytcngfcckajpkhaa
