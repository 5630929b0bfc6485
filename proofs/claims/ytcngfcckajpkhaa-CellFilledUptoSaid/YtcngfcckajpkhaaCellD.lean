/- Padded texts: plain, and both Pads. -/
import Derived.Test.YtcngfcckajpkhaaRepeatLay
import Derived.Test.YtcngfcckajpkhaaLawCellC
import Derived.Test.YtcngfcckajpkhaaCellK
set_option linter.unusedVariables false
set_option linter.unusedSimpArgs false
namespace Go.Proofs.Ytcngfcckajpkhaa
open Go.RowKit Go.Shelf Go.Lib Go.BigFrame
attribute [local go_sem] Oper.semAt_some

def spaces (n : Nat) : ByteArray := ⟨(Lib.repeatL [32] n).toArray⟩
theorem spaces_list (n : Nat) : (spaces n).data.toList = List.replicate n 32 := by
  have := Lib.repeatL_replicate 32 1 n
  rw [Nat.mul_one] at this
  rw [← this]
  rfl
theorem spaces_size (n : Nat) : (spaces n).size = n := by rw [U.size_eq, spaces_list, List.length_replicate]
theorem spaces_succ (n : Nat) : spaces n ++ ⟨#[32]⟩ = spaces (n + 1) := by
  apply ByteArray.ext
  apply Array.ext'
  rw [ByteArray.data_append, Array.toList_append, spaces_list, spaces_list, List.replicate_succ']
theorem spaces_zero : spaces 0 = ⟨#[]⟩ := rfl
theorem nil_app (s : ByteArray) : (⟨#[]⟩ : ByteArray) ++ s = s := by
  apply ByteArray.ext
  apply Array.ext'
  rw [ByteArray.data_append, Array.toList_append]; rfl
theorem app_nil (s : ByteArray) : s ++ (⟨#[]⟩ : ByteArray) = s := by
  apply ByteArray.ext
  apply Array.ext'
  rw [ByteArray.data_append, Array.toList_append]; simp

/-- The blanks ahead, those behind. -/
def padF (o : Nat) (c a : Int) : Nat := (c - o).toNat * a.toNat / 10
def padD (o : Nat) (c a : Int) : Nat := (c - o).toNat - padF o c a
def padBad (c a : Int) : Prop := c < 0 ∨ 200 < c ∨ a < 0 ∨ 10 < a
instance (c a : Int) : Decidable (padBad c a) := by unfold padBad; exact inferInstance
def padI (s : ByteArray) (o : Nat) (c a : Int) : ByteArray × Nat :=
  if padBad c a then (⟨#[]⟩, 1) else (spaces (padF o c a) ++ s ++ spaces (padD o c a), 0)

set_option maxRecDepth 1000000 in
set_option maxHeartbeats 4000000 in
theorem pad_any (s : ByteArray) (c a : Int) (w : World) (hs : s.size ≤ 4194304) (hc : -9223372036854775808 ≤ c ∧ c ≤ 9223372036854775807) (ha : -9223372036854775808 ≤ a ∧ a ≤ 9223372036854775807) :
    Calls Try.prog 37 #[.string s, .int .i64 c, .int .i64 a] w fun e w' => e = .returned (.tuple #[.string (padI s (C.cells (C.clus (U.toks s.data.toList))) c a).1, .int .i64 ((padI s (C.cells (C.clus (U.toks s.data.toList))) c a).2 : Int)]) ∧ Below w.heap.size w w' := by
  obtain ⟨R1, R2, hR⟩ : ∃ R1 R2, padI s (C.cells (C.clus (U.toks s.data.toList))) c a = (R1, R2) := ⟨_, _, rfl⟩
  rw [hR]
  have OF := fun w => of_any s w (by omega)
  have b1 := C.cells_le2 _ (C.clus_cells_le (U.toks s.data.toList))
  have hna := Nat.le_trans (C.clus_length_le (U.toks s.data.toList)) (toks_len (s := s))
  have ho4 : C.cells (C.clus (U.toks s.data.toList)) ≤ 8388608 := by omega
  obtain ⟨o, ho⟩ : ∃ o, C.cells (C.clus (U.toks s.data.toList)) = o := ⟨_, rfl⟩
  rw [ho] at hR OF ho4
  have OF := Lib.hid OF
  have HR := Lib.hid hR
  clear ho hR b1 hna
  by_cases hbad : padBad c a
  · have hr := HR.out
    unfold padI at hr
    rw [if_pos hbad] at hr
    obtain ⟨rfl, rfl⟩ := Prod.mk.inj hr
    unfold padBad at hbad
    by_cases h1 : c < 0
    · go_enter Try.func37, Try.ntmps37
      go_wp2
      exact bodyPost_ret (results_tmp2 rfl _ _ _) rfl ⟨rfl, Below.refl _ _⟩
    by_cases h2 : 200 < c
    · go_enter Try.func37, Try.ntmps37
      go_wp2
      exact bodyPost_ret (results_tmp2 rfl _ _ _) rfl ⟨rfl, Below.refl _ _⟩
    by_cases h3 : a < 0
    · go_enter Try.func37, Try.ntmps37
      go_wp2
      exact bodyPost_ret (results_tmp2 rfl _ _ _) rfl ⟨rfl, Below.refl _ _⟩
    · have h4 : 10 < a := by omega
      go_enter Try.func37, Try.ntmps37
      go_wp2
      exact bodyPost_ret (results_tmp2 rfl _ _ _) rfl ⟨rfl, Below.refl _ _⟩
  · have hr := HR.out
    unfold padI at hr
    rw [if_neg hbad] at hr
    obtain ⟨rfl, rfl⟩ := Prod.mk.inj hr
    unfold padBad at hbad
    obtain ⟨c, rfl⟩ : ∃ n : Nat, c = (n : Int) := ⟨c.toNat, by omega⟩
    obtain ⟨a, rfl⟩ : ∃ n : Nat, a = (n : Int) := ⟨a.toNat, by omega⟩
    have hc2 : c ≤ 200 := by omega
    have ha2 : a ≤ 10 := by omega
    obtain ⟨L, hL⟩ : ∃ L, ((c : Int) - (o : Int)).toNat = L := ⟨_, rfl⟩
    have hLc : L ≤ 200 := by omega
    have hLa : L * a ≤ 2000 := Nat.mul_le_mul hLc ha2
    obtain ⟨m, hm⟩ : ∃ m, L * a = m := ⟨_, rfl⟩
    obtain ⟨F, hF⟩ : ∃ F, m / 10 = F := ⟨_, rfl⟩
    have hF1 : padF o c a = F := by unfold padF; rw [hL, Int.toNat_natCast, hm, hF]
    have hD1 : padD o c a = L - F := by unfold padD; rw [hF1, hL]
    rw [hF1, hD1]
    rw [hm] at hLa
    have hFm : F ≤ L := by
      have : L * a ≤ L * 10 := Nat.mul_le_mul_left _ ha2
      omega
    obtain ⟨D, hD⟩ : ∃ D, L - F = D := ⟨_, rfl⟩
    rw [hD]
    have R1 := fun w => repeat_any ⟨#[32]⟩ F w (by omega) (by show 1 * F ≤ _; omega)
    have R2 := fun w => repeat_any ⟨#[32]⟩ D w (by omega) (by show 1 * D ≤ _; omega)
    change ∀ w, Calls Try.prog 52 _ w fun e w' => e = .returned (.string (spaces F)) ∧ Below w.heap.size w w' at R1
    change ∀ w, Calls Try.prog 52 _ w fun e w' => e = .returned (.string (spaces D)) ∧ Below w.heap.size w w' at R2
    have z1 := spaces_size F
    have z2 := spaces_size D
    obtain ⟨P1, hP1⟩ : ∃ P, spaces F = P := ⟨_, rfl⟩
    obtain ⟨P2, hP2⟩ : ∃ P, spaces D = P := ⟨_, rfl⟩
    rw [hP1] at R1 z1 ⊢
    rw [hP2] at R2 z2 ⊢
    have R1 := Lib.hid R1
    have R2 := Lib.hid R2
    have e1 : max (0 : Int) ((c : Int) - (o : Int)) = (L : Int) := by omega
    have e2 : (L : Int) * (a : Int) = (m : Int) := by rw [← hm]; simp
    have e3 : (m : Int).tdiv 10 = (F : Int) := by rw [Int.tdiv_eq_ediv_of_nonneg (by omega)]; omega
    have e4 : (L : Int) - (F : Int) = (D : Int) := by omega
    clear hP1 hP2 hF1 hD1 hm hF HR hr hL hD
    go_enter Try.func37, Try.ntmps37
    go_wp2_with (first
      | (go_at_call 25; ((with_reducible refine (OF.out _).mono ?_); rintro e w1 ⟨rfl, hb1⟩))
      | (go_at_call 52; ((with_reducible refine (R1.out _).mono ?_); rintro e w2 ⟨rfl, hb2⟩))
      | (go_at_call 52; ((with_reducible refine (R2.out _).mono ?_); rintro e w3 ⟨rfl, hb3⟩)))
    refine bodyPost_ret (results_tmp2 rfl _ _ _) rfl ?_
    exact ⟨rfl, bst (bst hb1 hb2) hb3⟩

set_option maxRecDepth 1000000 in
set_option maxHeartbeats 4000000 in
theorem padR_any (s : ByteArray) (c a : Int) (w : World) (hs : s.size ≤ 4194304) (hc : -9223372036854775808 ≤ c ∧ c ≤ 9223372036854775807) (ha : -9223372036854775808 ≤ a ∧ a ≤ 9223372036854775807) :
    Calls Try.prog 38 #[.string s, .int .i64 c, .int .i64 a] w fun e w' => e = .returned (.tuple #[.string (padI s (C.cells (C.clus (U.toks s.data.toList))) c a).1, .int .i64 ((padI s (C.cells (C.clus (U.toks s.data.toList))) c a).2 : Int)]) ∧ Below w.heap.size w w' := by
  obtain ⟨R1, R2, hR⟩ : ∃ R1 R2, padI s (C.cells (C.clus (U.toks s.data.toList))) c a = (R1, R2) := ⟨_, _, rfl⟩
  rw [hR]
  have OF := fun w => ofR_any s w (by omega)
  have b1 := C.cells_le2 _ (C.clus_cells_le (U.toks s.data.toList))
  have hna := Nat.le_trans (C.clus_length_le (U.toks s.data.toList)) (toks_len (s := s))
  have ho4 : C.cells (C.clus (U.toks s.data.toList)) ≤ 8388608 := by omega
  obtain ⟨o, ho⟩ : ∃ o, C.cells (C.clus (U.toks s.data.toList)) = o := ⟨_, rfl⟩
  rw [ho] at hR OF ho4
  have OF := Lib.hid OF
  have HR := Lib.hid hR
  clear ho hR b1 hna
  by_cases hbad : padBad c a
  · have hr := HR.out
    unfold padI at hr
    rw [if_pos hbad] at hr
    obtain ⟨rfl, rfl⟩ := Prod.mk.inj hr
    unfold padBad at hbad
    by_cases h1 : c < 0
    · go_enter Try.func38, Try.ntmps38
      go_wp2
      exact bodyPost_ret (results_tmp2 rfl _ _ _) rfl ⟨rfl, Below.refl _ _⟩
    by_cases h2 : 200 < c
    · go_enter Try.func38, Try.ntmps38
      go_wp2
      exact bodyPost_ret (results_tmp2 rfl _ _ _) rfl ⟨rfl, Below.refl _ _⟩
    by_cases h3 : a < 0
    · go_enter Try.func38, Try.ntmps38
      go_wp2
      exact bodyPost_ret (results_tmp2 rfl _ _ _) rfl ⟨rfl, Below.refl _ _⟩
    · have h4 : 10 < a := by omega
      go_enter Try.func38, Try.ntmps38
      go_wp2
      exact bodyPost_ret (results_tmp2 rfl _ _ _) rfl ⟨rfl, Below.refl _ _⟩
  · have hr := HR.out
    unfold padI at hr
    rw [if_neg hbad] at hr
    obtain ⟨rfl, rfl⟩ := Prod.mk.inj hr
    unfold padBad at hbad
    obtain ⟨c, rfl⟩ : ∃ n : Nat, c = (n : Int) := ⟨c.toNat, by omega⟩
    obtain ⟨a, rfl⟩ : ∃ n : Nat, a = (n : Int) := ⟨a.toNat, by omega⟩
    have hc2 : c ≤ 200 := by omega
    have ha2 : a ≤ 10 := by omega
    obtain ⟨L, hL⟩ : ∃ L, ((c : Int) - (o : Int)).toNat = L := ⟨_, rfl⟩
    have hLc : L ≤ 200 := by omega
    have hLa : L * a ≤ 2000 := Nat.mul_le_mul hLc ha2
    obtain ⟨m, hm⟩ : ∃ m, L * a = m := ⟨_, rfl⟩
    obtain ⟨F, hF⟩ : ∃ F, m / 10 = F := ⟨_, rfl⟩
    have hF1 : padF o c a = F := by unfold padF; rw [hL, Int.toNat_natCast, hm, hF]
    have hD1 : padD o c a = L - F := by unfold padD; rw [hF1, hL]
    rw [hF1, hD1]
    rw [hm] at hLa
    have hFm : F ≤ L := by
      have : L * a ≤ L * 10 := Nat.mul_le_mul_left _ ha2
      omega
    obtain ⟨D, hD⟩ : ∃ D, L - F = D := ⟨_, rfl⟩
    rw [hD]
    by_cases hoc : (c : Int) - (o : Int) ≤ 0
    · have hL0 : L = 0 := by omega
      subst hL0
      obtain rfl : F = 0 := by omega
      obtain rfl : D = 0 := by omega
      rw [spaces_zero, nil_app, app_nil]
      clear hF1 hD1 hm hF HR hr hL hD
      go_enter Try.func38, Try.ntmps38
      go_wp2_with (go_at_call 26; ((with_reducible refine (OF.out _).mono ?_); rintro e w1 ⟨rfl, hb1⟩))
      refine bodyPost_ret (results_tmp2 rfl _ _ _) rfl ?_
      exact ⟨rfl, hb1⟩
    have e1 : (c : Int) - (o : Int) = (L : Int) := by omega
    have e0 : (0 : Int) < (L : Int) := by omega
    have e2 : (L : Int) * (a : Int) = (m : Int) := by rw [← hm]; simp
    have e3 : (m : Int).tdiv 10 = (F : Int) := by rw [Int.tdiv_eq_ediv_of_nonneg (by omega)]; omega
    have HD := Lib.hid hD
    clear hF1 hD1 hm hF HR hr hL hD hoc
    have SS : ∀ k, spaces k ++ ⟨#[32]⟩ = spaces (k + 1) := spaces_succ
    go_enter Try.func38, Try.ntmps38
    go_wp2_with (go_at_call 26; ((with_reducible refine (OF.out _).mono ?_); rintro e w1 ⟨rfl, hb1⟩))
    go_loopw [10, 11] (fun q i wr => ∃ (k : Nat) (B : ByteArray), wr = w1 ∧ i = .int .i64 (k : Int) ∧ q = .string B ∧ B.size = k ∧ Hid (B = spaces k) ∧ k ≤ F) (fun _ i _ => F - (Go.RowKit.intOf i).toNat)
    case atStart => exact ⟨0, ⟨#[]⟩, rfl, rfl, rfl, rfl, Lib.hid spaces_zero.symm, Nat.zero_le _⟩
    case round =>
      obtain ⟨k, B, rfl, rfl, rfl, hBz, hB, hk⟩ := hrel
      have hBz2 : (B ++ ⟨#[32]⟩).size = k + 1 := by rw [ByteArray.size_append, hBz]; rfl
      by_cases hlt : k < F
      · go_wp2
        go_roundw
        case rel => exact ⟨k + 1, _, by trivial, by go_num, rfl, hBz2, Lib.hid (by rw [hB.out, SS]), hlt⟩
        case measure => simp [Go.RowKit.intOf]; omega
      · obtain rfl : k = F := by omega
        clear hBz2
        have hBz3 : (B ++ s).size = k + s.size := by rw [ByteArray.size_append, hBz]
        go_wp2
        go_loopw [10, 12] (fun q i wx => ∃ (j : Nat) (B2 : ByteArray), wx = wr ∧ i = .int .i64 ((k + j : Nat) : Int) ∧ q = .string B2 ∧ B2.size = k + s.size + j ∧ Hid (B2 = B ++ s ++ spaces j) ∧ j ≤ D) (fun _ i _ => L - (Go.RowKit.intOf i).toNat)
        case atStart => exact ⟨0, B ++ s, rfl, by simp, rfl, by rw [hBz3]; rfl, Lib.hid (by rw [spaces_zero, app_nil]), Nat.zero_le _⟩
        case round =>
          obtain ⟨j, B2, rfl, rfl, rfl, hz, hB2, hj⟩ := hrel
          have hz2 : (B2 ++ ⟨#[32]⟩).size = k + s.size + (j + 1) := by rw [ByteArray.size_append, hz]; rfl
          by_cases hlt : j < D
          · have hlt2 : ((k + j : Nat) : Int) < (L : Int) := by have := HD.out; omega
            go_wp2
            go_roundw
            case rel => exact ⟨j + 1, _, by trivial, by go_num, rfl, hz2, Lib.hid (by rw [hB2.out, ← SS, ← ByteArray.append_assoc]), hlt⟩
            case measure => simp [Go.RowKit.intOf]; omega
          · obtain rfl : j = D := by omega
            have hlt2 : ¬ ((k + j : Nat) : Int) < (L : Int) := by have := HD.out; omega
            go_wp2
            refine bodyPost_ret (results_tmp2 rfl _ _ _) rfl ?_
            exact ⟨by rw [← hB.out, ← hB2.out]; rfl, hb1⟩

set_option maxRecDepth 1000000 in
set_option maxHeartbeats 4000000 in
theorem cellPads_law (s : ByteArray) (c a : Int) (hs : s.size ≤ 1048576) (h1 : (Lit.int .i64 c).wf = true) (h2 : (Lit.int .i64 a).wf = true) (w : World) : Calls Try.prog 17 #[.string s, .int .i64 c, .int .i64 a] w fun e w' => e = .returned (.bool true) ∧ Below w.heap.size w w' := by
  have hc : -9223372036854775808 ≤ c ∧ c ≤ 9223372036854775807 := by simpa [Lit.wf, IntKind.min, IntKind.max, IntKind.signed, IntKind.bits] using h1
  have ha : -9223372036854775808 ≤ a ∧ a ≤ 9223372036854775807 := by simpa [Lit.wf, IntKind.min, IntKind.max, IntKind.signed, IntKind.bits] using h2
  have PA := fun w => pad_any s c a w (by omega) hc ha
  have PR := fun w => padR_any s c a w (by omega) hc ha
  obtain ⟨⟨x, y⟩, hp⟩ : ∃ p, padI s (C.cells (C.clus (U.toks s.data.toList))) c a = p := ⟨_, rfl⟩
  rw [hp] at PA PR
  have PA := Lib.hid PA
  have PR := Lib.hid PR
  clear hp
  go_enter Try.func17, Try.ntmps17
  go_wp2_with (first
    | (go_at_call 19; refine (known_any _).mono ?_; rintro e w1 ⟨rfl, hb1⟩)
    | (go_at_call 37; ((with_reducible refine (PA.out _).mono ?_); rintro e w2 ⟨rfl, hb2⟩))
    | (go_at_call 38; ((with_reducible refine (PR.out _).mono ?_); rintro e w3 ⟨rfl, hb3⟩)))
  go_ret
  exact ⟨ret_bool (by simp), bst (bst hb1 hb2) hb3⟩
end Go.Proofs.Ytcngfcckajpkhaa
