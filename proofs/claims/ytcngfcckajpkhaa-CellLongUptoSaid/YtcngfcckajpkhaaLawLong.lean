/- The law of long texts of one make. -/
import Derived.Test.YtcngfcckajpkhaaCellLo
import Derived.Test.YtcngfcckajpkhaaLawCellK
import Derived.Test.YtcngfcckajpkhaaCellI
import Derived.Lib.AppendStr
import Derived.Laws.BytesArg
import Derived.Laws.IdiomStrings
import Derived.Lib.UnsafeStr
set_option linter.unusedVariables false
set_option linter.unusedSimpArgs false
namespace Go.Proofs.Ytcngfcckajpkhaa
open Go.RowKit Go.Shelf Go.Lib Go.BigFrame
attribute [local go_sem] Oper.semAt_some

theorem Try.infoU8 : (Try.prog.info? 5).map (fun i => (i.zero, i.size, i.bytes)) = some (some (.int .u8 0), 1, 1) := by kernel_rfl
/-- 'string(b)' of a row of bytes of one's own. -/
theorem strB_of_row (w : World) (base : Nat) (v : Value) (l : List UInt8) (h : w.ownsRow base 5 1 v l.length (Lib.byteCells l)) :
    (convert 51 9 v).run Try.prog w = .ok (.string ⟨l.toArray⟩) w := by
  rcases h.2 with ⟨rfl, h0⟩ | ⟨g, cap, cur, rfl, _⟩
  · have hn : l = [] := List.length_eq_zero_iff.1 (by omega)
    rw [hn]
    exact run_convert_bytes_nil w 51 5 Try.underlying51 Try.underlying5 0 0 9 Try.underlying9
  · have hc := fun j u => row_cell h j u
    refine run_convert_bytes_back w 51 9 5 ⟨g, 0, none⟩ cap l Try.underlying51 Try.underlying5 Try.underlying9 (fun j hj => ?_)
    rw [show (⟨g, 0, none⟩ : Addr).add j = ⟨g, j, none⟩ by unfold Addr.add; split <;> simp_all]
    exact hc j _ (by simp [Lib.byteCells, hj])
theorem byteCells_app (a b : List UInt8) : Lib.byteCells a ++ Lib.byteCells b = Lib.byteCells (a ++ b) := by simp [Lib.byteCells]
theorem byteCells_one (l : List UInt8) : ∀ u ∈ Lib.byteCells l, u.oneCell' = true := by
  intro u hu
  simp [Lib.byteCells] at hu
  obtain ⟨_, _, rfl⟩ := hu
  rfl

/-- What the calls behind the loop answer. -/
structure LongOk (S : ByteArray) (Cc Nn : Nat) (cut : Int) : Prop where
  z : S.size ≤ 4194304
  all_ : ∀ w, Calls Try.prog 23 #[.string S, .int .i64 (Cc : Int)] w fun e w' => ∃ v cap, e = .returned (.tuple #[.slice v Cc cap, .bool true]) ∧ Below w.heap.size w w'
  of : ∀ w, Calls Try.prog 25 #[.string S] w fun e w' => e = .returned (.int .i64 (Nn : Int)) ∧ Below w.heap.size w w'
  rest : ∃ (k A : Nat) (a c : ByteArray), (∀ w, Calls Try.prog 28 #[.int .i64 cut, .int .i64 ((Nn : Int) + 2)] w fun e w' => e = .returned (.int .i64 (k : Int)) ∧ w = w') ∧
    (∀ w, Calls Try.prog 31 #[.string S, .int .i64 (k : Int)] w fun e w' => e = .returned (.tuple #[.string a, .string c, .int .i64 0]) ∧ Below w.heap.size w w') ∧
    (∀ w, Calls Try.prog 32 #[.string S, .int .i64 (k : Int)] w fun e w' => e = .returned (.tuple #[.int .i64 (A : Int), .int .i64 0]) ∧ Below w.heap.size w w') ∧
    a.size = A ∧ (a.size : Int) + (c.size : Int) = (S.size : Int) ∧ a.size ≤ 4194304 ∧ c.size ≤ 4194304
theorem longOk (kind n : Nat) (cut : Int) (hn : n < 40000) (w0 : World) : LongOk ⟨(C.lw kind n).toArray⟩ (C.lwC kind n) (C.lwN kind n) cut := by
  obtain ⟨S, hS⟩ : ∃ S : ByteArray, (⟨(C.lw kind n).toArray⟩ : ByteArray) = S := ⟨_, rfl⟩
  have hl : S.data.toList = C.lw kind n := by rw [← hS]
  obtain ⟨h1, h2⟩ := C.lw_clus kind n
  rw [← hl] at h1 h2
  have hz : S.size ≤ 4194304 := by
    have := C.lw_length kind n
    rw [U.size_eq, hl]; omega
  rw [hS]
  have hll := toks_len (s := S)
  have hcl := C.clus_length_le (U.toks S.data.toList)
  have b1 := C.cells_le2 _ (C.clus_cells_le (U.toks S.data.toList))
  refine ⟨hz, fun w => ?_, fun w => ?_, ?_⟩
  · rw [← h1]
    refine (all_any S _ w hz (Nat.le_refl _) (by omega)).mono ?_
    rintro e w' ⟨v, rfl, hb, hr⟩
    obtain ⟨A, c, rfl, _⟩ := own_form hr
    exact ⟨_, _, rfl, hb⟩
  · rw [← h2]; exact of_any S w hz
  · rw [h2] at b1
    obtain ⟨k, hk, WK⟩ := within_nat cut (C.lwN kind n + 2) w0 (by omega) (by omega)
    have hAle := C.cutA_le (U.toks S.data.toList) k
    rw [U.wsum_toks, ← U.size_eq] at hAle
    refine ⟨k, C.cutA (U.toks S.data.toList) k, S.extract 0 (C.cutA (U.toks S.data.toList) k), S.extract (C.cutA (U.toks S.data.toList) k) S.size, fun w => ?_, fun w => ?_, fun w => ?_, ?_, ?_, ?_, ?_⟩
    · have := WK w
      rwa [show ((C.lwN kind n + 2 : Nat) : Int) = (C.lwN kind n : Int) + 2 by omega] at this
    · have := cut_any S k w hz (by omega)
      unfold cutI at this
      rw [if_neg (by omega)] at this
      exact this
    · have := cutR_any S k w hz (by omega)
      rw [if_neg (by omega), if_neg (by omega)] at this
      exact this
    · simp [ByteArray.size_extract]; omega
    · simp [ByteArray.size_extract]; omega
    · simp [ByteArray.size_extract]; omega
    · simp [ByteArray.size_extract]
      omega

set_option maxRecDepth 1000000 in
set_option maxHeartbeats 8000000 in
theorem long0 (kd nn cut : Int) (n : Nat) (hn : n < 40000) (w : World) (WK : ∀ w, Calls Try.prog 28 #[.int .i64 kd, .int .i64 6] w fun e w' => e = .returned (.int .i64 0) ∧ w = w')
    (WN : ∀ w, Calls Try.prog 28 #[.int .i64 nn, .int .i64 40000] w fun e w' => e = .returned (.int .i64 (n : Int)) ∧ w = w') :
    Calls Try.prog 14 #[.int .i64 kd, .int .i64 nn, .int .i64 cut] w fun e w' => e = .returned (.bool true) ∧ Below w.heap.size w w' := by
  obtain ⟨i0, hi, hz0, hz1, hz2⟩ := info_parts Try.infoU8
  have hok := longOk 0 n cut hn w
  obtain ⟨Cc, hCc⟩ : ∃ c, C.lwC 0 n = c := ⟨_, rfl⟩
  obtain ⟨Nn, hNn⟩ : ∃ c, C.lwN 0 n = c := ⟨_, rfl⟩
  rw [hCc, hNn] at hok
  simp only [C.lwC, C.lwN] at hCc hNn
  obtain ⟨S, hS⟩ : ∃ S : ByteArray, (⟨(C.lw 0 n).toArray⟩ : ByteArray) = S := ⟨_, rfl⟩
  rw [hS] at hok
  have HS := Lib.hid hS
  obtain ⟨hz, ALL, OF, k, A, a, c, WC, CA, CR, za, zs, zz, zc⟩ := hok
  rw [za] at zs
  have hNb : Nn ≤ 100000 := by omega
  have hCb : Cc ≤ 100000 := by omega
  have eC : ((n : Int) + 1).tdiv 2 = (Cc : Int) := by rw [Int.tdiv_eq_ediv_of_nonneg (by omega)]; omega
  subst hNn
  clear hCc
  have ALL := Lib.hid ALL
  have OF := Lib.hid OF
  have WC := Lib.hid WC
  have CA := Lib.hid CA
  have CR := Lib.hid CR
  have WK := Lib.hid WK
  have WN := Lib.hid WN
  clear hS
  go_enter Try.func14, Try.ntmps14
  go_wp2_with (first
    | (go_at_call 19; refine (known_any _).mono ?_; rintro e w1 ⟨rfl, hb1⟩)
    | (go_at_call 28; ((with_reducible refine (WN.out _).mono ?_); rintro e w2 ⟨rfl, rfl⟩))
    | (go_at_call 28; ((with_reducible refine (WK.out _).mono ?_); rintro e w2 ⟨rfl, rfl⟩)))
  go_loopw [7, 10] (fun b i wr => ∃ j : Nat, i = .int .i64 (j : Int) ∧ j ≤ n ∧ Below w.heap.size w wr ∧ wr.ownsRow w.heap.size 5 1 b (C.lw 0 j).length (Lib.byteCells (C.lw 0 j))) (fun _ i _ => n - (Go.RowKit.intOf i).toNat)
  case atStart =>
    exact ⟨0, rfl, Nat.zero_le _, hb1, World.ownsRow_nil _ _ _ _⟩
  case round =>
    obtain ⟨j, rfl, hj, hB, hrow⟩ := hrel
    have hlj := C.lw_length 0 j
    have hBs := hB.size
    by_cases hlt : j < n
    · have HT := Lib.hid (show C.lw 0 (j + 1) = C.lw 0 j ++ [240, 159, 135, 166] by simp only [C.lw, C.rep_succ])
      obtain ⟨M, hM⟩ : ∃ M, C.lw 0 j = M := ⟨_, rfl⟩
      rw [hM] at hrow hlj
      have HM := Lib.hid hM
      clear hM
      go_wp2_with (at_builtin; go_must (refine wpList_append_own_string _ rfl _ _ 51 9 rfl w.heap.size 5 i0 Try.underlying51 Try.underlying9 hi hz0 hz1 hz2 _ _ _ rfl hrow ⟨#[240, 159, 135, 166]⟩ rfl (by show _ + 4 ≤ maxLen; unfold maxLen; omega) (by show _ + 4 ≤ _; omega) (by omega) ?_); intro v5 w5 hown5 hg5 _)
      go_roundw
      case rel =>
        refine ⟨j + 1, by go_num, hlt, (hB.grown hg5 (by omega) (fun q e => by have := (hrow.lt q e).1; omega)), ?_⟩
        rw [HT.out, HM.out, ← byteCells_app, List.length_append]
        exact hown5
      case measure => simp [Go.RowKit.intOf]; omega
    · obtain rfl : j = n := by omega
      have hcv := strB_of_row _ _ _ _ hrow
      rw [HS.out] at hcv
      go_wp2_with (first
        | (go_at_call 23; ((with_reducible refine (ALL.out _).mono ?_); rintro e w7 ⟨v7, c7, rfl, hb7⟩))
        | (go_at_call 25; ((with_reducible refine (OF.out _).mono ?_); rintro e w8 ⟨rfl, hb8⟩))
        | (go_at_call 28; ((with_reducible refine (WC.out _).mono ?_); rintro e w2 ⟨rfl, rfl⟩))
        | (go_at_call 31; ((with_reducible refine (CA.out _).mono ?_); rintro e w10 ⟨rfl, hb10⟩))
        | (go_at_call 32; ((with_reducible refine (CR.out _).mono ?_); rintro e w11 ⟨rfl, hb11⟩)))
      go_ret
      exact ⟨ret_bool (by first | (simp; done) | (simp; exact zs)), by repeat (first | assumption | refine bst ?_ ‹_›)⟩

set_option maxRecDepth 1000000 in
set_option maxHeartbeats 8000000 in
theorem long1 (kd nn cut : Int) (n : Nat) (hn : n < 40000) (w : World) (WK : ∀ w, Calls Try.prog 28 #[.int .i64 kd, .int .i64 6] w fun e w' => e = .returned (.int .i64 1) ∧ w = w')
    (WN : ∀ w, Calls Try.prog 28 #[.int .i64 nn, .int .i64 40000] w fun e w' => e = .returned (.int .i64 (n : Int)) ∧ w = w') :
    Calls Try.prog 14 #[.int .i64 kd, .int .i64 nn, .int .i64 cut] w fun e w' => e = .returned (.bool true) ∧ Below w.heap.size w w' := by
  obtain ⟨i0, hi, hz0, hz1, hz2⟩ := info_parts Try.infoU8
  have hok := longOk 1 n cut hn w
  obtain ⟨Cc, hCc⟩ : ∃ c, C.lwC 1 n = c := ⟨_, rfl⟩
  obtain ⟨Nn, hNn⟩ : ∃ c, C.lwN 1 n = c := ⟨_, rfl⟩
  rw [hCc, hNn] at hok
  simp only [C.lwC, C.lwN] at hCc hNn
  obtain ⟨S, hS⟩ : ∃ S : ByteArray, (⟨(C.lw 1 n).toArray⟩ : ByteArray) = S := ⟨_, rfl⟩
  rw [hS] at hok
  have HS := Lib.hid hS
  obtain ⟨hz, ALL, OF, k, A, a, c, WC, CA, CR, za, zs, zz, zc⟩ := hok
  rw [za] at zs
  have hNb : Nn ≤ 100000 := by omega
  have hCb : Cc ≤ 100000 := by omega
  subst hCc hNn
  change ∀ w, Calls _ _ #[_, .int .i64 1] w _ at ALL
  change ∀ w, Calls _ _ #[_, .int .i64 3] w _ at WC
  have ALL := Lib.hid ALL
  have OF := Lib.hid OF
  have WC := Lib.hid WC
  have CA := Lib.hid CA
  have CR := Lib.hid CR
  have WK := Lib.hid WK
  have WN := Lib.hid WN
  clear hS
  go_enter Try.func14, Try.ntmps14
  go_wp2_with (first
    | (go_at_call 19; refine (known_any _).mono ?_; rintro e w1 ⟨rfl, hb1⟩)
    | (go_at_call 28; ((with_reducible refine (WN.out _).mono ?_); rintro e w2 ⟨rfl, rfl⟩))
    | (go_at_call 28; ((with_reducible refine (WK.out _).mono ?_); rintro e w2 ⟨rfl, rfl⟩))
    | (at_builtin; go_must (refine wpList_append_own _ rfl _ _ 51 rfl w.heap.size 5 i0 _ 1 1 Try.underlying51 hi hz0 hz1 hz2 rfl (by decide) _ _ _ rfl ((World.ownsRow_nil _ w.heap.size 5 1).alloc _) ⟨w1.heap.size, 0, none⟩ 1 1 [.int .u8 97] rfl rfl (World.news_of_block (World.alloc_heap_new _ _)) (by simp [Value.oneCell']) (by unfold maxLen; omega) (by omega) (Nat.le_trans hb1.size (by simp)) ?_); intro v4 w4 hown4 hg4 _))
  go_loopw [7, 10] (fun b i wr => ∃ j : Nat, i = .int .i64 (j : Int) ∧ j ≤ n ∧ Below w.heap.size w wr ∧ wr.ownsRow w.heap.size 5 1 b (C.lw 1 j).length (Lib.byteCells (C.lw 1 j))) (fun _ i _ => n - (Go.RowKit.intOf i).toNat)
  case atStart =>
    refine ⟨0, rfl, Nat.zero_le _, ((hb1.alloc hb1.size _).grown hg4 (Nat.le_trans hb1.size (by simp)) (fun q e => by cases e)), ?_⟩
    exact hown4
  case round =>
    obtain ⟨j, rfl, hj, hB, hrow⟩ := hrel
    have hlj := C.lw_length 1 j
    have hBs := hB.size
    by_cases hlt : j < n
    · have HT := Lib.hid (show C.lw 1 (j + 1) = C.lw 1 j ++ [204, 129] by simp only [C.lw, C.rep_succ]; rfl)
      obtain ⟨M, hM⟩ : ∃ M, C.lw 1 j = M := ⟨_, rfl⟩
      rw [hM] at hrow hlj
      have HM := Lib.hid hM
      clear hM
      go_wp2_with (at_builtin; go_must (refine wpList_append_own_string _ rfl _ _ 51 9 rfl w.heap.size 5 i0 Try.underlying51 Try.underlying9 hi hz0 hz1 hz2 _ _ _ rfl hrow ⟨#[204, 129]⟩ rfl (by show _ + 2 ≤ maxLen; unfold maxLen; omega) (by show _ + 2 ≤ _; omega) (by omega) ?_); intro v5 w5 hown5 hg5 _)
      go_roundw
      case rel =>
        refine ⟨j + 1, by go_num, hlt, (hB.grown hg5 (by omega) (fun q e => by have := (hrow.lt q e).1; omega)), ?_⟩
        rw [HT.out, HM.out, ← byteCells_app, List.length_append]
        exact hown5
      case measure => simp [Go.RowKit.intOf]; omega
    · obtain rfl : j = n := by omega
      have hcv := strB_of_row _ _ _ _ hrow
      rw [HS.out] at hcv
      go_wp2_with (first
        | (go_at_call 23; ((with_reducible refine (ALL.out _).mono ?_); rintro e w7 ⟨v7, c7, rfl, hb7⟩))
        | (go_at_call 25; ((with_reducible refine (OF.out _).mono ?_); rintro e w8 ⟨rfl, hb8⟩))
        | (go_at_call 28; ((with_reducible refine (WC.out _).mono ?_); rintro e w2 ⟨rfl, rfl⟩))
        | (go_at_call 31; ((with_reducible refine (CA.out _).mono ?_); rintro e w10 ⟨rfl, hb10⟩))
        | (go_at_call 32; ((with_reducible refine (CR.out _).mono ?_); rintro e w11 ⟨rfl, hb11⟩)))
      go_ret
      exact ⟨ret_bool (by first | (simp; done) | (simp; exact zs)), by repeat (first | assumption | refine bst ?_ ‹_›)⟩

set_option maxRecDepth 1000000 in
set_option maxHeartbeats 8000000 in
theorem long2a (kd nn cut : Int) (n : Nat) (hn : n < 40000) (hv : n ≤ 1) (w : World) (WK : ∀ w, Calls Try.prog 28 #[.int .i64 kd, .int .i64 6] w fun e w' => e = .returned (.int .i64 2) ∧ w = w')
    (WN : ∀ w, Calls Try.prog 28 #[.int .i64 nn, .int .i64 40000] w fun e w' => e = .returned (.int .i64 (n : Int)) ∧ w = w') :
    Calls Try.prog 14 #[.int .i64 kd, .int .i64 nn, .int .i64 cut] w fun e w' => e = .returned (.bool true) ∧ Below w.heap.size w w' := by
  obtain ⟨i0, hi, hz0, hz1, hz2⟩ := info_parts Try.infoU8
  have hok := longOk 2 n cut hn w
  obtain ⟨Cc, hCc⟩ : ∃ c, C.lwC 2 n = c := ⟨_, rfl⟩
  obtain ⟨Nn, hNn⟩ : ∃ c, C.lwN 2 n = c := ⟨_, rfl⟩
  rw [hCc, hNn] at hok
  simp only [C.lwC, C.lwN] at hCc hNn
  obtain ⟨S, hS⟩ : ∃ S : ByteArray, (⟨(C.lw 2 n).toArray⟩ : ByteArray) = S := ⟨_, rfl⟩
  rw [hS] at hok
  have HS := Lib.hid hS
  obtain ⟨hz, ALL, OF, k, A, a, c, WC, CA, CR, za, zs, zz, zc⟩ := hok
  rw [za] at zs
  have hNb : Nn ≤ 100000 := by omega
  have hCb : Cc ≤ 100000 := by omega
  obtain rfl : n = Cc := by omega
  have eN : 2 * (n : Int) = (Nn : Int) := by omega
  clear hCc hNn
  have ALL := Lib.hid ALL
  have OF := Lib.hid OF
  have WC := Lib.hid WC
  have CA := Lib.hid CA
  have CR := Lib.hid CR
  have WK := Lib.hid WK
  have WN := Lib.hid WN
  clear hS
  go_enter Try.func14, Try.ntmps14
  go_wp2_with (first
    | (go_at_call 19; refine (known_any _).mono ?_; rintro e w1 ⟨rfl, hb1⟩)
    | (go_at_call 28; ((with_reducible refine (WN.out _).mono ?_); rintro e w2 ⟨rfl, rfl⟩))
    | (go_at_call 28; ((with_reducible refine (WK.out _).mono ?_); rintro e w2 ⟨rfl, rfl⟩)))
  go_loopw [7, 10] (fun b i wr => ∃ j : Nat, i = .int .i64 (j : Int) ∧ j ≤ n ∧ Below w.heap.size w wr ∧ wr.ownsRow w.heap.size 5 1 b (C.lw 2 j).length (Lib.byteCells (C.lw 2 j))) (fun _ i _ => n - (Go.RowKit.intOf i).toNat)
  case atStart =>
    exact ⟨0, rfl, Nat.zero_le _, hb1, World.ownsRow_nil _ _ _ _⟩
  case round =>
    obtain ⟨j, rfl, hj, hB, hrow⟩ := hrel
    have hlj := C.lw_length 2 j
    have hBs := hB.size
    by_cases hlt : j < n
    · by_cases hj0 : j = 0
      · subst hj0
        have hrow0 : wr.ownsRow w.heap.size 5 1 _ 0 [] := hrow
        go_wp2_with (at_builtin; go_must (refine wpList_append_own_string _ rfl _ _ 51 9 rfl w.heap.size 5 i0 Try.underlying51 Try.underlying9 hi hz0 hz1 hz2 _ _ _ rfl hrow0 ⟨#[240, 159, 145, 169]⟩ rfl (by show _ + 4 ≤ maxLen; unfold maxLen; omega) (by show _ + 4 ≤ _; omega) (by omega) ?_); intro v5 w5 hown5 hg5 _)
        go_roundw
        case rel =>
          refine ⟨1, by go_num, by omega, (hB.grown hg5 (by omega) (fun q e => by have := (hrow0.lt q e).1; omega)), ?_⟩
          exact hown5
        case measure => simp [Go.RowKit.intOf]; omega
      · omega
    · obtain rfl : j = n := by omega
      have hcv := strB_of_row _ _ _ _ hrow
      rw [HS.out] at hcv
      go_wp2_with (first
        | (go_at_call 23; ((with_reducible refine (ALL.out _).mono ?_); rintro e w7 ⟨v7, c7, rfl, hb7⟩))
        | (go_at_call 25; ((with_reducible refine (OF.out _).mono ?_); rintro e w8 ⟨rfl, hb8⟩))
        | (go_at_call 28; ((with_reducible refine (WC.out _).mono ?_); rintro e w2 ⟨rfl, rfl⟩))
        | (go_at_call 31; ((with_reducible refine (CA.out _).mono ?_); rintro e w10 ⟨rfl, hb10⟩))
        | (go_at_call 32; ((with_reducible refine (CR.out _).mono ?_); rintro e w11 ⟨rfl, hb11⟩)))
      go_ret
      exact ⟨ret_bool (by first | (simp; done) | (simp; exact zs)), by repeat (first | assumption | refine bst ?_ ‹_›)⟩

set_option maxRecDepth 1000000 in
set_option maxHeartbeats 8000000 in
theorem long2b (kd nn cut : Int) (n : Nat) (hn : n < 40000) (hv : 1 < n) (w : World) (WK : ∀ w, Calls Try.prog 28 #[.int .i64 kd, .int .i64 6] w fun e w' => e = .returned (.int .i64 2) ∧ w = w')
    (WN : ∀ w, Calls Try.prog 28 #[.int .i64 nn, .int .i64 40000] w fun e w' => e = .returned (.int .i64 (n : Int)) ∧ w = w') :
    Calls Try.prog 14 #[.int .i64 kd, .int .i64 nn, .int .i64 cut] w fun e w' => e = .returned (.bool true) ∧ Below w.heap.size w w' := by
  obtain ⟨i0, hi, hz0, hz1, hz2⟩ := info_parts Try.infoU8
  have hok := longOk 2 n cut hn w
  obtain ⟨Cc, hCc⟩ : ∃ c, C.lwC 2 n = c := ⟨_, rfl⟩
  obtain ⟨Nn, hNn⟩ : ∃ c, C.lwN 2 n = c := ⟨_, rfl⟩
  rw [hCc, hNn] at hok
  simp only [C.lwC, C.lwN] at hCc hNn
  obtain ⟨S, hS⟩ : ∃ S : ByteArray, (⟨(C.lw 2 n).toArray⟩ : ByteArray) = S := ⟨_, rfl⟩
  rw [hS] at hok
  have HS := Lib.hid hS
  obtain ⟨hz, ALL, OF, k, A, a, c, WC, CA, CR, za, zs, zz, zc⟩ := hok
  rw [za] at zs
  have hNb : Nn ≤ 100000 := by omega
  have hCb : Cc ≤ 100000 := by omega
  obtain rfl : Cc = 1 := by omega
  obtain rfl : Nn = 2 := by omega
  change ∀ w, Calls _ _ #[_, .int .i64 1] w _ at ALL
  change ∀ w, Calls _ _ #[_, .int .i64 4] w _ at WC
  clear hCc hNn
  have ALL := Lib.hid ALL
  have OF := Lib.hid OF
  have WC := Lib.hid WC
  have CA := Lib.hid CA
  have CR := Lib.hid CR
  have WK := Lib.hid WK
  have WN := Lib.hid WN
  clear hS
  go_enter Try.func14, Try.ntmps14
  go_wp2_with (first
    | (go_at_call 19; refine (known_any _).mono ?_; rintro e w1 ⟨rfl, hb1⟩)
    | (go_at_call 28; ((with_reducible refine (WN.out _).mono ?_); rintro e w2 ⟨rfl, rfl⟩))
    | (go_at_call 28; ((with_reducible refine (WK.out _).mono ?_); rintro e w2 ⟨rfl, rfl⟩)))
  go_loopw [7, 10] (fun b i wr => ∃ j : Nat, i = .int .i64 (j : Int) ∧ j ≤ n ∧ Below w.heap.size w wr ∧ wr.ownsRow w.heap.size 5 1 b (C.lw 2 j).length (Lib.byteCells (C.lw 2 j))) (fun _ i _ => n - (Go.RowKit.intOf i).toNat)
  case atStart =>
    exact ⟨0, rfl, Nat.zero_le _, hb1, World.ownsRow_nil _ _ _ _⟩
  case round =>
    obtain ⟨j, rfl, hj, hB, hrow⟩ := hrel
    have hlj := C.lw_length 2 j
    have hBs := hB.size
    by_cases hlt : j < n
    · by_cases hj0 : j = 0
      · subst hj0
        have hrow0 : wr.ownsRow w.heap.size 5 1 _ 0 [] := hrow
        go_wp2_with (at_builtin; go_must (refine wpList_append_own_string _ rfl _ _ 51 9 rfl w.heap.size 5 i0 Try.underlying51 Try.underlying9 hi hz0 hz1 hz2 _ _ _ rfl hrow0 ⟨#[240, 159, 145, 169]⟩ rfl (by show _ + 4 ≤ maxLen; unfold maxLen; omega) (by show _ + 4 ≤ _; omega) (by omega) ?_); intro v5 w5 hown5 hg5 _)
        go_roundw
        case rel =>
          refine ⟨1, by go_num, by omega, (hB.grown hg5 (by omega) (fun q e => by have := (hrow0.lt q e).1; omega)), ?_⟩
          exact hown5
        case measure => simp [Go.RowKit.intOf]; omega
      · have HT := Lib.hid (show C.lw 2 (j + 1) = C.lw 2 j ++ [226, 128, 141] ++ [240, 159, 145, 169] by
          obtain ⟨i, rfl⟩ : ∃ i, j = i + 1 := ⟨j - 1, by omega⟩
          simp only [C.lw, C.lw2, C.rep_succ, List.append_assoc, List.cons_append, List.nil_append])
        obtain ⟨M, hM⟩ : ∃ M, C.lw 2 j = M := ⟨_, rfl⟩
        rw [hM] at hrow hlj
        have HM := Lib.hid hM
        clear hM
        go_wp2_with (first | (at_builtin; (refine wpList_append_own_string _ rfl _ _ 51 9 rfl w.heap.size 5 i0 Try.underlying51 Try.underlying9 hi hz0 hz1 hz2 _ _ _ rfl hrow ⟨#[226, 128, 141]⟩ rfl (by show _ + 3 ≤ maxLen; unfold maxLen; omega) (by show _ + 3 ≤ _; omega) (by omega) ?_); intro v5 w5 hown5 hg5 _) | (at_builtin; (refine wpList_append_own_string _ rfl _ _ 51 9 rfl w.heap.size 5 i0 Try.underlying51 Try.underlying9 hi hz0 hz1 hz2 _ _ _ rfl hown5 ⟨#[240, 159, 145, 169]⟩ rfl (by have z3 : (⟨#[226, 128, 141]⟩ : ByteArray).size = 3 := rfl; show _ + 4 ≤ maxLen; unfold maxLen; omega) (by have z3 : (⟨#[226, 128, 141]⟩ : ByteArray).size = 3 := rfl; show _ + 4 ≤ _; omega) (by have := hg5.size; omega) ?_); intro v6 w6 hown6 hg6 _))
        go_roundw
        case rel =>
          refine ⟨j + 1, by go_num, hlt, ((hB.grown hg5 (by omega) (fun q e => by have := (hrow.lt q e).1; omega)).grown hg6 (by have := hg5.size; omega) (fun q e => by have := (hown5.lt q e).1; omega)), ?_⟩
          rw [HT.out, HM.out, ← byteCells_app, ← byteCells_app, List.length_append, List.length_append]
          exact hown6
        case measure => simp [Go.RowKit.intOf]; omega
    · obtain rfl : j = n := by omega
      have hcv := strB_of_row _ _ _ _ hrow
      rw [HS.out] at hcv
      go_wp2_with (first
        | (go_at_call 23; ((with_reducible refine (ALL.out _).mono ?_); rintro e w7 ⟨v7, c7, rfl, hb7⟩))
        | (go_at_call 25; ((with_reducible refine (OF.out _).mono ?_); rintro e w8 ⟨rfl, hb8⟩))
        | (go_at_call 28; ((with_reducible refine (WC.out _).mono ?_); rintro e w2 ⟨rfl, rfl⟩))
        | (go_at_call 31; ((with_reducible refine (CA.out _).mono ?_); rintro e w10 ⟨rfl, hb10⟩))
        | (go_at_call 32; ((with_reducible refine (CR.out _).mono ?_); rintro e w11 ⟨rfl, hb11⟩)))
      go_ret
      exact ⟨ret_bool (by first | (simp; done) | (simp; exact zs)), by repeat (first | assumption | refine bst ?_ ‹_›)⟩

set_option maxRecDepth 1000000 in
set_option maxHeartbeats 8000000 in
theorem long3 (kd nn cut : Int) (n : Nat) (hn : n < 40000) (w : World) (WK : ∀ w, Calls Try.prog 28 #[.int .i64 kd, .int .i64 6] w fun e w' => e = .returned (.int .i64 3) ∧ w = w')
    (WN : ∀ w, Calls Try.prog 28 #[.int .i64 nn, .int .i64 40000] w fun e w' => e = .returned (.int .i64 (n : Int)) ∧ w = w') :
    Calls Try.prog 14 #[.int .i64 kd, .int .i64 nn, .int .i64 cut] w fun e w' => e = .returned (.bool true) ∧ Below w.heap.size w w' := by
  obtain ⟨i0, hi, hz0, hz1, hz2⟩ := info_parts Try.infoU8
  have hok := longOk 3 n cut hn w
  obtain ⟨Cc, hCc⟩ : ∃ c, C.lwC 3 n = c := ⟨_, rfl⟩
  obtain ⟨Nn, hNn⟩ : ∃ c, C.lwN 3 n = c := ⟨_, rfl⟩
  rw [hCc, hNn] at hok
  simp only [C.lwC, C.lwN] at hCc hNn
  obtain ⟨S, hS⟩ : ∃ S : ByteArray, (⟨(C.lw 3 n).toArray⟩ : ByteArray) = S := ⟨_, rfl⟩
  rw [hS] at hok
  have HS := Lib.hid hS
  obtain ⟨hz, ALL, OF, k, A, a, c, WC, CA, CR, za, zs, zz, zc⟩ := hok
  rw [za] at zs
  have hNb : Nn ≤ 100000 := by omega
  have hCb : Cc ≤ 100000 := by omega
  subst hCc hNn
  have ALL := Lib.hid ALL
  have OF := Lib.hid OF
  have WC := Lib.hid WC
  have CA := Lib.hid CA
  have CR := Lib.hid CR
  have WK := Lib.hid WK
  have WN := Lib.hid WN
  clear hS
  go_enter Try.func14, Try.ntmps14
  go_wp2_with (first
    | (go_at_call 19; refine (known_any _).mono ?_; rintro e w1 ⟨rfl, hb1⟩)
    | (go_at_call 28; ((with_reducible refine (WN.out _).mono ?_); rintro e w2 ⟨rfl, rfl⟩))
    | (go_at_call 28; ((with_reducible refine (WK.out _).mono ?_); rintro e w2 ⟨rfl, rfl⟩)))
  go_loopw [7, 10] (fun b i wr => ∃ j : Nat, i = .int .i64 (j : Int) ∧ j ≤ n ∧ Below w.heap.size w wr ∧ wr.ownsRow w.heap.size 5 1 b (C.lw 3 j).length (Lib.byteCells (C.lw 3 j))) (fun _ i _ => n - (Go.RowKit.intOf i).toNat)
  case atStart =>
    exact ⟨0, rfl, Nat.zero_le _, hb1, World.ownsRow_nil _ _ _ _⟩
  case round =>
    obtain ⟨j, rfl, hj, hB, hrow⟩ := hrel
    have hlj := C.lw_length 3 j
    have hBs := hB.size
    by_cases hlt : j < n
    · have HT := Lib.hid (show C.lw 3 (j + 1) = C.lw 3 j ++ [228] by simp only [C.lw, C.rep_succ])
      obtain ⟨M, hM⟩ : ∃ M, C.lw 3 j = M := ⟨_, rfl⟩
      rw [hM] at hrow hlj
      have HM := Lib.hid hM
      clear hM
      go_wp2_with (at_builtin; go_must (refine wpList_append_own _ rfl _ _ 51 rfl w.heap.size 5 i0 _ 1 1 Try.underlying51 hi hz0 hz1 hz2 rfl (by decide) _ _ _ rfl (hrow.alloc _) ⟨wr.heap.size, 0, none⟩ 1 1 [.int .u8 228] rfl rfl (World.news_of_block (World.alloc_heap_new _ _)) (by simp [Value.oneCell']) (by unfold maxLen; omega) (by omega) (by simp; omega) ?_); intro v5 w5 hown5 hg5 _)
      go_roundw
      case rel =>
        refine ⟨j + 1, by go_num, hlt, ((hB.alloc hBs _).grown hg5 (by simp; omega) (fun q e => by have := (hrow.lt q e).1; omega)), ?_⟩
        rw [HT.out, HM.out, ← byteCells_app, List.length_append]
        exact hown5
      case measure => simp [Go.RowKit.intOf]; omega
    · obtain rfl : j = n := by omega
      have hcv := strB_of_row _ _ _ _ hrow
      rw [HS.out] at hcv
      go_wp2_with (first
        | (go_at_call 23; ((with_reducible refine (ALL.out _).mono ?_); rintro e w7 ⟨v7, c7, rfl, hb7⟩))
        | (go_at_call 25; ((with_reducible refine (OF.out _).mono ?_); rintro e w8 ⟨rfl, hb8⟩))
        | (go_at_call 28; ((with_reducible refine (WC.out _).mono ?_); rintro e w2 ⟨rfl, rfl⟩))
        | (go_at_call 31; ((with_reducible refine (CA.out _).mono ?_); rintro e w10 ⟨rfl, hb10⟩))
        | (go_at_call 32; ((with_reducible refine (CR.out _).mono ?_); rintro e w11 ⟨rfl, hb11⟩)))
      go_ret
      exact ⟨ret_bool (by first | (simp; done) | (simp; exact zs)), by repeat (first | assumption | refine bst ?_ ‹_›)⟩

set_option maxRecDepth 1000000 in
set_option maxHeartbeats 8000000 in
theorem long4 (kd nn cut : Int) (n : Nat) (hn : n < 40000) (w : World) (WK : ∀ w, Calls Try.prog 28 #[.int .i64 kd, .int .i64 6] w fun e w' => e = .returned (.int .i64 4) ∧ w = w')
    (WN : ∀ w, Calls Try.prog 28 #[.int .i64 nn, .int .i64 40000] w fun e w' => e = .returned (.int .i64 (n : Int)) ∧ w = w') :
    Calls Try.prog 14 #[.int .i64 kd, .int .i64 nn, .int .i64 cut] w fun e w' => e = .returned (.bool true) ∧ Below w.heap.size w w' := by
  obtain ⟨i0, hi, hz0, hz1, hz2⟩ := info_parts Try.infoU8
  have hok := longOk 4 n cut hn w
  obtain ⟨Cc, hCc⟩ : ∃ c, C.lwC 4 n = c := ⟨_, rfl⟩
  obtain ⟨Nn, hNn⟩ : ∃ c, C.lwN 4 n = c := ⟨_, rfl⟩
  rw [hCc, hNn] at hok
  simp only [C.lwC, C.lwN] at hCc hNn
  obtain ⟨S, hS⟩ : ∃ S : ByteArray, (⟨(C.lw 4 n).toArray⟩ : ByteArray) = S := ⟨_, rfl⟩
  rw [hS] at hok
  have HS := Lib.hid hS
  obtain ⟨hz, ALL, OF, k, A, a, c, WC, CA, CR, za, zs, zz, zc⟩ := hok
  rw [za] at zs
  have hNb : Nn ≤ 100000 := by omega
  have hCb : Cc ≤ 100000 := by omega
  subst hCc
  have eN : 2 * (n : Int) = (Nn : Int) := by omega
  clear hNn
  have ALL := Lib.hid ALL
  have OF := Lib.hid OF
  have WC := Lib.hid WC
  have CA := Lib.hid CA
  have CR := Lib.hid CR
  have WK := Lib.hid WK
  have WN := Lib.hid WN
  clear hS
  go_enter Try.func14, Try.ntmps14
  go_wp2_with (first
    | (go_at_call 19; refine (known_any _).mono ?_; rintro e w1 ⟨rfl, hb1⟩)
    | (go_at_call 28; ((with_reducible refine (WN.out _).mono ?_); rintro e w2 ⟨rfl, rfl⟩))
    | (go_at_call 28; ((with_reducible refine (WK.out _).mono ?_); rintro e w2 ⟨rfl, rfl⟩)))
  go_loopw [7, 10] (fun b i wr => ∃ j : Nat, i = .int .i64 (j : Int) ∧ j ≤ n ∧ Below w.heap.size w wr ∧ wr.ownsRow w.heap.size 5 1 b (C.lw 4 j).length (Lib.byteCells (C.lw 4 j))) (fun _ i _ => n - (Go.RowKit.intOf i).toNat)
  case atStart =>
    exact ⟨0, rfl, Nat.zero_le _, hb1, World.ownsRow_nil _ _ _ _⟩
  case round =>
    obtain ⟨j, rfl, hj, hB, hrow⟩ := hrel
    have hlj := C.lw_length 4 j
    have hBs := hB.size
    by_cases hlt : j < n
    · have HT := Lib.hid (show C.lw 4 (j + 1) = C.lw 4 j ++ [228, 184, 173] by simp only [C.lw, C.rep_succ])
      obtain ⟨M, hM⟩ : ∃ M, C.lw 4 j = M := ⟨_, rfl⟩
      rw [hM] at hrow hlj
      have HM := Lib.hid hM
      clear hM
      go_wp2_with (at_builtin; go_must (refine wpList_append_own_string _ rfl _ _ 51 9 rfl w.heap.size 5 i0 Try.underlying51 Try.underlying9 hi hz0 hz1 hz2 _ _ _ rfl hrow ⟨#[228, 184, 173]⟩ rfl (by show _ + 3 ≤ maxLen; unfold maxLen; omega) (by show _ + 3 ≤ _; omega) (by omega) ?_); intro v5 w5 hown5 hg5 _)
      go_roundw
      case rel =>
        refine ⟨j + 1, by go_num, hlt, (hB.grown hg5 (by omega) (fun q e => by have := (hrow.lt q e).1; omega)), ?_⟩
        rw [HT.out, HM.out, ← byteCells_app, List.length_append]
        exact hown5
      case measure => simp [Go.RowKit.intOf]; omega
    · obtain rfl : j = n := by omega
      have hcv := strB_of_row _ _ _ _ hrow
      rw [HS.out] at hcv
      go_wp2_with (first
        | (go_at_call 23; ((with_reducible refine (ALL.out _).mono ?_); rintro e w7 ⟨v7, c7, rfl, hb7⟩))
        | (go_at_call 25; ((with_reducible refine (OF.out _).mono ?_); rintro e w8 ⟨rfl, hb8⟩))
        | (go_at_call 28; ((with_reducible refine (WC.out _).mono ?_); rintro e w2 ⟨rfl, rfl⟩))
        | (go_at_call 31; ((with_reducible refine (CA.out _).mono ?_); rintro e w10 ⟨rfl, hb10⟩))
        | (go_at_call 32; ((with_reducible refine (CR.out _).mono ?_); rintro e w11 ⟨rfl, hb11⟩)))
      go_ret
      exact ⟨ret_bool (by first | (simp; done) | (simp; exact zs)), by repeat (first | assumption | refine bst ?_ ‹_›)⟩

set_option maxRecDepth 1000000 in
set_option maxHeartbeats 8000000 in
theorem long5 (kd nn cut : Int) (n : Nat) (hn : n < 40000) (w : World) (WK : ∀ w, Calls Try.prog 28 #[.int .i64 kd, .int .i64 6] w fun e w' => e = .returned (.int .i64 5) ∧ w = w')
    (WN : ∀ w, Calls Try.prog 28 #[.int .i64 nn, .int .i64 40000] w fun e w' => e = .returned (.int .i64 (n : Int)) ∧ w = w') :
    Calls Try.prog 14 #[.int .i64 kd, .int .i64 nn, .int .i64 cut] w fun e w' => e = .returned (.bool true) ∧ Below w.heap.size w w' := by
  obtain ⟨i0, hi, hz0, hz1, hz2⟩ := info_parts Try.infoU8
  have hok := longOk 5 n cut hn w
  obtain ⟨Cc, hCc⟩ : ∃ c, C.lwC 5 n = c := ⟨_, rfl⟩
  obtain ⟨Nn, hNn⟩ : ∃ c, C.lwN 5 n = c := ⟨_, rfl⟩
  rw [hCc, hNn] at hok
  simp only [C.lwC, C.lwN] at hCc hNn
  obtain ⟨S, hS⟩ : ∃ S : ByteArray, (⟨(C.lw 5 n).toArray⟩ : ByteArray) = S := ⟨_, rfl⟩
  rw [hS] at hok
  have HS := Lib.hid hS
  obtain ⟨hz, ALL, OF, k, A, a, c, WC, CA, CR, za, zs, zz, zc⟩ := hok
  rw [za] at zs
  have hNb : Nn ≤ 100000 := by omega
  have hCb : Cc ≤ 100000 := by omega
  subst hCc hNn
  change ∀ w, Calls _ _ #[_, .int .i64 2] w _ at WC
  have ALL := Lib.hid ALL
  have OF := Lib.hid OF
  have WC := Lib.hid WC
  have CA := Lib.hid CA
  have CR := Lib.hid CR
  have WK := Lib.hid WK
  have WN := Lib.hid WN
  clear hS
  go_enter Try.func14, Try.ntmps14
  go_wp2_with (first
    | (go_at_call 19; refine (known_any _).mono ?_; rintro e w1 ⟨rfl, hb1⟩)
    | (go_at_call 28; ((with_reducible refine (WN.out _).mono ?_); rintro e w2 ⟨rfl, rfl⟩))
    | (go_at_call 28; ((with_reducible refine (WK.out _).mono ?_); rintro e w2 ⟨rfl, rfl⟩)))
  go_loopw [7, 10] (fun b i wr => ∃ j : Nat, i = .int .i64 (j : Int) ∧ j ≤ n ∧ Below w.heap.size w wr ∧ wr.ownsRow w.heap.size 5 1 b (C.lw 5 j).length (Lib.byteCells (C.lw 5 j))) (fun _ i _ => n - (Go.RowKit.intOf i).toNat)
  case atStart =>
    exact ⟨0, rfl, Nat.zero_le _, hb1, World.ownsRow_nil _ _ _ _⟩
  case round =>
    obtain ⟨j, rfl, hj, hB, hrow⟩ := hrel
    have hlj := C.lw_length 5 j
    have hBs := hB.size
    by_cases hlt : j < n
    · have HT := Lib.hid (show C.lw 5 (j + 1) = C.lw 5 j ++ [10] by simp only [C.lw, C.rep_succ])
      obtain ⟨M, hM⟩ : ∃ M, C.lw 5 j = M := ⟨_, rfl⟩
      rw [hM] at hrow hlj
      have HM := Lib.hid hM
      clear hM
      go_wp2_with (at_builtin; go_must (refine wpList_append_own _ rfl _ _ 51 rfl w.heap.size 5 i0 _ 1 1 Try.underlying51 hi hz0 hz1 hz2 rfl (by decide) _ _ _ rfl (hrow.alloc _) ⟨wr.heap.size, 0, none⟩ 1 1 [.int .u8 10] rfl rfl (World.news_of_block (World.alloc_heap_new _ _)) (by simp [Value.oneCell']) (by unfold maxLen; omega) (by omega) (by simp; omega) ?_); intro v5 w5 hown5 hg5 _)
      go_roundw
      case rel =>
        refine ⟨j + 1, by go_num, hlt, ((hB.alloc hBs _).grown hg5 (by simp; omega) (fun q e => by have := (hrow.lt q e).1; omega)), ?_⟩
        rw [HT.out, HM.out, ← byteCells_app, List.length_append]
        exact hown5
      case measure => simp [Go.RowKit.intOf]; omega
    · obtain rfl : j = n := by omega
      have hcv := strB_of_row _ _ _ _ hrow
      rw [HS.out] at hcv
      go_wp2_with (first
        | (go_at_call 23; ((with_reducible refine (ALL.out _).mono ?_); rintro e w7 ⟨v7, c7, rfl, hb7⟩))
        | (go_at_call 25; ((with_reducible refine (OF.out _).mono ?_); rintro e w8 ⟨rfl, hb8⟩))
        | (go_at_call 28; ((with_reducible refine (WC.out _).mono ?_); rintro e w2 ⟨rfl, rfl⟩))
        | (go_at_call 31; ((with_reducible refine (CA.out _).mono ?_); rintro e w10 ⟨rfl, hb10⟩))
        | (go_at_call 32; ((with_reducible refine (CR.out _).mono ?_); rintro e w11 ⟨rfl, hb11⟩)))
      go_ret
      exact ⟨ret_bool (by first | (simp; done) | (simp; exact zs)), by repeat (first | assumption | refine bst ?_ ‹_›)⟩

theorem cellLong_law (kd nn cut : Int) (h0 : (Lit.int .i64 kd).wf = true) (h1 : (Lit.int .i64 nn).wf = true) (h2 : (Lit.int .i64 cut).wf = true) (w : World) : Calls Try.prog 14 #[.int .i64 kd, .int .i64 nn, .int .i64 cut] w fun e w' => e = .returned (.bool true) ∧ Below w.heap.size w w' := by
  obtain ⟨n, hn, WN⟩ := within_nat nn 40000 w (by omega) (by omega)
  obtain ⟨k, hk, WK⟩ := within_nat kd 6 w (by omega) (by omega)
  match k, hk, WK with
  | 0, _, WK => exact long0 kd nn cut n hn w WK WN
  | 1, _, WK => exact long1 kd nn cut n hn w WK WN
  | 2, _, WK =>
    by_cases hv : n ≤ 1
    · exact long2a kd nn cut n hn hv w WK WN
    · exact long2b kd nn cut n hn (by omega) w WK WN
  | 3, _, WK => exact long3 kd nn cut n hn w WK WN
  | 4, _, WK => exact long4 kd nn cut n hn w WK WN
  | 5, _, WK => exact long5 kd nn cut n hn w WK WN
end Go.Proofs.Ytcngfcckajpkhaa
