/- The law of isolates in one another. -/
import Derived.Test.YtclblidfamabdaaBdDe
import Derived.Laws.Cover4
import Derived.Laws.IdiomStrings
set_option linter.unusedVariables false
set_option linter.unusedSimpArgs false
namespace Go.Proofs.Ytclblidfamabdaa
open Go.RowKit Go.Shelf Go.Lib Go.BigFrame
attribute [local go_sem] Oper.semAt_some

theorem dpL_le (kd base : Nat) : ∀ d, dpL kd base d ≤ base + 2 * d := by
  intro d
  induction d with
  | zero => exact Nat.le_refl _
  | succ d ih =>
    show dpN kd (dpL kd base d) ≤ _
    unfold dpN
    split <;> omega
theorem dpB_len (n kd : Nat) : (dpB n kd).length = 3 * n + 1 := by
  induction n with
  | zero => rfl
  | succ n ih => rw [dpB_succ, List.length_append, ih]; simp; omega
def isoS (kd : Nat) : ByteArray := ⟨#[226, 129, (166 + kd).toUInt8]⟩
theorem isoS_is : ∀ kd : Fin 3, runesBytes [(8294 : Int) + (kd.1 : Int)] = isoS kd.1 := by decide +kernel
theorem iso_conv (kd : Nat) (hk : kd < 3) (W : World) : (convert 44 9 (.slice (some ⟨W.heap.size, 0, none⟩) 1 1)).run Try.prog (W.alloc (.cells #[.int .i32 ((8294 : Int) + (kd : Int))] 21)) = .ok (.string (isoS kd)) (W.alloc (.cells #[.int .i32 ((8294 : Int) + (kd : Int))] 21)) := by
  have := run_convert_runes (P := Try.prog) (W.alloc (.cells #[.int .i32 ((8294 : Int) + (kd : Int))] 21)) 44 9 21 ⟨W.heap.size, 0, none⟩ 1 1 [(8294 : Int) + (kd : Int)] (by simp) Try.underlying44 Try.underlying21 Try.underlying9 (fun j hj => by
    obtain rfl : j = 0 := by simp at hj; exact hj
    rw [Go.WideShapes.add_plain]
    exact (cell_new W (.int .i32 ((8294 : Int) + (kd : Int))) 21).1)
  rw [this]
  have := isoS_is ⟨kd, hk⟩
  simp only at this
  rw [show List.take 1 [(8294 : Int) + (kd : Int)] = [(8294 : Int) + (kd : Int)] from rfl, this]

set_option maxRecDepth 1000000 in
set_option maxHeartbeats 8000000 in
theorem bidiDeep_core (n0 k0 b0 : Int) (N kd b : Nat) (w : World) (hN : N < 200) (hk : kd < 3) (hb : b < 2) (en : n0 % 200 = (N : Int)) (ek : k0 % 3 = (kd : Int)) (eb : b0 % 2 = (b : Int)) :
    Calls Try.prog 9 #[.int .i64 n0, .int .i64 k0, .int .i64 b0] w fun e w' => e = .returned (.bool true) ∧ Below w.heap.size w w' := by
  have W1 : Hid (∀ w, Calls Try.prog 17 #[.int .i64 n0, .int .i64 200] w fun e w' => e = .returned (.int .i64 (N : Int)) ∧ w = w') := Lib.hid (fun w => by
    have := within4_any n0 200 w (by omega) (by omega); rw [show ((200 : Nat) : Int) = 200 from rfl, en] at this; exact this)
  have W2 : Hid (∀ w, Calls Try.prog 17 #[.int .i64 b0, .int .i64 2] w fun e w' => e = .returned (.int .i64 (b : Int)) ∧ w = w') := Lib.hid (fun w => by
    have := within4_any b0 2 w (by omega) (by omega); rw [show ((2 : Nat) : Int) = 2 from rfl, eb] at this; exact this)
  have W3 : Hid (∀ w, Calls Try.prog 17 #[.int .i64 k0, .int .i64 3] w fun e w' => e = .returned (.int .i64 (kd : Int)) ∧ w = w') := Lib.hid (fun w => by
    have := within4_any k0 3 w (by omega) (by omega); rw [show ((3 : Nat) : Int) = 3 from rfl, ek] at this; exact this)
  have LE : Hid (∀ (w : World) (S : ByteArray), S.data.toList = dpB N kd ++ dpE → Calls Try.prog 18 #[.string S, .int .i64 (b : Int)] w fun e w' => ∃ A g cap, e = .returned (.tuple #[.slice (some ⟨g, 0, none⟩) (N + 2) cap, .int .i64 0]) ∧ Below w.heap.size w w' ∧ w'.cell? ⟨g, N + 1, none⟩ = some (.int .i64 ((B.lvl (dpL kd b (if N ≤ 60 then N else 60)) 17 : Nat) : Int)) ∧ A = g) := Lib.hid (fun w S hS => by
    have ht : U.toks S.data.toList = dpT N kd := by rw [hS, dp_toks N kd hk]
    have hz : S.size ≤ 4194304 := by
      have : S.size = (dpB N kd ++ dpE).length := by rw [← hS]; exact U.size_eq S
      rw [List.length_append, dpB_len] at this
      have h3 : dpE.length = 3 := rfl
      omega
    refine (levels_any S b (by omega) w hz (N + 2) (by rw [ht]; exact (dp_single N kd hk).1) (B.kcl (dpT N kd)) (by rw [ht])).mono ?_
    rintro e w' ⟨v, rfl, h1, h2⟩
    obtain ⟨A, cap, rfl, hc, hA⟩ := ownN_form h2
    obtain ⟨g, rfl⟩ := hA (by omega)
    refine ⟨g, g, cap, rfl, h1, ?_, rfl⟩
    have := cells_at h2 (N + 1) _ (ns_at _ (by omega))
    rw [this]
    show some (Value.int .i64 ((B.lvAll b (B.kcl (dpT N kd)) (N + 2) (N + 1) : Nat) : Int)) = _
    rw [dp_last N kd b hk])
  have CV := iso_conv kd hk
  have hLb : ∀ d, d ≤ 60 → dpL kd b d ≤ 200 := fun d hd => by have := dpL_le kd b d; omega
  have HLB := Lib.hid hLb
  have HLS : Hid (∀ d, dpL kd b (d + 1) = if decide ((dpL kd b d + 1) % 2 = 1) = decide (kd = 1) then dpL kd b d + 1 else dpL kd b d + 2) := Lib.hid (fun d => rfl)
  have HTS : Hid (∀ i (T : ByteArray), T.data.toList = dpB i kd → (T ++ isoS kd).data.toList = dpB (i + 1) kd) := Lib.hid (fun i T h => by rw [dpB_succ]; simp [h, isoS])
  obtain ⟨LV, hLV⟩ : ∃ f, dpL kd b = f := ⟨_, rfl⟩
  rw [hLV] at HLB HLS LE
  have HLV0 : Hid (LV 0 = b) := Lib.hid (by rw [← hLV]; rfl)
  obtain ⟨IS, hIS⟩ : ∃ s, isoS kd = s := ⟨_, rfl⟩
  have hIz : IS.size ≤ 3 := by rw [← hIS]; exact Nat.le_refl _
  rw [hIS] at CV HTS
  clear hLb hLV en ek eb hIS
  go_enter Try.func9, Try.ntmps9
  go_wp2_with (first
    | (go_at_call 17; (with_reducible refine (W1.out _).mono ?_); rintro e w1 ⟨rfl, rfl⟩)
    | (go_at_call 17; (with_reducible refine (W2.out _).mono ?_); rintro e w1 ⟨rfl, rfl⟩)
    | (go_at_call 17; (with_reducible refine (W3.out _).mono ?_); rintro e w1 ⟨rfl, rfl⟩)
    | fail)
  go_loopw [7, 8, 9] (fun tv lv iv wx => ∃ (i : Nat) (T : ByteArray), iv = .int .i64 (i : Int) ∧ i ≤ N ∧ tv = .string T ∧ Hid (T.data.toList = dpB i kd) ∧ lv = .int .i64 (LV (if i ≤ 60 then i else 60) : Int) ∧ Below w.heap.size w wx) (fun _ _ iv _ => N - (RowKit.intOf iv).toNat)
  case atStart => exact ⟨0, _, rfl, Nat.zero_le _, rfl, Lib.hid rfl, by rw [if_pos (Nat.zero_le _), HLV0.out], Below.refl _ _⟩
  case round =>
    obtain ⟨i, T, rfl, hi, rfl, hT, rfl, hB⟩ := hrel
    have hTz : T.size ≤ 700 := by rw [U.size_eq, hT.out, dpB_len]; omega
    by_cases hlt : i < N
    · have HB := Lib.hid hB
      have hBs := hB.size
      clear hB
      by_cases h60 : i < 60
      · rw [if_pos (by omega)]
        have hs := HLS.out i
        have hle := HLB.out i (by omega)
        obtain ⟨e, he⟩ : ∃ e, LV i = e := ⟨_, rfl⟩
        rw [he] at hs hle ⊢
        have HS := Lib.hid hs
        have h60' : (i : Int) < 60 := by omega
        clear hs he
        by_cases hk1 : kd = 1
        · have b1 : ((kd : Int) != 1) = false := by rw [hk1]; rfl
          have b2 : ((kd : Int) == 1) = true := by rw [hk1]; rfl
          by_cases hp : (e + 1) % 2 = 1
          · have p1 : (((e : Int) + 1) % 2 == 0) = false := by simp; omega
            have hv : LV (i + 1) = e + 1 := by rw [HS.out, decide_eq_true hp, decide_eq_true hk1, if_pos rfl]
            have HV := Lib.hid hv
            clear hv hp hk1
            go_wp2_with fail
            refine ⟨?rel, ?measure⟩
            case rel => exact ⟨i + 1, _, by go_num, hlt, rfl, Lib.hid (HTS.out i T hT.out), by rw [if_pos (by omega), HV.out]; go_num, HB.out.alloc hBs _⟩
            case measure => simp [RowKit.intOf]; omega
          · have p1 : (((e : Int) + 1) % 2 == 0) = true := by simp; omega
            have hv : LV (i + 1) = e + 2 := by rw [HS.out, decide_eq_false hp, decide_eq_true hk1, if_neg (by decide)]
            have HV := Lib.hid hv
            clear hv hp hk1
            go_wp2_with fail
            refine ⟨?rel, ?measure⟩
            case rel => exact ⟨i + 1, _, by go_num, hlt, rfl, Lib.hid (HTS.out i T hT.out), by rw [if_pos (by omega), HV.out]; go_num, HB.out.alloc hBs _⟩
            case measure => simp [RowKit.intOf]; omega
        · have b1 : ((kd : Int) != 1) = true := by simp; omega
          have b2 : ((kd : Int) == 1) = false := by simp; omega
          by_cases hp : (e + 1) % 2 = 1
          · have p1 : (((e : Int) + 1) % 2 == 1) = true := by simp; omega
            have hv : LV (i + 1) = e + 2 := by rw [HS.out, decide_eq_true hp, decide_eq_false hk1, if_neg (by decide)]
            have HV := Lib.hid hv
            clear hv hp hk1
            go_wp2_with fail
            refine ⟨?rel, ?measure⟩
            case rel => exact ⟨i + 1, _, by go_num, hlt, rfl, Lib.hid (HTS.out i T hT.out), by rw [if_pos (by omega), HV.out]; go_num, HB.out.alloc hBs _⟩
            case measure => simp [RowKit.intOf]; omega
          · have p1 : (((e : Int) + 1) % 2 == 1) = false := by simp; omega
            have hv : LV (i + 1) = e + 1 := by rw [HS.out, decide_eq_false hp, decide_eq_false hk1, if_pos rfl]
            have HV := Lib.hid hv
            clear hv hp hk1
            go_wp2_with fail
            refine ⟨?rel, ?measure⟩
            case rel => exact ⟨i + 1, _, by go_num, hlt, rfl, Lib.hid (HTS.out i T hT.out), by rw [if_pos (by omega), HV.out]; go_num, HB.out.alloc hBs _⟩
            case measure => simp [RowKit.intOf]; omega
      · have h60' : ¬ (i : Int) < 60 := by omega
        have e1 : (if i ≤ 60 then i else 60) = 60 := by split <;> omega
        rw [e1]
        obtain ⟨e, he⟩ : ∃ e, LV 60 = e := ⟨_, rfl⟩
        rw [he]
        have HE := Lib.hid he
        clear he e1
        go_wp2_with fail
        refine ⟨?rel, ?measure⟩
        case rel => exact ⟨i + 1, _, by go_num, hlt, rfl, Lib.hid (HTS.out i T hT.out), by rw [if_neg (by omega), HE.out], HB.out.alloc hBs _⟩
        case measure => simp [RowKit.intOf]; omega
    · obtain rfl : N = i := by omega
      have hle := HLB.out (if N ≤ 60 then N else 60) (by split <;> omega)
      obtain ⟨e, he⟩ : ∃ e, LV (if N ≤ 60 then N else 60) = e := ⟨_, rfl⟩
      rw [he] at LE hle ⊢
      have L2 := Lib.hid (LE.out wr (T ++ ⟨#[228, 184, 173]⟩) (by simp [hT.out, dpE]))
      have HB := Lib.hid hB
      clear hB he LE
      by_cases hod : e % 2 = 1
      · have ho : (e : Int) % 2 = 1 := by omega
        have hv : (B.lvl e 17 : Int) = (e : Int) + 1 := by unfold B.lvl; rw [if_pos hod, if_neg (by decide)]; omega
        rw [hv] at L2
        clear hv hod
        go_wp2_with (first
          | (go_at_call 18; (with_reducible refine L2.out.mono ?_); rintro e w5 ⟨A5, g5, c5, rfl, hb5, hc5, _⟩; have e1 : ((N : Int) + 2 - 1) = ((N + 1 : Nat) : Int) := (by omega))
          | (go_at_call 16; (with_reducible refine (head_any _).mono ?_); rintro e w6 ⟨rfl, hb6⟩)
          | fail)
        go_ret
        exact ⟨rfl, bst (bst HB.out hb5) hb6⟩
      · have ho : (e : Int) % 2 = 0 := by omega
        have hv : (B.lvl e 17 : Int) = (e : Int) := by unfold B.lvl; rw [if_neg hod, if_neg (by decide), if_pos rfl]
        rw [hv] at L2
        clear hv hod
        go_wp2_with (first
          | (go_at_call 18; (with_reducible refine L2.out.mono ?_); rintro e w5 ⟨A5, g5, c5, rfl, hb5, hc5, _⟩; have e1 : ((N : Int) + 2 - 1) = ((N + 1 : Nat) : Int) := (by omega))
          | (go_at_call 16; (with_reducible refine (head_any _).mono ?_); rintro e w6 ⟨rfl, hb6⟩)
          | fail)
        go_ret
        exact ⟨rfl, bst (bst HB.out hb5) hb6⟩
theorem bidiDeep_law (n0 k0 b0 : Int) (h1 : (Lit.int .i64 n0).wf = true) (h2 : (Lit.int .i64 k0).wf = true) (h3 : (Lit.int .i64 b0).wf = true) (w : World) :
    Calls Try.prog 9 #[.int .i64 n0, .int .i64 k0, .int .i64 b0] w fun e w' => e = .returned (.bool true) ∧ Below w.heap.size w w' :=
  bidiDeep_core n0 k0 b0 (n0 % 200).toNat (k0 % 3).toNat (b0 % 2).toNat w (by omega) (by omega) (by omega) (by omega) (by omega) (by omega)
end Go.Proofs.Ytclblidfamabdaa
