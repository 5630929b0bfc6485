/- The law of what stands behind. -/
import Derived.Test.YtcngfcckajpkhaaCellAll
import Derived.Test.YtcngfcckajpkhaaKMelts
import Derived.BigQuiet
import Derived.BigRegion
set_option linter.unusedVariables false
set_option linter.unusedSimpArgs false
namespace Go.Proofs.Ytcngfcckajpkhaa
open Go.RowKit Go.Shelf Go.Lib Go.BigFrame
attribute [local go_sem] Oper.semAt_some

theorem toks_unmelt (a b : List UInt8) (h : meltsB a b = false) : U.toks (a ++ b) = U.toks a ++ U.toks b := by
  unfold meltsB at h
  rw [List.any_eq_false] at h
  exact U.toks_seam b a 0 (fun x hx => by
    have h1 := h x hx
    simp only [overSeam, Bool.and_eq_true, decide_eq_true_eq] at h1
    simpa using h1)

set_option maxRecDepth 1000000 in
set_option maxHeartbeats 4000000 in
theorem cellBehind_law (s t : ByteArray) (hs : s.size ≤ 1048576) (ht : t.size ≤ 1048576) (w : World) : Calls Try.prog 10 #[.string s, .string t] w fun e w' => e = .returned (.bool true) ∧ Below w.heap.size w w' := by
  have hst : (s ++ t).size = s.size + t.size := by simp
  have hll := toks_len (s := s)
  have hcl := C.clus_length_le (U.toks s.data.toList)
  have hll2 := toks_len (s := s ++ t)
  have hcl2 := C.clus_length_le (U.toks (s ++ t).data.toList)
  rw [hst] at hll2
  have ML := fun w => meltsR_any s t w (by omega) (by omega)
  have AL := fun w => all_any s s.size w (by omega) (by omega) (by omega)
  have AT := fun w => all_any (s ++ t) (s.size + t.size) w (by omega) (by omega) (by omega)
  rw [Int.natCast_add] at AT
  cases hm : meltsB s.data.toList t.data.toList with
  | true =>
    rw [hm] at ML
    have ML := Lib.hid ML
    clear AL AT
    go_enter Try.func10, Try.ntmps10
    go_wp2_with (first
      | (go_at_call 19; refine (known_any _).mono ?_; rintro e w1 ⟨rfl, hb1⟩)
      | (go_at_call 29; ((with_reducible refine (ML.out _).mono ?_); rintro e w2 ⟨rfl, hb2⟩)))
    go_ret
    exact ⟨rfl, bst hb1 hb2⟩
  | false =>
    rw [hm] at ML
    have hap : (s ++ t).data.toList = s.data.toList ++ t.data.toList := by simp
    have hbh := C.clus_behind (U.toks s.data.toList) (U.toks t.data.toList)
    rw [← toks_unmelt _ _ hm, ← hap] at hbh
    obtain ⟨l, hl⟩ : ∃ l, C.clus (U.toks s.data.toList) = l := ⟨_, rfl⟩
    obtain ⟨l2, hl2⟩ : ∃ l, C.clus (U.toks (s ++ t).data.toList) = l := ⟨_, rfl⟩
    rw [hl] at hcl AL hbh
    rw [hl2] at hcl2 AT hbh
    obtain ⟨hle, heq⟩ := hbh
    have ML := Lib.hid ML
    have AL := Lib.hid AL
    have AT := Lib.hid AT
    have HEQ := Lib.hid heq
    have hno : decide (l2.length < l.length) = false := decide_eq_false (by omega)
    have hsz1 : l.length ≤ 1048576 := by omega
    have hsz2 : l2.length ≤ 2097152 := by omega
    clear hl hl2 heq hap hm hst hll hcl hll2 hcl2
    go_enter Try.func10, Try.ntmps10
    go_wp2_with (first
      | (go_at_call 19; refine (known_any _).mono ?_; rintro e w1 ⟨rfl, hb1⟩)
      | (go_at_call 29; ((with_reducible refine (ML.out _).mono ?_); rintro e w2 ⟨rfl, hb2⟩))
      | (go_at_call 23; ((with_reducible refine (AL.out _).mono ?_); rintro e w3 ⟨v3, rfl, hb3, hr3⟩; obtain ⟨A3, cp3, rfl, hA3⟩ := own_form hr3))
      | (go_at_call 23; ((with_reducible refine (AT.out _).mono ?_); rintro e w4 ⟨v4, rfl, hb4, hr4⟩; obtain ⟨A4, cp4, rfl, hA4⟩ := own_form hr4)))
    have hr3' := own_below hr3 hb4
    have hB4 : Below w.heap.size w w4 := bst (bst (bst hb1 hb2) hb3) hb4
    go_loopw [9] (fun i wr => ∃ k : Nat, i = .int .i64 (k : Int) ∧ k ≤ l.length ∧ Below w.heap.size w wr ∧ Below w4.heap.size w4 wr) (fun i _ => l.length - (intOf i).toNat)
    case atStart => exact ⟨0, rfl, Nat.zero_le _, hB4, Below.refl _ _⟩
    case round =>
      obtain ⟨k, rfl, hk, hB, hB'⟩ := hrel
      by_cases hlt : k + 1 < l.length
      · obtain ⟨g3, rfl⟩ := hA3 (by omega)
        obtain ⟨g4, rfl⟩ := hA4 (by omega)
        obtain ⟨x, hx⟩ : ∃ s, l[k]? = some s := ⟨_, List.getElem?_eq_getElem (by omega)⟩
        have hx2 := (HEQ.out k hlt).symm.trans hx
        obtain ⟨b0, b1, b2, b3, b4⟩ := cellsC_at (own_below hr3' hB') hx
        obtain ⟨c0, c1, c2, c3, c4⟩ := cellsC_at (own_below hr4 hB') hx2
        have he := fun w => eq_cellsC x x w
        rw [decide_eq_true rfl] at he
        unfold encC at he
        have i1 : (0 : Int) ≤ (k : Int) := by omega
        have i2 : (k : Int) < (l.length : Int) := by omega
        have i3 : (k : Int) < (l2.length : Int) := by omega
        clear hx hx2 hr3 hr3' hr4
        go_wp2
        go_quiet (fail)
        go_wp2
        go_roundw
        case rel => exact ⟨k + 1, by go_num, by omega, below_dn hB _, below_dn hB' _⟩
        case measure => simp [intOf]; omega
      · have hno2 : ¬ ((k : Int) + 1 < (l.length : Int)) := by omega
        go_wp2
        go_ret
        exact ⟨rfl, hB⟩
end Go.Proofs.Ytcngfcckajpkhaa
