/- The law of the seams. -/
import Derived.Test.YtokbmihjpllgpaaSeamsP
import Derived.Test.YtokbmihjpllgpaaMelts4
import Derived.Test.YtokbmihjpllgpaaLawRepairs
set_option linter.unusedVariables false
namespace Go.Proofs.Ytokbmihjpllgpaa
open Go.RowKit Go.Shelf Go.Lib Go.BigFrame
attribute [local go_sem] Oper.semAt_some

/-- So far. -/
def SoFar (L X Y : List U.Sg) (B : Bool) (k : Nat) : Prop := (B = true → dif L X Y = true) ∧ (B = false → L.length = X.length + Y.length ∧ L.take k = (X ++ Y).take k)
theorem soFar_step {L X Y : List U.Sg} {k : Nat} {s z : U.Sg} {B : Bool} (h : SoFar L X Y false k) (hz : L[k]? = some z) (hs : (X ++ Y)[k]? = some s) (hB : decide (s = z) = B) : SoFar L X Y (!B) (k + 1) := by
  obtain ⟨h1, h2⟩ := h.2 rfl
  subst hB
  refine ⟨fun e => dif_at hz hs (fun e' => ?_), fun e => ⟨h1, ?_⟩⟩
  · subst e'; simp at e
  · have : s = z := by simpa using e
    subst this
    exact same_succ h2 hz hs
theorem soFar_end {L X Y : List U.Sg} {k : Nat} (h : SoFar L X Y false k) (hk : k = X.length + Y.length) : dif L X Y = false := by
  obtain ⟨h1, h2⟩ := h.2 rfl
  refine dif_not h1 ?_
  rw [h1, ← hk]
  exact h2

set_option maxRecDepth 1000000 in
set_option maxHeartbeats 4000000 in
theorem utfSeams_law (a b : ByteArray) (ha : a.size ≤ 1048576) (hab : a.size + b.size ≤ 1048576) (w : World) :
    Calls Try.prog 10 #[.string a, .string b] w fun e w' => e = .returned (.bool true) ∧ Below w.heap.size w w' := by
  have hsz : (a ++ b).size = a.size + b.size := by simp
  have ra := repB_size a
  have rb := repB_size b
  have la := signs_len_le a
  have lb := signs_len_le b
  have lab := signs_len_le (a ++ b)
  have A1 := fun w => all_any a w (by omega)
  have A2 := fun w => all_any (a ++ b) w (by omega)
  have MV := fun v b0 w h0 hv => moved_any v (U.signs a.data.toList) b0 b a.size w (by omega) ha (by omega) h0 hv
  have R1 := fun w => repairU_any a w (by omega)
  have R2 := fun w => repairU_any b w (by omega)
  have M1 := fun w => melts4_any a b w (by omega)
  have M2 := fun w => melts4_any (repB a) (repB b) w (by omega)
  have M3 := fun w => melts4_any a ⟨#[]⟩ w (by rw [show (ByteArray.mk #[]).size = 0 from rfl]; omega)
  have M4 := fun w => melts4_any ⟨#[]⟩ b w (by rw [show (ByteArray.mk #[]).size = 0 from rfl]; omega)
  rw [melts_rep] at M2
  rw [show meltsB a.data.toList (ByteArray.mk #[]).data.toList = false from melts_right _] at M3
  rw [show meltsB (ByteArray.mk #[]).data.toList b.data.toList = false from melts_left _] at M4
  have md := melts_dif a b
  rw [md] at M1
  obtain ⟨T, hT⟩ : ∃ T, repB a = T := ⟨_, rfl⟩
  obtain ⟨T', hT'⟩ : ∃ T, repB b = T := ⟨_, rfl⟩
  rw [hT] at R1 M2
  rw [hT'] at R2 M2
  rw [hsz] at lab
  obtain ⟨x, hx⟩ : ∃ l, U.signs a.data.toList = l := ⟨_, rfl⟩
  obtain ⟨y, hy⟩ : ∃ l, U.signs b.data.toList = l := ⟨_, rfl⟩
  obtain ⟨l, hl⟩ : ∃ l, U.signs (a ++ b).data.toList = l := ⟨_, rfl⟩
  rw [hx] at A1 MV M1 la
  rw [hy] at MV M1 lb
  rw [hl] at A2 M1 lab
  have hyl : (onL a.size y).length = y.length := by simp [onL]
  rw [← hyl] at MV lb
  obtain ⟨Y, hY⟩ : ∃ Y, onL a.size y = Y := ⟨_, rfl⟩
  rw [show y.map (U.Sg.on a.size) = Y from hY] at M1
  rw [hY] at MV lb
  obtain ⟨R, hR⟩ : ∃ R, dif l x Y = R := ⟨_, rfl⟩
  rw [hR] at M1
  have HR := Lib.hid hR
  have A1 := Lib.hid A1
  have A2 := Lib.hid A2
  have MV := Lib.hid MV
  have R1 := Lib.hid R1
  have R2 := Lib.hid R2
  have M1 := Lib.hid M1
  have M2 := Lib.hid M2
  have M3 := Lib.hid M3
  have M4 := Lib.hid M4
  clear ra rb md hT hT' hx hy hl hyl hY hR hsz
  go_enter Try.func10, Try.ntmps10
  go_wp2_with (first
    | (go_at_call 19; refine (head_any _).mono ?_; rintro e w1 ⟨rfl, hb1⟩)
    | (go_at_call 21; first | ((with_reducible refine (A1.out _).mono ?_); rintro e w2 ⟨v2, rfl, hb2, hr2⟩) | ((with_reducible refine (A2.out _).mono ?_); rintro e w4 ⟨v4, rfl, hb4, hr4⟩; obtain ⟨A4, c4, rfl, hA4⟩ := own_form hr4))
    | (go_at_call 37; (with_reducible refine (MV.out _ _ _ hb2.size hr2).mono ?_); rintro e w3 ⟨v3, rfl, hb3, hr3⟩; have hb23 := hb2.trans hb3; have hr3' := hr3; rw [← List.length_append] at hr3'; obtain ⟨A3, c3, rfl, hA3⟩ := own_form hr3'))
  have hB0 : Below w.heap.size w w4 := bst (bst hb1 hb23) hb4
  have hr3'' := own_below hr3' hb4
  have hlX : (x ++ Y).length = x.length + Y.length := List.length_append
  have hl1 : x.length + Y.length ≤ 4194304 := by omega
  have hl2 : l.length ≤ 4194304 := by omega
  clear hr2 hr3 hr3' hb1 hb2 hb3 hb4 hb23 A1 A2 MV la lb lab
  go_loopw [7, 8] (fun mv i wr => ∃ (k m' : Nat) (B : Bool), i = .int .i64 (k : Int) ∧ mv = .bool B ∧ wr = w4.drewN m' ∧ k ≤ (x ++ Y).length ∧ SoFar l x Y B k) (fun _ i _ => (x ++ Y).length + 1 - (intOf i).toNat)
  case atStart =>
    refine ⟨0, 0, _, rfl, rfl, rfl, Nat.zero_le _, ⟨fun e => dif_len ?_, fun e => ⟨?_, rfl⟩⟩⟩
    · simp at e; omega
    · simp at e; omega
  case round =>
    obtain ⟨k, m', B, rfl, rfl, rfl, hk, hSF⟩ := hrel
    have hB1 : Below w.heap.size w (w4.drewN m') := below_dn hB0 _
    cases B
    · by_cases hlt : k < (x ++ Y).length
      · have hll := (hSF.2 rfl).1
        obtain ⟨g3, rfl⟩ := hA3 (by omega)
        obtain ⟨g4, rfl⟩ := hA4 (by omega)
        obtain ⟨s, hs⟩ : ∃ s, (x ++ Y)[k]? = some s := ⟨_, List.getElem?_eq_getElem hlt⟩
        obtain ⟨z, hz⟩ : ∃ s, l[k]? = some s := ⟨_, List.getElem?_eq_getElem (by omega)⟩
        obtain ⟨p0, p1, p2, p3⟩ := cellsS_at hr3'' hs
        obtain ⟨q0, q1, q2, q3⟩ := cellsS_at hr4 hz
        have he := fun w => eq_cellsS s z w
        obtain ⟨D, hD⟩ : ∃ B, decide (s = z) = B := ⟨_, rfl⟩
        rw [hD] at he
        have NX := Lib.hid (soFar_step hSF hz hs hD)
        have hkl : k < l.length := by omega
        clear hD hs hz hSF hr4 hr3'' hA3 hA4 hll
        go_wp2
        go_quiet (fail)
        go_wp2
        go_roundw
        case rel => exact ⟨k + 1, m' + nq, !D, by go_num, rfl, rfl, hlt, NX.out⟩
        case measure => simp only [intOf]; omega
      · have hk' : k = x.length + Y.length := by omega
        have hRf : R = false := by rw [← HR.out]; exact soFar_end hSF hk'
        subst hRf
        clear hSF HR hr4 hr3'' hA3 hA4 hB0
        go_wp2_with (first
          | (go_at_call 19; refine (head_any _).mono ?_; rintro e w9 ⟨rfl, hb9⟩)
          | (go_at_call 38; first | ((with_reducible refine (R1.out _).mono ?_); rintro e w5 ⟨rfl, hb5⟩) | ((with_reducible refine (R2.out _).mono ?_); rintro e w6 ⟨rfl, hb6⟩))
          | (go_at_call 29; first | ((with_reducible refine (M1.out _).mono ?_); rintro e w7 ⟨rfl, hb7⟩) | ((with_reducible refine (M2.out _).mono ?_); rintro e w8 ⟨rfl, hb8⟩) | ((with_reducible refine (M3.out _).mono ?_); rintro e w10 ⟨rfl, hb10⟩) | ((with_reducible refine (M4.out _).mono ?_); rintro e w11 ⟨rfl, hb11⟩)))
        go_ret
        refine ⟨rfl, ?_⟩
        repeat (first | assumption | refine bst ?_ ‹_›)
    · have hRt : R = true := by rw [← HR.out]; exact hSF.1 rfl
      subst hRt
      clear hSF HR hr4 hr3'' hA3 hA4 hB0
      go_wp2_with (first
        | (go_at_call 19; refine (head_any _).mono ?_; rintro e w9 ⟨rfl, hb9⟩)
        | (go_at_call 38; first | ((with_reducible refine (R1.out _).mono ?_); rintro e w5 ⟨rfl, hb5⟩) | ((with_reducible refine (R2.out _).mono ?_); rintro e w6 ⟨rfl, hb6⟩))
        | (go_at_call 29; first | ((with_reducible refine (M1.out _).mono ?_); rintro e w7 ⟨rfl, hb7⟩) | ((with_reducible refine (M2.out _).mono ?_); rintro e w8 ⟨rfl, hb8⟩) | ((with_reducible refine (M3.out _).mono ?_); rintro e w10 ⟨rfl, hb10⟩) | ((with_reducible refine (M4.out _).mono ?_); rintro e w11 ⟨rfl, hb11⟩)))
      go_ret
      refine ⟨rfl, ?_⟩
      repeat (first | assumption | refine bst ?_ ‹_›)
end Go.Proofs.Ytokbmihjpllgpaa
