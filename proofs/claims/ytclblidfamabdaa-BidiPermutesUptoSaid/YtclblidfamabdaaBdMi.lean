/- bidi.Mirror. -/
import Derived.Test.YtclblidfamabdaaBdC
set_option linter.unusedVariables false
set_option linter.unusedSimpArgs false
namespace Go.Proofs.Ytclblidfamabdaa
open Go.RowKit Go.Shelf Go.Lib
attribute [local go_sem] Oper.semAt_some

/-- The text of the pairs; where its runes begin. -/
def mirS : ByteArray := ⟨#[40, 41, 60, 62, 91, 93, 123, 125, 194, 171, 194, 187, 226, 128, 185, 226, 128, 186, 226, 129, 133, 226, 129, 134, 226, 129, 189, 226, 129, 190, 226, 130, 141, 226, 130, 142, 226, 136, 136, 226, 136, 139, 226, 137, 164, 226, 137, 165, 226, 137, 170, 226, 137, 171, 226, 159, 168, 226, 159, 169, 227, 128, 136, 227, 128, 137, 227, 128, 138, 227, 128, 139, 227, 128, 140, 227, 128, 141, 227, 128, 142, 227, 128, 143, 227, 128, 144, 227, 128, 145, 227, 128, 148, 227, 128, 149, 239, 188, 136, 239, 188, 137, 239, 188, 156, 239, 188, 158, 239, 188, 187, 239, 188, 189, 239, 189, 155, 239, 189, 157]⟩
def mirP (k : Nat) : Nat := ([0, 1, 2, 3, 4, 5, 6, 7, 8, 10, 12, 15, 18, 21, 24, 27, 30, 33, 36, 39, 42, 45, 48, 51, 54, 57, 60, 63, 66, 69, 72, 75, 78, 81, 84, 87, 90, 93, 96, 99, 102, 105, 108, 111, 114, 117, 120] : List Nat).getD k 120
def pr (k : Nat) : Nat := (B.prs.getD k 0).toNat
theorem mir_dec : ∀ k : Fin 46, mirP k.1 < mirS.size ∧ Utf8.decode mirS (mirP k.1) = (pr k.1, mirP (k.1 + 1) - mirP k.1) ∧ mirP k.1 < mirP (k.1 + 1) := by decide +kernel
theorem mir_end : ¬ mirP 46 < mirS.size := by decide +kernel
theorem mir_at : ∀ k : Fin 46, B.mir (pr k.1 : Int) = if k.1 % 2 = 1 then (pr (k.1 - 1) : Int) else (pr (k.1 + 1) : Int) := by decide +kernel
theorem mirF_out : ∀ (l : List Int) (r : Int), (∀ x ∈ l, x ≠ r) → B.mirF l r = r
  | [], r, _ => rfl
  | [a], r, _ => rfl
  | a :: b :: l, r, h => by
    unfold B.mirF
    rw [if_neg (fun e => h a (by simp) e.symm), if_neg (fun e => h b (by simp) e.symm)]
    exact mirF_out l r (fun x hx => h x (by simp [hx]))
theorem mir_out (r : Int) (h : ∀ j, j < 46 → (pr j : Int) ≠ r) : B.mir r = r := mirF_out B.prs r (fun x hx => by
  obtain ⟨j, hj, e⟩ := List.mem_iff_getElem.1 hx
  have hl : B.prs.length = 46 := rfl
  have hnn : ∀ k : Fin 46, ((pr k.1 : Nat) : Int) = B.prs.getD k.1 0 := by decide +kernel
  have := h j (by omega)
  rw [hnn ⟨j, by omega⟩] at this
  simp only [] at this
  rw [List.getD_eq_getElem?_getD, List.getElem?_eq_getElem hj, Option.getD_some, e] at this
  exact this)

set_option maxRecDepth 1000000 in
theorem mirror_any (r : Int) (w : World) : Calls Try.prog 14 #[.int .i32 r] w fun e w' => e = .returned (.int .i32 (B.mir r)) ∧ Below w.heap.size w w' := by
  obtain ⟨R, hR⟩ : ∃ x, B.mir r = x := ⟨_, rfl⟩
  rw [hR]
  have HR := Lib.hid hR
  clear hR
  obtain ⟨S, hS⟩ : ∃ S, mirS = S := ⟨_, rfl⟩
  have HD : Hid (∀ k, k < 46 → mirP k < S.size ∧ Utf8.decode S (mirP k) = (pr k, mirP (k + 1) - mirP k) ∧ mirP k < mirP (k + 1)) := Lib.hid (fun k hk => by rw [← hS]; exact mir_dec ⟨k, hk⟩)
  have HE : Hid (¬ mirP 46 < S.size) := Lib.hid (by rw [← hS]; exact mir_end)
  have hlit : (⟨#[40, 41, 60, 62, 91, 93, 123, 125, 194, 171, 194, 187, 226, 128, 185, 226, 128, 186, 226, 129, 133, 226, 129, 134, 226, 129, 189, 226, 129, 190, 226, 130, 141, 226, 130, 142, 226, 136, 136, 226, 136, 139, 226, 137, 164, 226, 137, 165, 226, 137, 170, 226, 137, 171, 226, 159, 168, 226, 159, 169, 227, 128, 136, 227, 128, 137, 227, 128, 138, 227, 128, 139, 227, 128, 140, 227, 128, 141, 227, 128, 142, 227, 128, 143, 227, 128, 144, 227, 128, 145, 227, 128, 148, 227, 128, 149, 239, 188, 136, 239, 188, 137, 239, 188, 156, 239, 188, 158, 239, 188, 187, 239, 188, 189, 239, 189, 155, 239, 189, 157]⟩ : ByteArray) = S := hS
  have h0 : mirP 0 = 0 := rfl
  have HL := Lib.hid hlit
  have H0 := Lib.hid h0
  clear hS hlit h0
  go_enter Try.func14, Try.ntmps14
  go_wp2
  rw [HL.out]
  go_loopw [3, 4, 5] (fun nv lv bv wr => ∃ (k : Nat) (b : Bool) (la : Int), k ≤ 46 ∧ wr = w.iter S (mirP k) ∧ nv = .int .i64 (k : Int) ∧ lv = .int .i32 la ∧ bv = .bool b ∧ (0 < k → la = (pr (k - 1) : Int)) ∧ (b = false → ∀ j, j < k → (pr j : Int) ≠ r) ∧ (b = true → k % 2 = 1 ∧ (pr (k - 1) : Int) = r)) (fun nv _ _ _ => 46 - (intOf nv).toNat)
  case atStart => exact ⟨0, false, 0, Nat.zero_le _, by rw [H0.out], rfl, rfl, rfl, fun h => absurd h (Nat.lt_irrefl _), fun _ j h => absurd h (Nat.not_lt_zero _), fun h => by cases h⟩
  case round =>
    obtain ⟨k, b, la, hk, rfl, rfl, rfl, rfl, hla, hno, hyes⟩ := hrel
    by_cases hlt : k < 46
    · obtain ⟨p1, p2, p3⟩ := HD.out k hlt
      have hnx : ∀ ty, (Instr.next (.pointer (some ⟨w.heap.size, 0, none⟩)) true ty).run Try.prog (w.iter S (mirP k)) = _ := fun ty => run_next_any w S (mirP k) ty p1
      rw [p2] at hnx
      have hpp : mirP k + (mirP (k + 1) - mirP k) = mirP (k + 1) := by omega
      have hW : w.iter S (mirP k + (pr k, mirP (k + 1) - mirP k).2) = w.iter S (mirP (k + 1)) := by rw [show (pr k, mirP (k + 1) - mirP k).2 = mirP (k + 1) - mirP k from rfl, hpp]
      rw [hW] at hnx
      have hbel : Below w.heap.size w (w.iter S (mirP (k + 1))) := (Below.refl _ _).alloc (Nat.le_refl _) _
      have HB := Lib.hid hbel
      obtain ⟨x, hx⟩ : ∃ x, pr k = x := ⟨_, rfl⟩
      have HX := Lib.hid hx
      have HY := Lib.hid (And.intro hla (And.intro hno hyes))
      rw [hx] at hnx
      clear p1 p2 p3 hpp hW hbel hx hla hno hyes
      cases b
      · by_cases hxr : (x : Int) = r
        · by_cases hk2 : k % 2 = 1
          · have hk3 : (k : Int) % 2 = 1 := by omega
            have HV : Hid (la = R) := Lib.hid (by
              have := mir_at ⟨k, hlt⟩
              rw [show (⟨k, hlt⟩ : Fin 46).1 = k from rfl, HX.out, if_pos hk2, hxr, HR.out] at this
              rw [HY.out.1 (by omega), this])
            clear hk2
            go_wp2
            go_ret
            exact ⟨rC_int HV.out, HB.out⟩
          · have hk3 : (k : Int) % 2 = 0 := by omega
            have hk4 : ¬ ((k : Int) % 2 = 1) := by omega
            go_wp2
            go_roundw
            case rel => exact ⟨k + 1, true, _, hlt, rfl, by go_num, rfl, rfl, (fun _ => by rw [Nat.add_sub_cancel, HX.out]; exact hxr.symm), (fun h => by cases h), fun _ => ⟨by omega, by rw [Nat.add_sub_cancel, HX.out]; exact hxr⟩⟩
            case measure => simp [intOf]; omega
        · have hb : ((x : Int) == r) = false := by simp [hxr]
          have HN := Lib.hid hxr
          clear hxr
          go_wp2
          go_roundw
          case rel => exact ⟨k + 1, false, _, hlt, rfl, by go_num, rfl, rfl, (fun _ => by rw [Nat.add_sub_cancel, HX.out]), fun _ j hj => by
            rcases Nat.lt_or_ge j k with h | h
            · exact HY.out.2.1 rfl j h
            · obtain rfl : j = k := by omega
              rw [HX.out]; exact HN.out, fun h => by cases h⟩
          case measure => simp [intOf]; omega
      · have HV : Hid ((x : Int) = R) := Lib.hid (by
          obtain ⟨h1, h2⟩ := HY.out.2.2 rfl
          have := mir_at ⟨k - 1, by omega⟩
          rw [show (⟨k - 1, _⟩ : Fin 46).1 = k - 1 from rfl, if_neg (by omega), h2, HR.out, show k - 1 + 1 = k by omega, HX.out] at this
          exact this.symm)
        go_wp2
        go_ret
        exact ⟨rC_int HV.out, HB.out⟩
    · obtain rfl : k = 46 := by omega
      have hnx : ∀ ty, (Instr.next (.pointer (some ⟨w.heap.size, 0, none⟩)) true ty).run Try.prog (w.iter S (mirP 46)) = _ := fun ty => run_next_end w S (mirP 46) ty HE.out
      have HV : Hid (r = R) := Lib.hid (by
        cases b
        · rw [← HR.out]; exact (mir_out r (hno rfl)).symm
        · have := (hyes rfl).1; omega)
      have hbel : Below w.heap.size w (w.iter S (mirP 46)) := (Below.refl _ _).alloc (Nat.le_refl _) _
      have HB := Lib.hid hbel
      clear hbel hla hno hyes
      go_wp2
      go_ret
      exact ⟨rC_int HV.out, HB.out⟩
end Go.Proofs.Ytclblidfamabdaa
