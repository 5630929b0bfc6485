/- A text without bad signs is told whole: plain. -/
import Derived.Test.YtokbmihjpllgpaaDoorHoldP
set_option linter.unusedVariables false
namespace Go.Proofs.YtokbmihjpllgpaaDoor

theorem ask_is (b : Nat) : (1 < U.ask b → 194 ≤ b ∧ b ≤ 244) ∧ (2 < U.ask b → 224 ≤ b ∧ b ≤ 244) ∧ (3 < U.ask b → 240 ≤ b ∧ b ≤ 244) := by
  unfold U.ask
  split
  · omega
  · split
    · omega
    · split
      · omega
      · split <;> omega
theorem dec_front (z : List UInt8) (h : frB z = true) : U.dec z = (65533, 1) := by
  match z, h with
  | [], h => exact absurd h (by simp [frB, U.frt])
  | [b0], h =>
    have h := of_decide_eq_true (show decide (1 < U.ask b0.toNat) = true from h)
    have ha := (ask_is b0.toNat).1 h
    unfold U.dec U.decM
    rw [show U.by_ [b0] 0 = b0.toNat from rfl, show [b0].length = 1 from rfl]
    rw [if_neg (by omega), if_neg (by omega), if_neg (by omega), if_neg (by omega)]
  | [b0, b1], h =>
    have h := of_decide_eq_true (show decide (2 < U.ask b0.toNat ∧ U.lo b0.toNat ≤ b1.toNat ∧ b1.toNat ≤ U.hi b0.toNat) = true from h)
    have ha := (ask_is b0.toNat).2.1 h.1
    unfold U.dec U.decM
    rw [show U.by_ [b0, b1] 0 = b0.toNat from rfl, show [b0, b1].length = 2 from rfl]
    rw [if_neg (by omega), if_neg (by omega), if_neg (by omega), if_neg (by omega)]
  | [b0, b1, b2], h =>
    have h := of_decide_eq_true (show decide (3 < U.ask b0.toNat ∧ U.lo b0.toNat ≤ b1.toNat ∧ b1.toNat ≤ U.hi b0.toNat ∧ 128 ≤ b2.toNat ∧ b2.toNat ≤ 191) = true from h)
    have ha := (ask_is b0.toNat).2.2 h.1
    unfold U.dec U.decM
    rw [show U.by_ [b0, b1, b2] 0 = b0.toNat from rfl, show [b0, b1, b2].length = 3 from rfl]
    rw [if_neg (by omega), if_neg (by omega), if_neg (by omega), if_neg (by omega)]
  | _ :: _ :: _ :: _ :: _, h => exact absurd h (by simp [frB, U.frt])
theorem hold_good (a : List UInt8) (h : ∀ x ∈ U.signs a, x.bad = false) : hold a = 0 := by
  rcases Nat.eq_zero_or_pos (hold a) with h0 | h0
  · exact h0
  · exfalso
    have hs := seam_hold a []
    have hf := hold_yes a h0
    rw [List.append_nil, List.append_nil] at hs
    obtain ⟨z, hz⟩ : ∃ z, a.drop (a.length - hold a) = z := ⟨_, rfl⟩
    rw [hz] at hs hf
    have hne : z ≠ [] := by rintro rfl; exact absurd hf (by simp [frB, U.frt])
    have hd := dec_front z hf
    have hm : (⟨0, 1, 65533, true⟩ : U.Sg) ∈ U.signs z := by
      unfold U.signs
      rw [U.toks_ne z hne, hd]
      simp [U.put, U.isBad]
    have := h (U.Sg.on (a.length - hold a) ⟨0, 1, 65533, true⟩) (by rw [hs]; exact List.mem_append_right _ (List.mem_map_of_mem hm))
    cases this
end Go.Proofs.YtokbmihjpllgpaaDoor
