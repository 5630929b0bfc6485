/- What is held back cuts no sign: plain. -/
import Derived.Test.YtokbmihjpllgpaaDoorFeed
import Derived.Test.YtokbmihjpllgpaaDoorSeam
set_option linter.unusedVariables false
namespace Go.Proofs.YtokbmihjpllgpaaDoor

theorem frt_of_dec (z y : List UInt8) (hz : 0 < z.length) (h : z.length < (U.dec (z ++ y)).2) : frB z = true ∧ ∃ c r, y = c :: r ∧ 128 ≤ c.toNat ∧ c.toNat ≤ 191 := by
  have hf := U.dec_facts (z ++ y) (by intro e; simp at e; simp [e.1] at hz)
  have hlen := hf.2.2.1
  obtain ⟨c, r, rfl⟩ : ∃ c r, y = c :: r := by
    cases y with
    | nil => simp only [List.append_nil] at hlen h; omega
    | cons c r => exact ⟨c, r, rfl⟩
  have hz3 : z.length ≤ 3 := by omega
  have hc := c.toNat_lt
  unfold U.dec at h
  match z, hz, hz3, h with
  | [b0], _, _, h =>
    have e0 : U.by_ ([b0] ++ c :: r) 0 = b0.toNat := rfl
    have e1 : U.by_ ([b0] ++ c :: r) 1 = c.toNat := rfl
    rw [e0, e1] at h
    have hb := b0.toNat_lt
    have hl2 := U.lo2_is b0.toNat
    have hh2 := U.hi2_is b0.toNat
    unfold U.decM at h
    constructor
    · show decide (1 < U.ask b0.toNat) = true
      rw [decide_eq_true_eq]
      unfold U.ask
      split at h
      · simp at h
      · split at h
        · split <;> (try split) <;> omega
        · split at h
          · split <;> (try split) <;> (try split) <;> omega
          · split at h
            · split <;> (try split) <;> (try split) <;> (try split) <;> omega
            · simp at h
    · refine ⟨c, r, rfl, ?_⟩
      split at h
      · simp at h
      · split at h
        · omega
        · split at h
          · omega
          · split at h
            · omega
            · simp at h
  | [b0, b1], _, _, h =>
    have e0 : U.by_ ([b0, b1] ++ c :: r) 0 = b0.toNat := rfl
    have e1 : U.by_ ([b0, b1] ++ c :: r) 1 = b1.toNat := rfl
    have e2 : U.by_ ([b0, b1] ++ c :: r) 2 = c.toNat := rfl
    rw [e0, e1, e2] at h
    have el : U.lo b0.toNat = U.lo2 b0.toNat := rfl
    have eh : U.hi b0.toNat = U.hi2 b0.toNat := rfl
    unfold U.decM at h
    constructor
    · show decide (2 < U.ask b0.toNat ∧ U.lo b0.toNat ≤ b1.toNat ∧ b1.toNat ≤ U.hi b0.toNat) = true
      rw [decide_eq_true_eq, el, eh]
      unfold U.ask
      split at h
      · simp at h
      · split at h
        · simp at h
        · split at h
          · refine ⟨?_, by omega, by omega⟩
            split <;> (try split) <;> (try split) <;> omega
          · split at h
            · refine ⟨?_, by omega, by omega⟩
              split <;> (try split) <;> (try split) <;> (try split) <;> omega
            · simp at h
    · refine ⟨c, r, rfl, ?_⟩
      split at h
      · simp at h
      · split at h
        · simp at h
        · split at h
          · omega
          · split at h
            · omega
            · simp at h
  | [b0, b1, b2], _, _, h =>
    have e0 : U.by_ ([b0, b1, b2] ++ c :: r) 0 = b0.toNat := rfl
    have e1 : U.by_ ([b0, b1, b2] ++ c :: r) 1 = b1.toNat := rfl
    have e2 : U.by_ ([b0, b1, b2] ++ c :: r) 2 = b2.toNat := rfl
    have e3 : U.by_ ([b0, b1, b2] ++ c :: r) 3 = c.toNat := rfl
    rw [e0, e1, e2, e3] at h
    have el : U.lo b0.toNat = U.lo2 b0.toNat := rfl
    have eh : U.hi b0.toNat = U.hi2 b0.toNat := rfl
    unfold U.decM at h
    constructor
    · show decide (3 < U.ask b0.toNat ∧ U.lo b0.toNat ≤ b1.toNat ∧ b1.toNat ≤ U.hi b0.toNat ∧ 128 ≤ b2.toNat ∧ b2.toNat ≤ 191) = true
      rw [decide_eq_true_eq, el, eh]
      unfold U.ask
      split at h
      · simp at h
      · split at h
        · simp at h
        · split at h
          · simp at h
          · split at h
            · refine ⟨?_, by omega, by omega, by omega, by omega⟩
              split <;> (try split) <;> (try split) <;> (try split) <;> omega
            · simp at h
    · refine ⟨c, r, rfl, ?_⟩
      split at h
      · simp at h
      · split at h
        · simp at h
        · split at h
          · simp at h
          · split at h
            · omega
            · simp at h
  | _ :: _ :: _ :: _ :: _, _, h3, _ => simp at h3
/-- A front begins with a byte that is no byte behind another. -/
theorem frB_head {z : List UInt8} (h : frB z = true) : ∃ c r, z = c :: r ∧ 194 ≤ c.toNat ∧ z.length ≤ 3 := by
  have key : ∀ b n : Nat, 1 ≤ n → n < U.ask b → 194 ≤ b := fun b n h1 h2 => by
    unfold U.ask at h2
    split at h2 <;> omega
  match z, h with
  | [], h => exact absurd h (by simp [frB, U.frt])
  | [b0], h => exact ⟨b0, [], rfl, key _ 1 (by omega) (of_decide_eq_true (show decide (1 < U.ask b0.toNat) = true from h)), by simp⟩
  | [b0, b1], h => exact ⟨b0, _, rfl, key _ 2 (by omega) (of_decide_eq_true (show decide (2 < U.ask b0.toNat ∧ U.lo b0.toNat ≤ b1.toNat ∧ b1.toNat ≤ U.hi b0.toNat) = true from h)).1, by simp⟩
  | [b0, b1, b2], h => exact ⟨b0, _, rfl, key _ 3 (by omega) (of_decide_eq_true (show decide (3 < U.ask b0.toNat ∧ U.lo b0.toNat ≤ b1.toNat ∧ b1.toNat ≤ U.hi b0.toNat ∧ 128 ≤ b2.toNat ∧ b2.toNat ≤ 191) = true from h)).1, by simp⟩
  | _ :: _ :: _ :: _ :: _, h => exact absurd h (by simp [frB, U.frt])

/-- No tail of at most three bytes is a front: no sign of a longer text lies over the end. -/
theorem seam_plain (x y : List UInt8) (h : ∀ j, 1 ≤ j → j ≤ 3 → j ≤ x.length → frB (x.drop (x.length - j)) = true → ¬ ∃ c r, y = c :: r ∧ 128 ≤ c.toNat ∧ c.toNat ≤ 191) :
    U.signs (x ++ y) = U.signs x ++ (U.signs y).map (U.Sg.on x.length) := by
  have key : ∀ (x : List UInt8), (∀ j, 1 ≤ j → j ≤ 3 → j ≤ x.length → frB (x.drop (x.length - j)) = true → ¬ ∃ c r, y = c :: r ∧ 128 ≤ c.toNat ∧ c.toNat ≤ 191) → U.toks (x ++ y) = U.toks x ++ U.toks y := by
    refine U.toks_ind (fun _ => by simp [U.toks_nil]) ?_
    intro a h0 ih h
    have hl : 0 < a.length := List.length_pos_iff.2 h0
    have hne : a ++ y ≠ [] := by simp [h0]
    have hw : (U.dec (a ++ y)).2 ≤ a.length := by
      rcases Nat.lt_or_ge a.length (U.dec (a ++ y)).2 with hlt | hge
      · obtain ⟨h1, h2⟩ := frt_of_dec a y hl hlt
        have h4 := (U.dec_facts (a ++ y) hne).2.1
        exact absurd h2 (h a.length (by omega) (by omega) (Nat.le_refl _) (by rw [Nat.sub_self, List.drop_zero]; exact h1))
      · exact hge
    have hd := U.dec_prefix a y h0 hw
    rw [U.toks_ne _ hne, U.toks_ne a h0, hd, List.cons_append]
    have hdr : (a ++ y).drop (U.dec (a ++ y)).2 = a.drop (U.dec (a ++ y)).2 ++ y := by
      rw [List.drop_append, Nat.sub_eq_zero_of_le hw, List.drop_zero]
    rw [hdr]
    rw [hd] at ih
    rw [ih (fun j h1 h2 h3 h4 => ?_)]
    rw [List.length_drop] at h3 h4
    refine h j h1 h2 (by omega) ?_
    rw [List.drop_drop] at h4
    rwa [show (U.dec (a ++ y)).2 + (a.length - (U.dec (a ++ y)).2 - j) = a.length - j by omega] at h4
  have hm : (U.signs y).map (U.Sg.on x.length) = U.put x.length (U.toks y) := by rw [U.signs, ← U.put_on, Nat.zero_add]
  rw [hm, U.signs, key x h, U.put_append, U.wsum_toks, Nat.zero_add]
  rfl

theorem hold_le (a : List UInt8) : hold a ≤ 3 ∧ hold a ≤ a.length := by
  unfold hold
  split
  · rename_i h; omega
  · split
    · rename_i h; omega
    · split
      · rename_i h; omega
      · omega
theorem hold_yes (a : List UInt8) (h : 0 < hold a) : frB (a.drop (a.length - hold a)) = true := by
  unfold hold at h ⊢
  split
  · rename_i h1; exact h1.2
  · rename_i h0
    rw [if_neg h0] at h
    split
    · rename_i h1; exact h1.2
    · rename_i h1
      rw [if_neg h1] at h
      split
      · rename_i h2; exact h2.2
      · rename_i h2; rw [if_neg h2] at h; omega
theorem hold_no (a : List UInt8) (j : Nat) (h1 : hold a < j) (h3 : j ≤ 3) (hj : j ≤ a.length) : frB (a.drop (a.length - j)) = false := by
  rw [Bool.eq_false_iff]
  intro hf
  unfold hold at h1
  have : j = 1 ∨ j = 2 ∨ j = 3 := by omega
  rcases this with rfl | rfl | rfl
  · split at h1
    · omega
    · split at h1
      · omega
      · split at h1
        · omega
        · rename_i h; exact h ⟨hj, hf⟩
  · split at h1
    · omega
    · split at h1
      · omega
      · rename_i h; exact h ⟨hj, hf⟩
  · split at h1
    · omega
    · rename_i h; exact h ⟨hj, hf⟩
/-- What Feed tells cuts no sign, whatever comes behind. -/
theorem seam_hold (al r : List UInt8) : U.signs (al ++ r) = U.signs (al.take (al.length - hold al)) ++ (U.signs (al.drop (al.length - hold al) ++ r)).map (U.Sg.on (al.length - hold al)) := by
  have hle := hold_le al
  have hx : (al.take (al.length - hold al)).length = al.length - hold al := by rw [List.length_take]; omega
  have e : al ++ r = al.take (al.length - hold al) ++ (al.drop (al.length - hold al) ++ r) := by rw [← List.append_assoc, List.take_append_drop]
  have := seam_plain (al.take (al.length - hold al)) (al.drop (al.length - hold al) ++ r) (fun j h1 h2 h3 hf hex => by
    by_cases hk : hold al = 0
    · rw [hk, Nat.sub_zero, List.take_length] at hf
      rw [hx, hk, Nat.sub_zero] at h3
      have := hold_no al j (by omega) h2 h3
      rw [this] at hf
      cases hf
    · obtain ⟨c, q, hz, hc, _⟩ := frB_head (hold_yes al (by omega))
      obtain ⟨c', q', he, h5, h6⟩ := hex
      rw [hz, List.cons_append] at he
      cases he
      omega)
  rw [hx] at this
  rw [← this, ← e]
end Go.Proofs.YtokbmihjpllgpaaDoor
