/- The lines of a file: plain. -/
import Derived.Test.YtokbmihjpllgpaaUtf
set_option linter.unusedVariables false
namespace Go.Proofs.Ytokbmihjpllgpaa.U

/-- Is a byte the end of a line, or its first one? -/
def isEol (b : Nat) : Bool := b == 10 || b == 13
theorem isEol_iff (b : Nat) : isEol b = true ↔ b = 10 ∨ b = 13 := by simp [isEol]
/-- How far it is to the first end. -/
def far : List UInt8 → Nat
  | [] => 0
  | b :: l => if isEol b.toNat then 0 else far l + 1
theorem far_le (l : List UInt8) : far l ≤ l.length := by
  induction l with
  | nil => exact Nat.le_refl _
  | cons b l ih => unfold far; split <;> simp; omega
theorem far_not : ∀ (l : List UInt8) (j : Nat), j < far l → isEol (by_ l j) = false := by
  intro l
  induction l with
  | nil => intro j h; exact absurd h (Nat.not_lt_zero _)
  | cons b l ih =>
    intro j h
    unfold far at h
    split at h
    · exact absurd h (Nat.not_lt_zero _)
    · rename_i hb
      cases j with
      | zero => show isEol b.toNat = false; simpa using hb
      | succ j => exact ih j (by omega)
theorem far_at : ∀ (l : List UInt8), far l < l.length → isEol (by_ l (far l)) = true := by
  intro l
  induction l with
  | nil => intro h; exact absurd h (Nat.lt_irrefl _)
  | cons b l ih =>
    intro h
    unfold far at h ⊢
    split
    · rename_i hb; exact hb
    · rename_i hb
      rw [if_neg hb] at h
      exact ih (by simpa using h)
/-- The place of the first end from a place on, or the file's end. -/
def nxt (l : List UInt8) (p : Nat) : Nat := p + far (l.drop p)
theorem by_drop (l : List UInt8) (p j : Nat) : by_ (l.drop p) j = by_ l (p + j) := by simp [by_, List.getD_eq_getElem?_getD, List.getElem?_drop]
theorem nxt_ge (l : List UInt8) (p : Nat) : p ≤ nxt l p := Nat.le_add_right _ _
theorem nxt_le (l : List UInt8) (p : Nat) (h : p ≤ l.length) : nxt l p ≤ l.length := by
  have := far_le (l.drop p)
  rw [List.length_drop] at this
  unfold nxt; omega
theorem nxt_not (l : List UInt8) (p j : Nat) (h1 : p ≤ j) (h2 : j < nxt l p) : isEol (by_ l j) = false := by
  have := far_not (l.drop p) (j - p) (by unfold nxt at h2; omega)
  rw [by_drop, show p + (j - p) = j by omega] at this
  exact this
theorem nxt_at (l : List UInt8) (p : Nat) (h : nxt l p < l.length) : isEol (by_ l (nxt l p)) = true := by
  unfold nxt at h ⊢
  have := far_at (l.drop p) (by rw [List.length_drop]; omega)
  rwa [by_drop] at this
theorem nxt_is (l : List UInt8) (p q : Nat) (h1 : p ≤ q) (h2 : q < l.length) (hn : ∀ j, p ≤ j → j < q → isEol (by_ l j) = false) (he : isEol (by_ l q) = true) : nxt l p = q := by
  have hle := nxt_le l p (by omega)
  have hge := nxt_ge l p
  rcases Nat.lt_trichotomy (nxt l p) q with h | h | h
  · have := nxt_at l p (by omega)
    rw [hn _ hge h] at this
    cases this
  · exact h
  · have := nxt_not l p q h1 h
    rw [he] at this
    cases this
theorem nxt_end (l : List UInt8) (p : Nat) (h1 : p ≤ l.length) (hn : ∀ j, p ≤ j → j < l.length → isEol (by_ l j) = false) : nxt l p = l.length := by
  have hle := nxt_le l p h1
  rcases Nat.lt_or_ge (nxt l p) l.length with h | h
  · have := nxt_at l p h
    rw [hn _ (nxt_ge l p) h] at this
    cases this
  · omega
/-- Where the next line begins, behind an end. -/
def aft (l : List UInt8) (q : Nat) : Nat := if by_ l q = 13 ∧ by_ l (q + 1) = 10 then q + 2 else q + 1
theorem by_out (l : List UInt8) (j : Nat) (h : l.length ≤ j) : by_ l j = 0 := by
  unfold by_
  rw [List.getD_eq_getElem?_getD, List.getElem?_eq_none h]; rfl
theorem aft_le (l : List UInt8) (q : Nat) (h : q < l.length) : q < aft l q ∧ aft l q ≤ l.length := by
  unfold aft
  split
  · rename_i hc
    have : q + 1 < l.length := by
      rcases Nat.lt_or_ge (q + 1) l.length with h | h
      · exact h
      · have := by_out l (q + 1) h
        omega
    omega
  · omega

/-- The lines from a place on: where each begins, where it ends (without its end). -/
def lnF (l : List UInt8) : Nat → Nat → List (Nat × Nat)
  | 0, _ => []
  | f + 1, p => if p < l.length then (if nxt l p < l.length then (p, nxt l p) :: lnF l f (aft l (nxt l p)) else [(p, l.length)]) else []
def lns (l : List UInt8) (p : Nat) : List (Nat × Nat) := lnF l (l.length - p) p
theorem lnF_more (l : List UInt8) : ∀ (f g p : Nat), l.length - p ≤ f → l.length - p ≤ g → lnF l f p = lnF l g p := by
  intro f
  induction f with
  | zero =>
    intro g p h _
    cases g with
    | zero => rfl
    | succ g => show [] = lnF l (g + 1) p; unfold lnF; rw [if_neg (by omega)]
  | succ f ih =>
    intro g p h1 h2
    cases g with
    | zero => show lnF l (f + 1) p = []; unfold lnF; rw [if_neg (by omega)]
    | succ g =>
      unfold lnF
      by_cases hp : p < l.length
      · rw [if_pos hp, if_pos hp]
        by_cases hq : nxt l p < l.length
        · rw [if_pos hq, if_pos hq]
          have := aft_le l _ hq
          have := nxt_ge l p
          rw [ih g _ (by omega) (by omega)]
        · rw [if_neg hq, if_neg hq]
      · rw [if_neg hp, if_neg hp]
theorem lns_end (l : List UInt8) (p : Nat) (h : ¬ p < l.length) : lns l p = [] := by
  unfold lns
  rw [show l.length - p = 0 by omega]; rfl
theorem lns_last (l : List UInt8) (p : Nat) (h : p < l.length) (hq : ¬ nxt l p < l.length) : lns l p = [(p, l.length)] := by
  unfold lns
  obtain ⟨f, hf⟩ : ∃ f, l.length - p = f + 1 := ⟨l.length - p - 1, by omega⟩
  rw [hf]
  unfold lnF
  rw [if_pos h, if_neg hq]
theorem lns_cons (l : List UInt8) (p : Nat) (h : p < l.length) (hq : nxt l p < l.length) : lns l p = (p, nxt l p) :: lns l (aft l (nxt l p)) := by
  unfold lns
  obtain ⟨f, hf⟩ : ∃ f, l.length - p = f + 1 := ⟨l.length - p - 1, by omega⟩
  rw [hf]
  have e : lnF l (f + 1) p = (p, nxt l p) :: lnF l f (aft l (nxt l p)) := by
    show (if p < l.length then (if nxt l p < l.length then (p, nxt l p) :: lnF l f (aft l (nxt l p)) else [(p, l.length)]) else []) = _
    rw [if_pos h, if_pos hq]
  have := aft_le l _ hq
  have := nxt_ge l p
  rw [e, lnF_more l f (l.length - aft l (nxt l p)) _ (by omega) (Nat.le_refl _)]
/-- What each line is: it begins where the one ahead ended, behind its end. -/
theorem lns_split (l : List UInt8) : ∀ (n p : Nat) (pre post : List (Nat × Nat)) (x : Nat × Nat), l.length - p ≤ n → lns l p = pre ++ x :: post →
    x.1 < l.length ∧ x.1 ≤ x.2 ∧ x.2 ≤ l.length ∧ p ≤ x.1 ∧ (∀ j, x.1 ≤ j → j < x.2 → isEol (by_ l j) = false) ∧ (x.2 < l.length → isEol (by_ l x.2) = true ∧ post = lns l (aft l x.2)) ∧ (x.2 = l.length → post = []) ∧
    (pre = [] → x.1 = p) ∧ (∀ pre' y, pre = pre' ++ [y] → y.2 < l.length ∧ x.1 = aft l y.2) := by
  intro n
  induction n with
  | zero =>
    intro p pre post x h e
    rw [lns_end l p (by omega)] at e
    simp at e
  | succ n ih =>
    intro p pre post x h e
    by_cases hp : p < l.length
    · by_cases hq : nxt l p < l.length
      · rw [lns_cons l p hp hq] at e
        have ha := aft_le l _ hq
        have hg := nxt_ge l p
        cases pre with
        | nil =>
          obtain ⟨rfl, rfl⟩ := List.cons.inj e
          exact ⟨hp, hg, by omega, Nat.le_refl _, fun j h1 h2 => nxt_not l p j h1 h2, fun _ => ⟨nxt_at l p hq, rfl⟩, fun h => by simp only at h; omega, fun _ => rfl, fun pre' y h => by simp at h⟩
        | cons z pre =>
          obtain ⟨hz, e2⟩ := List.cons.inj (show (p, nxt l p) :: lns l (aft l (nxt l p)) = z :: (pre ++ x :: post) from e)
          subst hz
          obtain ⟨h1, h2, h3, h4, h5, h6, h7, h8, h9⟩ := ih (aft l (nxt l p)) pre post x (by omega) e2
          refine ⟨h1, h2, h3, by omega, h5, h6, h7, fun h => by simp at h, fun pre' y hy => ?_⟩
          cases pre' with
          | nil =>
            obtain ⟨rfl, rfl⟩ := List.cons.inj hy
            exact ⟨hq, h8 rfl⟩
          | cons z' pre' =>
            obtain ⟨rfl, rfl⟩ := List.cons.inj hy
            exact h9 pre' y rfl
      · rw [lns_last l p hp hq] at e
        cases pre with
        | nil =>
          obtain ⟨rfl, rfl⟩ := List.cons.inj e
          have := nxt_le l p (by omega)
          exact ⟨hp, by simp only; omega, Nat.le_refl _, Nat.le_refl _, fun j h1 h2 => nxt_not l p j h1 (by simp only at h2; omega), fun h => by simp only at h; omega, fun _ => rfl, fun _ => rfl, fun pre' y h => by simp at h⟩
        | cons z pre =>
          obtain ⟨_, e⟩ := List.cons.inj e
          simp at e
    · rw [lns_end l p hp] at e
      simp at e
theorem lns_length (l : List UInt8) : ∀ (n p : Nat), l.length - p ≤ n → (lns l p).length ≤ l.length - p := by
  intro n
  induction n with
  | zero => intro p h; rw [lns_end l p (by omega)]; simp
  | succ n ih =>
    intro p h
    by_cases hp : p < l.length
    · by_cases hq : nxt l p < l.length
      · rw [lns_cons l p hp hq]
        have ha := aft_le l _ hq
        have hg := nxt_ge l p
        have := ih (aft l (nxt l p)) (by omega)
        simp only [List.length_cons]
        omega
      · rw [lns_last l p hp hq]; simp; omega
    · rw [lns_end l p hp]; simp
/-- Behind the last line: the end. -/
theorem lns_done (l : List UInt8) (pre : List (Nat × Nat)) (h : lns l 0 = pre) : (pre = [] → l.length = 0) ∧ (∀ pre' y, pre = pre' ++ [y] → (y.2 < l.length → aft l y.2 = l.length)) := by
  refine ⟨fun h0 => ?_, fun pre' y hy hlt => ?_⟩
  · subst h0
    rcases Nat.eq_zero_or_pos l.length with h1 | h1
    · exact h1
    · by_cases hq : nxt l 0 < l.length
      · rw [lns_cons l 0 h1 hq] at h; cases h
      · rw [lns_last l 0 h1 hq] at h; cases h
  · subst hy
    obtain ⟨_, _, _, _, _, h6, _, _, _⟩ := lns_split l _ 0 pre' [] y (Nat.le_refl _) h
    have h7 := (h6 hlt).2
    have ha := aft_le l y.2 hlt
    rcases Nat.lt_or_ge (aft l y.2) l.length with h1 | h1
    · by_cases hq : nxt l (aft l y.2) < l.length
      · rw [lns_cons l _ h1 hq] at h7; cases h7
      · rw [lns_last l _ h1 hq] at h7; cases h7
    · omega
end Go.Proofs.Ytokbmihjpllgpaa.U
