/- Columns and signs as they rise: plain. -/
import Derived.Test.YtcngfcckajpkhaaCellL
set_option linter.unusedVariables false
namespace Go.Proofs.Ytcngfcckajpkhaa.C

theorem over_some {l : List Cl} {n : Nat} {col : Int} {x : Cl} (hn : (n : Int) ≤ col) (h : over l n col = some x) :
    ∃ i, l[i]? = some x ∧ ((n + cells (l.take i) : Nat) : Int) ≤ col ∧ col < ((n + cells (l.take i) + x.cells : Nat) : Int) := by
  induction l generalizing n with
  | nil => simp [over] at h
  | cons c l ih =>
    unfold over at h
    by_cases hc : col < ((n + c.cells : Nat) : Int)
    · rw [if_pos hc] at h
      cases h
      exact ⟨0, rfl, by simpa [cells] using hn, by simpa [cells] using hc⟩
    · rw [if_neg hc] at h
      obtain ⟨i, h1, h2, h3⟩ := ih (by omega) h
      refine ⟨i + 1, by simpa using h1, ?_, ?_⟩
      · rw [List.take_succ_cons, cells_cons]; omega
      · rw [List.take_succ_cons, cells_cons]; omega
theorem over_none' {l : List Cl} {n : Nat} {col : Int} (hn : (n : Int) ≤ col) (h : over l n col = none) : ((n + cells l : Nat) : Int) ≤ col := by
  induction l generalizing n with
  | nil => simpa [cells] using hn
  | cons c l ih =>
    unfold over at h
    by_cases hc : col < ((n + c.cells : Nat) : Int)
    · rw [if_pos hc] at h; cases h
    · rw [if_neg hc] at h
      have := ih (by omega) h
      rw [cells_cons]; omega
theorem upTo_mono (l : List Cl) (a b : Int) (h : a ≤ b) : cells (upTo l a) ≤ cells (upTo l b) := by
  induction l with
  | nil => exact Nat.le_refl _
  | cons c l ih =>
    unfold upTo at ih ⊢
    rw [List.filter_cons, List.filter_cons]
    by_cases h1 : (c.to_ : Int) ≤ a
    · have h2 : (c.to_ : Int) ≤ b := by omega
      simp only [h1, h2, decide_true, if_true]
      rw [cells_cons, cells_cons]; omega
    · by_cases h2 : (c.to_ : Int) ≤ b
      · simp only [h1, h2, decide_true, decide_false, if_true]
        rw [cells_cons]; simp; omega
      · simp [h1, h2]; exact ih
/-- The columns of the signs. -/
theorem steps_col (t : List U.Tk) (h : ∀ x ∈ t, 1 ≤ x.2 ∧ x.2 ≤ 4) (i : Int) (h0 : 0 ≤ i) (h1 : i ≤ t.length) : colI (clus t) t.length i = (cells (upTo (clus t) i), 0) := by
  unfold colI
  rw [if_neg (by omega)]
theorem steps_all (t : List U.Tk) (h : ∀ x ∈ t, 1 ≤ x.2 ∧ x.2 ≤ 4) : upTo (clus t) t.length = clus t := by
  have e := upTo_take t h t.length (clus t).length (Nat.le_refl _) (fun j hj => by
    have := (clus_steps t h j _ (List.getElem?_eq_getElem hj)).2.2.2.2.2.1
    omega) (fun h => by omega)
  rw [e, List.take_length]
/-- The sign over a column stands at it, or one ahead. -/
theorem steps_sgn (t : List U.Tk) (h : ∀ x ∈ t, 1 ≤ x.2 ∧ x.2 ≤ 4) (c : Int) (h0 : 0 ≤ c) (h1 : c ≤ cells (clus t)) :
    ∃ k : Nat, sgnI (clus t) t.length c = (k, 0) ∧ k ≤ t.length ∧ (cells (upTo (clus t) k) : Int) ≤ c ∧ c - 2 < (cells (upTo (clus t) k) : Int) := by
  unfold sgnI
  rw [if_neg (by omega)]
  cases ho : over (clus t) 0 c with
  | some x =>
    obtain ⟨i, e1, e2, e3⟩ := over_some (by omega) ho
    have st := clus_steps t h i x e1
    have hi := (List.getElem?_eq_some_iff.1 e1).1
    refine ⟨x.frm, rfl, by omega, ?_⟩
    have e := upTo_take t h x.frm i (by omega) (fun j hj => by
      have := sgF_mono t h (j + 1) (i - (j + 1)) (by omega)
      rw [show j + 1 + (i - (j + 1)) = i by omega] at this
      omega) (fun _ => by omega)
    rw [e]
    omega
  | none =>
    have := over_none' (by omega) ho
    simp only []
    rw [if_neg (by omega)]
    refine ⟨t.length, rfl, Nat.le_refl _, ?_⟩
    rw [steps_all t h]
    omega
theorem steps_ends (t : List U.Tk) : colI (clus t) t.length ((t.length : Int) + 1) = (0, 1) ∧ sgnI (clus t) t.length ((cells (clus t) : Int) + 1) = (0, 1) ∧ colI (clus t) t.length (-1) = (0, 1) ∧ sgnI (clus t) t.length (-1) = (0, 1) := by
  refine ⟨if_pos (by omega), ?_, if_pos (by omega), if_pos (by omega)⟩
  unfold sgnI
  rw [if_neg (by omega), over_none _ _ _ (by omega)]
  simp only []
  rw [if_pos (by omega)]
end Go.Proofs.Ytcngfcckajpkhaa.C
