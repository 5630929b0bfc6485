/- Clusters: where each begins. Plain. -/
import Derived.Test.YtclblidfamabdaaCellQ
set_option linter.unusedVariables false
namespace Go.Proofs.Ytclblidfamabdaa.C

/-- The sign, the place, of the k-th cluster's begin. -/
def sgF (l : List U.Tk) (k : Nat) : Nat := start l (clus l) k
def atF (l : List U.Tk) (k : Nat) : Nat := pl l (sgF l k)
theorem pl_gap (l : List U.Tk) (h : ∀ t ∈ l, 1 ≤ t.2 ∧ t.2 ≤ 4) (a d : Nat) (hd : a + d ≤ l.length) : pl l a + d ≤ pl l (a + d) ∧ pl l (a + d) ≤ pl l a + 4 * d := by
  induction d with
  | zero => exact ⟨Nat.le_refl _, Nat.le_refl _⟩
  | succ d ih =>
    have h1 := ih (by omega)
    have h2 := pl_succ l (a + d) (by omega)
    have h3 := h (l[a + d]'(by omega)) (List.getElem_mem _)
    rw [tk_eq l (a + d) (by omega)] at h3
    rw [show a + (d + 1) = a + d + 1 by omega]
    simp only at h3
    omega
theorem sgF_zero (l : List U.Tk) : sgF l 0 = 0 := (cov_clus l).start_zero
theorem atF_zero (l : List U.Tk) : atF l 0 = 0 := by unfold atF; rw [sgF_zero]; rfl
theorem sgF_end (l : List U.Tk) : sgF l (clus l).length = l.length := by simp [sgF, start]
theorem atF_end (l : List U.Tk) : atF l (clus l).length = U.wsum l := by unfold atF; rw [sgF_end, pl_all]
theorem clus_steps (l : List U.Tk) (h : ∀ t ∈ l, 1 ≤ t.2 ∧ t.2 ≤ 4) (k : Nat) (c : Cl) (hk : (clus l)[k]? = some c) :
    c.at_ = atF l k ∧ c.frm = sgF l k ∧ c.to_ = sgF l (k + 1) ∧ atF l k + c.len = atF l (k + 1) ∧ sgF l k < sgF l (k + 1) ∧ sgF l (k + 1) ≤ l.length ∧ c.cells ≤ 2 ∧ sgF l (k + 1) - sgF l k ≤ c.len ∧ c.len ≤ 4 * (sgF l (k + 1) - sgF l k) ∧ atF l (k + 1) ≤ U.wsum l := by
  obtain ⟨h1, h2, h3, h4, h5, h6, h7, _⟩ := clus_at l k c hk
  have e1 : c.frm = sgF l k := h6.symm
  have e2 : c.to_ = sgF l (k + 1) := h7.symm
  rw [e1] at h1 h3
  rw [e2] at h2 h3 h4
  have e3 : atF l k = pl l (sgF l k) := rfl
  have e4 : atF l (k + 1) = pl l (sgF l (k + 1)) := rfl
  have g := pl_gap l h (sgF l k) (sgF l (k + 1) - sgF l k) (by omega)
  rw [show sgF l k + (sgF l (k + 1) - sgF l k) = sgF l (k + 1) by omega] at g
  have g2 := pl_le l (sgF l (k + 1))
  exact ⟨by omega, e1, e2, by omega, h3, h4, h5, by omega, by omega, by omega⟩
/-- A sign that stands alone begins a cluster of its own. -/
theorem first_alone (l : List U.Tk) (k : Nat) (c : Cl) (hk : (clus l)[k]? = some c) (h : ctl (rune l c.frm) = true) : c.to_ = c.frm + 1 := by
  obtain ⟨_, _, h3, _, _, _, _, _, hj, _⟩ := clus_at l k c hk
  by_cases e : c.to_ = c.frm + 1
  · exact e
  · have := (joins_ctl (hj (c.frm + 1) (by omega) (by omega))).1
    rw [h] at this
    cases this
theorem rest_plain (l : List U.Tk) (k : Nat) (c : Cl) (hk : (clus l)[k]? = some c) (j : Nat) (h1 : c.frm < j) (h2 : j < c.to_) : ctl (rune l j) = false := by
  obtain ⟨_, _, _, _, _, _, _, _, hj, _⟩ := clus_at l k c hk
  exact (joins_ctl (hj j h1 h2)).2
theorem before_ctl (l : List U.Tk) (k : Nat) (c : Cl) (hk : (clus l)[k]? = some c) (h0 : 0 < c.frm) (hw : wid (rune l c.frm) = 0) (hc : ctl (rune l c.frm) = false) : ctl (rune l (c.frm - 1)) = true := by
  obtain ⟨_, _, h3, h4, _, h6, _, _, _, _⟩ := clus_at l k c hk
  have hk0 : k ≠ 0 := by
    rintro rfl
    have := (cov_clus l).start_zero
    omega
  obtain ⟨j, rfl⟩ : ∃ j, k = j + 1 := ⟨k - 1, by omega⟩
  have hlt := (List.getElem?_eq_some_iff.1 hk).1
  obtain ⟨p, hp⟩ : ∃ p, (clus l)[j]? = some p := ⟨_, List.getElem?_eq_getElem (by omega)⟩
  obtain ⟨_, _, p3, p4, _, _, p7, _, _, p10⟩ := clus_at l j p hp
  have e : p.to_ = c.frm := by rw [← p7, h6]
  have hn := p10 (by omega)
  rw [e] at hn
  have hcp : ctl (rune l p.frm) = true := by
    cases hq : ctl (rune l p.frm) with
    | true => rfl
    | false =>
      unfold joins at hn
      rw [if_pos ⟨hw, hc, hq⟩] at hn
      cases hn
  have := first_alone l j p hp hcp
  rw [show c.frm - 1 = p.frm by omega]
  exact hcp
theorem toks_14 (s : List UInt8) : ∀ t ∈ U.toks s, 1 ≤ t.2 ∧ t.2 ≤ 4 := fun t ht => ⟨(U.toks_fact s t ht).1, (U.toks_fact s t ht).2.1⟩
end Go.Proofs.Ytclblidfamabdaa.C
