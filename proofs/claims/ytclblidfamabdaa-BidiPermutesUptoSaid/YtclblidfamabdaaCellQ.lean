/- Clusters: bounds, sums. Plain. -/
import Derived.Test.YtclblidfamabdaaCellP
set_option linter.unusedVariables false
namespace Go.Proofs.Ytclblidfamabdaa.C

theorem cellsOf_le (l : List U.Tk) (a b : Nat) : cellsOf l a b ≤ 2 := by
  unfold cellsOf
  split
  · omega
  · split
    · omega
    · exact wid_le _
theorem hasMark_of (l : List U.Tk) (frm to k : Nat) (h1 : frm < k) (h2 : k < to) (h : rune l k = 65039) : hasMark l frm to = true :=
  List.any_eq_true.2 ⟨k, List.mem_range.2 h2, by simp [h1, h]⟩
theorem Cov.length_le {l : List U.Tk} {frm : Nat} {cs : List Cl} (h : Cov l frm cs) : frm + cs.length ≤ l.length := by
  induction h with
  | nil => simp
  | cons hg e hc ih => have := hg.lt; simp only [List.length_cons]; omega
theorem clus_length_le (l : List U.Tk) : (clus l).length ≤ l.length := by have := (cov_clus l).length_le; omega
theorem clus_at (l : List U.Tk) (k : Nat) (c : Cl) (h : (clus l)[k]? = some c) :
    c.at_ = pl l c.frm ∧ c.at_ + c.len = pl l c.to_ ∧ c.frm < c.to_ ∧ c.to_ ≤ l.length ∧ c.cells ≤ 2 ∧ start l (clus l) k = c.frm ∧ start l (clus l) (k + 1) = c.to_ ∧ c.cells = cellsOf l c.frm c.to_ ∧ (∀ j, c.frm < j → j < c.to_ → joins l c.frm j = true) ∧ (c.to_ < l.length → joins l c.frm c.to_ = false) := by
  obtain ⟨g, rfl, hg, he, h1, h2⟩ := (cov_clus l).at_ k c h
  exact ⟨hg.at_, hg.len, hg.lt, hg.le, by rw [hg.cells]; exact cellsOf_le _ _ _, h1, h2, hg.cells, hg.joined, fun hh => by rw [← hg.takes_joins]; exact he hh⟩
theorem clus_cells_le (l : List U.Tk) : ∀ c ∈ clus l, c.cells ≤ 2 := by
  intro c hc
  obtain ⟨k, hk⟩ := List.getElem?_of_mem hc
  exact (clus_at l k c hk).2.2.2.2.1
theorem cells_append (a b : List Cl) : cells (a ++ b) = cells a + cells b := by simp [cells]
theorem cells_snoc (a : List Cl) (c : Cl) : cells (a ++ [c]) = cells a + c.cells := by simp [cells]
theorem cells_cons (a : List Cl) (c : Cl) : cells (c :: a) = c.cells + cells a := by simp [cells]
theorem cells_le2 (l : List Cl) (h : ∀ c ∈ l, c.cells ≤ 2) : cells l ≤ 2 * l.length := by
  induction l with
  | nil => simp [cells]
  | cons c l ih =>
    have h1 := ih (fun x hx => h x (List.mem_cons_of_mem _ hx))
    have h2 := h c List.mem_cons_self
    rw [cells_cons, List.length_cons]
    omega
/-- The cluster that begins at a sign, by where it ends. -/
def clAt (l : List U.Tk) (frm to : Nat) : Cl := ⟨pl l frm, pl l to - pl l frm, frm, to, cellsOf l frm to⟩
theorem Grp.clAt {l : List U.Tk} {frm to : Nat} {g : G} (h : Grp l frm to g) : g.c = clAt l frm to := by
  have h1 := h.at_
  have h2 := h.len
  have h3 := h.frm_
  have h4 := h.to_
  have h5 := h.cells
  obtain ⟨⟨a, b, c, d, e⟩, _, _, _⟩ := g
  simp only at h1 h2 h3 h4 h5
  have h6 : b = pl l to - pl l frm := by omega
  unfold C.clAt
  rw [h1, h6, h3, h4, h5]
theorem Cov.head {l : List U.Tk} {frm k : Nat} {cs : List Cl} (h : Cov l frm cs) (h1 : frm < k) (h2 : k ≤ l.length) (hj : ∀ j, frm < j → j < k → joins l frm j = true) (he : k < l.length → joins l frm k = false) :
    ∃ r, cs = clAt l frm k :: r ∧ Cov l k r := by
  cases h with
  | nil => omega
  | cons hg e hc =>
    rename_i to g r
    have hto : to = k := by
      rcases Nat.lt_trichotomy to k with hl | hl | hl
      · have := hj to hg.lt hl
        rw [← hg.takes_joins, e (by omega)] at this
        cases this
      · exact hl
      · have := hg.joined k h1 hl
        rw [he (by have := hg.le; omega)] at this
        cases this
    subst hto
    exact ⟨r, by rw [hg.clAt], hc⟩
theorem pl_mono (l : List U.Tk) (a b : Nat) (h : a ≤ b) : pl l a ≤ pl l b := by
  obtain ⟨k, rfl⟩ := Nat.exists_eq_add_of_le h
  unfold pl
  rw [List.take_add, wsum_app]
  omega
theorem pl_le (l : List U.Tk) (a : Nat) : pl l a ≤ U.wsum l := by
  have : U.wsum l = pl l a + U.wsum (l.drop a) := by unfold pl; rw [← wsum_app, List.take_append_drop]
  omega
theorem pl_all (l : List U.Tk) : pl l l.length = U.wsum l := by unfold pl; rw [List.take_length]
end Go.Proofs.Ytclblidfamabdaa.C
