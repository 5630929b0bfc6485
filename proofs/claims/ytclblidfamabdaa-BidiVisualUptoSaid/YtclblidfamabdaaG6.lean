/- Clusters: bounds, sums. Plain. -/
import Derived.Test.YtclblidfamabdaaG1
import Derived.Test.YtclblidfamabdaaG2
import Derived.BigQuiet
import Derived.BigRegion
set_option linter.unusedVariables false
namespace Go.Proofs.Ytclblidfamabdaa.C

theorem cellsOf_le (l : List U.Tk) (a b : Nat) : cellsOf l a b ≤ 2 := by
  unfold cellsOf
  split
  · omega
  · split
    · omega
    · exact wid_le _
theorem hasMark_of (l : List U.Tk) (frm tz k : Nat) (h1 : frm < k) (h2 : k < tz) (h : rune l k = 65039) : hasMark l frm tz = true :=
  List.any_eq_true.2 ⟨k, List.mem_range.2 h2, by simp [h1, h]⟩
theorem Cov.length_le {l : List U.Tk} {frm : Nat} {cs : List Cl} (h : Cov l frm cs) : frm + cs.length ≤ l.length := by
  induction h with
  | nil => simp
  | cons hg e hc ih => have := hg.lt; simp only [List.length_cons]; omega
theorem clus_length_le (l : List U.Tk) : (clus l).length ≤ l.length := by have := (cov_clus l).length_le; omega
theorem clus_at (l : List U.Tk) (k : Nat) (c : Cl) (h : (clus l)[k]? = some c) :
    c.at_ = pl l c.frm ∧ c.at_ + c.len = pl l c.to_ ∧ c.frm < c.to_ ∧ c.to_ ≤ l.length ∧ c.cells ≤ 2 ∧ start l (clus l) k = c.frm ∧ start l (clus l) (k + 1) = c.to_ ∧ c.cells = cellsOf l c.frm c.to_ ∧ (∀ j, c.frm < j → j < c.to_ → joins l c.frm j = true) ∧ (c.to_ < l.length → joins l c.frm c.to_ = false) := by
  obtain ⟨g, rfl, hg, he, h1, h2⟩ := (cov_clus l).at_ k c h
  exact ⟨hg.at_, hg.len, hg.lt, hg.le, by rw [hg.cells]; exact cellsOf_le _ _ _, h1, h2, hg.cells, hg.joined, fun hh => by rw [← hg.takes_joins]; exact he hh⟩
theorem clus_cells_le (l : List U.Tk) : ∀ c ∈ clus l, c.cells ≤ 2 := by
  intro c hc
  obtain ⟨k, hk⟩ := List.getElem?_of_mem hc
  exact (clus_at l k c hk).2.2.2.2.1
theorem cells_append (a b : List Cl) : cells (a ++ b) = cells a + cells b := by simp [cells]
theorem cells_snoc (a : List Cl) (c : Cl) : cells (a ++ [c]) = cells a + c.cells := by simp [cells]
theorem cells_cons (a : List Cl) (c : Cl) : cells (c :: a) = c.cells + cells a := by simp [cells]
theorem cells_le2 (l : List Cl) (h : ∀ c ∈ l, c.cells ≤ 2) : cells l ≤ 2 * l.length := by
  induction l with
  | nil => simp [cells]
  | cons c l ih =>
    have h1 := ih (fun x hx => h x (List.mem_cons_of_mem _ hx))
    have h2 := h c List.mem_cons_self
    rw [cells_cons, List.length_cons]
    omega
/-- The cluster that begins at a sign, by where it ends. -/
def clAt (l : List U.Tk) (frm tz : Nat) : Cl := ⟨pl l frm, pl l tz - pl l frm, frm, tz, cellsOf l frm tz⟩
theorem Grp.clAt {l : List U.Tk} {frm tz : Nat} {g : G} (h : Grp l frm tz g) : g.c = clAt l frm tz := by
  have h1 := h.at_
  have h2 := h.len
  have h3 := h.frm_
  have h4 := h.to_
  have h5 := h.cells
  obtain ⟨⟨a, b, c, d, e⟩, _, _, _⟩ := g
  simp only at h1 h2 h3 h4 h5
  have h6 : b = pl l tz - pl l frm := by omega
  unfold C.clAt
  rw [h1, h6, h3, h4, h5]
theorem Cov.head {l : List U.Tk} {frm k : Nat} {cs : List Cl} (h : Cov l frm cs) (h1 : frm < k) (h2 : k ≤ l.length) (hj : ∀ j, frm < j → j < k → joins l frm j = true) (he : k < l.length → joins l frm k = false) :
    ∃ r, cs = clAt l frm k :: r ∧ Cov l k r := by
  cases h with
  | nil => omega
  | cons hg e hc =>
    rename_i tz g r
    have hto : tz = k := by
      rcases Nat.lt_trichotomy tz k with hl | hl | hl
      · have := hj tz hg.lt hl
        rw [← hg.takes_joins, e (by omega)] at this
        cases this
      · exact hl
      · have := hg.joined k h1 hl
        rw [he (by have := hg.le; omega)] at this
        cases this
    subst hto
    exact ⟨r, by rw [hg.clAt], hc⟩
theorem pl_mono (l : List U.Tk) (a b : Nat) (h : a ≤ b) : pl l a ≤ pl l b := by
  obtain ⟨k, rfl⟩ := Nat.exists_eq_add_of_le h
  unfold pl
  rw [List.take_add, wsum_app]
  omega
theorem pl_le (l : List U.Tk) (a : Nat) : pl l a ≤ U.wsum l := by
  have : U.wsum l = pl l a + U.wsum (l.drop a) := by unfold pl; rw [← wsum_app, List.take_append_drop]
  omega
theorem pl_all (l : List U.Tk) : pl l l.length = U.wsum l := by unfold pl; rw [List.take_length]
end Go.Proofs.Ytclblidfamabdaa.C

/- Clusters: where each begins. Plain. -/
set_option linter.unusedVariables false
namespace Go.Proofs.Ytclblidfamabdaa.C

/-- The sign, the place, of the k-th cluster's begin. -/
def sgF (l : List U.Tk) (k : Nat) : Nat := start l (clus l) k
def atF (l : List U.Tk) (k : Nat) : Nat := pl l (sgF l k)
theorem pl_gap (l : List U.Tk) (h : ∀ t ∈ l, 1 ≤ t.2 ∧ t.2 ≤ 4) (a d : Nat) (hd : a + d ≤ l.length) : pl l a + d ≤ pl l (a + d) ∧ pl l (a + d) ≤ pl l a + 4 * d := by
  induction d with
  | zero => exact ⟨Nat.le_refl _, Nat.le_refl _⟩
  | succ d ih =>
    have h1 := ih (by omega)
    have h2 := pl_succ l (a + d) (by omega)
    have h3 := h (l[a + d]'(by omega)) (List.getElem_mem _)
    rw [tk_eq l (a + d) (by omega)] at h3
    rw [show a + (d + 1) = a + d + 1 by omega]
    simp only at h3
    omega
theorem sgF_zero (l : List U.Tk) : sgF l 0 = 0 := (cov_clus l).start_zero
theorem atF_zero (l : List U.Tk) : atF l 0 = 0 := by unfold atF; rw [sgF_zero]; rfl
theorem sgF_end (l : List U.Tk) : sgF l (clus l).length = l.length := by simp [sgF, start]
theorem atF_end (l : List U.Tk) : atF l (clus l).length = U.wsum l := by unfold atF; rw [sgF_end, pl_all]
theorem clus_steps (l : List U.Tk) (h : ∀ t ∈ l, 1 ≤ t.2 ∧ t.2 ≤ 4) (k : Nat) (c : Cl) (hk : (clus l)[k]? = some c) :
    c.at_ = atF l k ∧ c.frm = sgF l k ∧ c.to_ = sgF l (k + 1) ∧ atF l k + c.len = atF l (k + 1) ∧ sgF l k < sgF l (k + 1) ∧ sgF l (k + 1) ≤ l.length ∧ c.cells ≤ 2 ∧ sgF l (k + 1) - sgF l k ≤ c.len ∧ c.len ≤ 4 * (sgF l (k + 1) - sgF l k) ∧ atF l (k + 1) ≤ U.wsum l := by
  obtain ⟨h1, h2, h3, h4, h5, h6, h7, _⟩ := clus_at l k c hk
  have e1 : c.frm = sgF l k := h6.symm
  have e2 : c.to_ = sgF l (k + 1) := h7.symm
  rw [e1] at h1 h3
  rw [e2] at h2 h3 h4
  have e3 : atF l k = pl l (sgF l k) := rfl
  have e4 : atF l (k + 1) = pl l (sgF l (k + 1)) := rfl
  have g := pl_gap l h (sgF l k) (sgF l (k + 1) - sgF l k) (by omega)
  rw [show sgF l k + (sgF l (k + 1) - sgF l k) = sgF l (k + 1) by omega] at g
  have g2 := pl_le l (sgF l (k + 1))
  exact ⟨by omega, e1, e2, by omega, h3, h4, h5, by omega, by omega, by omega⟩
/-- A sign that stands alone begins a cluster of its own. -/
theorem first_alone (l : List U.Tk) (k : Nat) (c : Cl) (hk : (clus l)[k]? = some c) (h : ctl (rune l c.frm) = true) : c.to_ = c.frm + 1 := by
  obtain ⟨_, _, h3, _, _, _, _, _, hj, _⟩ := clus_at l k c hk
  by_cases e : c.to_ = c.frm + 1
  · exact e
  · have := (joins_ctl (hj (c.frm + 1) (by omega) (by omega))).1
    rw [h] at this
    cases this
theorem rest_plain (l : List U.Tk) (k : Nat) (c : Cl) (hk : (clus l)[k]? = some c) (j : Nat) (h1 : c.frm < j) (h2 : j < c.to_) : ctl (rune l j) = false := by
  obtain ⟨_, _, _, _, _, _, _, _, hj, _⟩ := clus_at l k c hk
  exact (joins_ctl (hj j h1 h2)).2
theorem before_ctl (l : List U.Tk) (k : Nat) (c : Cl) (hk : (clus l)[k]? = some c) (h0 : 0 < c.frm) (hw : wid (rune l c.frm) = 0) (hc : ctl (rune l c.frm) = false) : ctl (rune l (c.frm - 1)) = true := by
  obtain ⟨_, _, h3, h4, _, h6, _, _, _, _⟩ := clus_at l k c hk
  have hk0 : k ≠ 0 := by
    rintro rfl
    have := (cov_clus l).start_zero
    omega
  obtain ⟨j, rfl⟩ : ∃ j, k = j + 1 := ⟨k - 1, by omega⟩
  have hlt := (List.getElem?_eq_some_iff.1 hk).1
  obtain ⟨p, hp⟩ : ∃ p, (clus l)[j]? = some p := ⟨_, List.getElem?_eq_getElem (by omega)⟩
  obtain ⟨_, _, p3, p4, _, _, p7, _, _, p10⟩ := clus_at l j p hp
  have e : p.to_ = c.frm := by rw [← p7, h6]
  have hn := p10 (by omega)
  rw [e] at hn
  have hcp : ctl (rune l p.frm) = true := by
    cases hq : ctl (rune l p.frm) with
    | true => rfl
    | false =>
      unfold joins at hn
      rw [if_pos ⟨hw, hc, hq⟩] at hn
      cases hn
  have := first_alone l j p hp hcp
  rw [show c.frm - 1 = p.frm by omega]
  exact hcp
theorem toks_14 (s : List UInt8) : ∀ t ∈ U.toks s, 1 ≤ t.2 ∧ t.2 ≤ 4 := fun t ht => ⟨(U.toks_fact s t ht).1, (U.toks_fact s t ht).2.1⟩
end Go.Proofs.Ytclblidfamabdaa.C

/- Where a text may be parted: plain (as the first chapter's). -/
set_option linter.unusedVariables false
namespace Go.Proofs.Ytclblidfamabdaa.U

theorem decM_prefix (n m a1 a2 a3 b0 b1 b2 b3 : Nat) (h1 : 2 ≤ n → a1 = b1) (h2 : 3 ≤ n → a2 = b2) (h3 : 4 ≤ n → a3 = b3) (hm : n ≤ m) (h : (decM m b0 b1 b2 b3).2 ≤ n) :
    decM n b0 a1 a2 a3 = decM m b0 b1 b2 b3 := by
  unfold decM at h ⊢
  by_cases c0 : b0 < 128
  · rw [if_pos c0, if_pos c0]
  rw [if_neg c0] at h ⊢
  rw [if_neg c0]
  by_cases c1 : 194 ≤ b0 ∧ b0 ≤ 223 ∧ 2 ≤ m ∧ 128 ≤ b1 ∧ b1 ≤ 191
  · rw [if_pos c1] at h ⊢
    have := h1 h
    subst this
    rw [if_pos ⟨c1.1, c1.2.1, h, c1.2.2.2⟩]
  rw [if_neg c1] at h ⊢
  have d1 : ¬ (194 ≤ b0 ∧ b0 ≤ 223 ∧ 2 ≤ n ∧ 128 ≤ a1 ∧ a1 ≤ 191) := fun k => by
    have := h1 k.2.2.1
    subst this
    exact c1 ⟨k.1, k.2.1, by omega, k.2.2.2⟩
  rw [if_neg d1]
  by_cases c2 : 224 ≤ b0 ∧ b0 ≤ 239 ∧ 3 ≤ m ∧ lo2 b0 ≤ b1 ∧ b1 ≤ hi2 b0 ∧ 128 ≤ b2 ∧ b2 ≤ 191
  · rw [if_pos c2] at h ⊢
    have e1 := h1 (Nat.le_trans (show 2 ≤ 3 by omega) h)
    have e2 := h2 h
    subst e1 e2
    rw [if_pos ⟨c2.1, c2.2.1, h, c2.2.2.2⟩]
  rw [if_neg c2] at h ⊢
  have d2 : ¬ (224 ≤ b0 ∧ b0 ≤ 239 ∧ 3 ≤ n ∧ lo2 b0 ≤ a1 ∧ a1 ≤ hi2 b0 ∧ 128 ≤ a2 ∧ a2 ≤ 191) := fun k => by
    have e1 := h1 (by omega)
    have e2 := h2 k.2.2.1
    subst e1 e2
    exact c2 ⟨k.1, k.2.1, by omega, k.2.2.2⟩
  rw [if_neg d2]
  by_cases c3 : 240 ≤ b0 ∧ b0 ≤ 244 ∧ 4 ≤ m ∧ lo2 b0 ≤ b1 ∧ b1 ≤ hi2 b0 ∧ 128 ≤ b2 ∧ b2 ≤ 191 ∧ 128 ≤ b3 ∧ b3 ≤ 191
  · rw [if_pos c3] at h ⊢
    have e1 := h1 (Nat.le_trans (show 2 ≤ 4 by omega) h)
    have e2 := h2 (Nat.le_trans (show 3 ≤ 4 by omega) h)
    have e3 := h3 h
    subst e1 e2 e3
    rw [if_pos ⟨c3.1, c3.2.1, h, c3.2.2.2⟩]
  rw [if_neg c3] at h ⊢
  have d3 : ¬ (240 ≤ b0 ∧ b0 ≤ 244 ∧ 4 ≤ n ∧ lo2 b0 ≤ a1 ∧ a1 ≤ hi2 b0 ∧ 128 ≤ a2 ∧ a2 ≤ 191 ∧ 128 ≤ a3 ∧ a3 ≤ 191) := fun k => by
    have e1 := h1 (by omega)
    have e2 := h2 (by omega)
    have e3 := h3 k.2.2.1
    subst e1 e2 e3
    exact c3 ⟨k.1, k.2.1, by omega, k.2.2.2⟩
  rw [if_neg d3]

theorem by_append (a b : List UInt8) (k : Nat) (h : k < a.length) : by_ (a ++ b) k = by_ a k := by
  unfold by_
  rw [List.getD_eq_getElem?_getD, List.getD_eq_getElem?_getD, List.getElem?_append_left h]

theorem dec_prefix (a b : List UInt8) (h0 : a ≠ []) (h : (dec (a ++ b)).2 ≤ a.length) : dec a = dec (a ++ b) := by
  have hl : 0 < a.length := List.length_pos_iff.2 h0
  unfold dec at h ⊢
  rw [by_append a b 0 hl] at h ⊢
  exact decM_prefix _ _ _ _ _ _ _ _ _ (fun k => (by_append a b 1 k).symm) (fun k => (by_append a b 2 k).symm) (fun k => (by_append a b 3 k).symm) (by simp) h

theorem toks_seam (b : List UInt8) : ∀ (a : List UInt8), ∀ p, (∀ x ∈ put p (toks (a ++ b)), ¬ (x.at_ < p + a.length ∧ p + a.length < x.at_ + x.len)) → toks (a ++ b) = toks a ++ toks b := by
  refine toks_ind (fun p _ => by simp [toks_nil]) ?_
  intro a h0 ih p h
  have hne : a ++ b ≠ [] := by simp [h0]
  have hl : 0 < a.length := List.length_pos_iff.2 h0
  rw [toks_ne _ hne] at h ⊢
  simp only [put, List.mem_cons] at h
  have h1 := h _ (.inl rfl)
  simp only at h1
  have hw : (dec (a ++ b)).2 ≤ a.length := by omega
  have hd := dec_prefix a b h0 hw
  rw [toks_ne a h0, hd, List.cons_append]
  have hdr : (a ++ b).drop (dec (a ++ b)).2 = a.drop (dec (a ++ b)).2 ++ b := by
    rw [List.drop_append, Nat.sub_eq_zero_of_le hw, List.drop_zero]
  rw [hdr] at h ⊢
  rw [hd] at ih
  rw [ih (p + (dec (a ++ b)).2) (fun x hx => ?_)]
  have := h x (.inr hx)
  rw [List.length_drop]
  omega

/-- At a sign's begin the text falls into two. -/
theorem toks_cut (post : List Tk) : ∀ (pre : List Tk) (l : List UInt8), toks l = pre ++ post → toks (l.take (wsum pre)) = pre ∧ toks (l.drop (wsum pre)) = post := by
  intro pre
  induction pre with
  | nil => intro l h; exact ⟨by simp [wsum, toks_nil], by simpa [wsum] using h⟩
  | cons x pre ih =>
    intro l h
    have hne : l ≠ [] := fun e => by subst e; rw [toks_nil] at h; cases h
    rw [toks_ne l hne, List.cons_append] at h
    obtain ⟨h1, h2⟩ := List.cons.inj h
    obtain ⟨i1, i2⟩ := ih _ h2
    have hd := dec_facts l hne
    have hw : wsum (x :: pre) = (dec l).2 + wsum pre := by rw [h1]; simp [wsum]
    rw [hw]
    have hl : (l.take ((dec l).2 + wsum pre)) ≠ [] := fun e => by
      have := congrArg List.length e
      rw [List.length_take, List.length_nil] at this
      omega
    have ht : dec (l.take ((dec l).2 + wsum pre)) = dec l := by
      have := dec_prefix (l.take ((dec l).2 + wsum pre)) (l.drop ((dec l).2 + wsum pre)) hl
      rw [List.take_append_drop] at this
      exact this (by rw [List.length_take]; omega)
    refine ⟨?_, ?_⟩
    · rw [toks_ne _ hl, ht, h1]
      congr 1
      rw [← h1, List.drop_take, Nat.add_sub_cancel_left]
      exact i1
    · rw [← List.drop_drop]
      exact i2
end Go.Proofs.Ytclblidfamabdaa.U
namespace Go.Proofs.Ytclblidfamabdaa.C
/-- The clusters of a text's front up to a cluster's begin, of its rest. -/
theorem clus_parts (s : List UInt8) (k : Nat) (hk : k ≤ (clus (U.toks s)).length) :
    clus (U.toks (s.take (atF (U.toks s) k))) = (clus (U.toks s)).take k ∧ (clus (U.toks (s.drop (atF (U.toks s) k)))).map (sh (atF (U.toks s) k) (sgF (U.toks s) k)) = (clus (U.toks s)).drop k := by
  have h := U.toks_cut ((U.toks s).drop (sgF (U.toks s) k)) ((U.toks s).take (sgF (U.toks s) k)) s (List.take_append_drop _ _).symm
  have e : U.wsum ((U.toks s).take (sgF (U.toks s) k)) = atF (U.toks s) k := rfl
  rw [e] at h
  rw [h.1, h.2]
  exact ⟨clus_take _ k hk, clus_drop _ k hk⟩
theorem cells_sh (a n : Nat) (l : List Cl) : cells (l.map (sh a n)) = cells l := by
  induction l with
  | nil => rfl
  | cons c l ih => rw [List.map_cons, cells_cons, cells_cons, ih]; rfl
end Go.Proofs.Ytclblidfamabdaa.C

/- The widths of runes: what the program's and the document's four range functions answer. -/
set_option linter.unusedVariables false
set_option linter.unusedSimpArgs false
namespace Go.Proofs.Ytclblidfamabdaa
open Go.RowKit Go.Shelf Go.Lib
attribute [local go_sem] Oper.semAt_some

theorem ret_int {k : IntKind} {a b : Int} (h : a = b) : Ending.returned (.int k a) = .returned (.int k b) := by rw [h]
theorem ret_bool {a b : Bool} (h : a = b) : Ending.returned (.bool a) = .returned (.bool b) := by rw [h]
theorem eq_range (r c : Int) : (r == c) = (decide (c ≤ r) && decide (r ≤ c)) := by rw [Bool.eq_iff_iff]; simp; omega
theorem lt_range (r c : Int) : decide (r < c) = decide (r ≤ c - 1) := by rw [Bool.eq_iff_iff]; simp; omega
theorem ret_slot {P : Program} {fn : Func} {R : Ending → World → Prop} {a : Act} {w : World} {d : Nat} {v : Value} (h : fn.results = #[.tmp d]) (hd : a.defers = []) (e : a.eval (.tmp d) = v) (hR : R (.returned v) w) : bodyPost P fn R .ret a w :=
  bodyPost_ret (results_tmp h _ _ _) hd (by rw [show a.tmps.getD d undef = v from e]; exact hR)
theorem if_key {b : Bool} {u v : Value} (h : (if b = true then some v else none) = some u) : b = true ∧ v = u := by
  cases b
  · cases h
  · exact ⟨rfl, Option.some.inj h⟩
theorem if_none {b : Bool} {v : Value} (h : (if b = true then some v else none) = none) : b = false := by
  cases b
  · rfl
  · cases h
theorem if_or {α : Type} (a b : Bool) (x y : α) : (if a then x else if b then x else y) = if a || b then x else y := by cases a <;> rfl

set_option maxRecDepth 1000000 in
theorem nothing_any (r : Int) (w : World) : Calls Try.prog 98 #[.int .i32 r] w fun e w' => e = .returned (.bool (C.no r)) ∧ w = w' := by
  go_enter Try.func98, Try.ntmps98
  refine wp_seq (wp_region_lit (wpl_val _ rfl (run_assign _ _ rfl) ?_))
  refine wp_seq (wp_block ?_)
  apply sw_use (n := 191) (r := r) (res := 2)
  · repeat (first | exact sw_skip | apply sw_case | apply tst_or | apply tst_range | apply tst_rlt | apply tst_eq | decide)
  · exact ⟨rfl, rfl, rfl⟩
  · intro u hu a' ha' e
    simp only [if_or] at hu
    obtain ⟨hb, rfl⟩ := if_key hu
    have hv : C.no r = true := (by rw [← hb]; simp only [C.no, C.inR, C.rs0, List.any_cons, List.any_nil, Bool.or_false, Bool.or_assoc, eq_range, lt_range, Int.reduceSub])
    simp only [Exit.inBlock, Exit.then]
    exact ret_slot (d := 2) rfl ha'.defers e ⟨by rw [hv], rfl⟩
  · intro hu a' ha'
    simp only [if_or] at hu
    have hb := if_none hu
    have hv : C.no r = false := (by rw [← hb]; simp only [C.no, C.inR, C.rs0, List.any_cons, List.any_nil, Bool.or_false, Bool.or_assoc, eq_range, lt_range, Int.reduceSub])
    refine wp_seq (wp_region_lit (wpl_val _ rfl (run_assign _ _ rfl) ?_))
    exact wp_ret (ret_slot rfl ha'.defers (ha'.at_ 2 _ (by decide)) ⟨by rw [hv]; rfl, rfl⟩)

set_option maxRecDepth 1000000 in
theorem wide_any (r : Int) (w : World) : Calls Try.prog 99 #[.int .i32 r] w fun e w' => e = .returned (.bool (C.two r)) ∧ w = w' := by
  go_enter Try.func99, Try.ntmps99
  refine wp_seq (wp_region_lit (wpl_val _ rfl (run_assign _ _ rfl) ?_))
  refine wp_seq (wp_block ?_)
  apply sw_use (n := 139) (r := r) (res := 2)
  · repeat (first | exact sw_skip | apply sw_case | apply tst_or | apply tst_range | apply tst_rlt | apply tst_eq | decide)
  · exact ⟨rfl, rfl, rfl⟩
  · intro u hu a' ha' e
    simp only [if_or] at hu
    obtain ⟨hb, rfl⟩ := if_key hu
    have hv : C.two r = true := (by rw [← hb]; simp only [C.two, C.inR, C.rs2, List.any_cons, List.any_nil, Bool.or_false, Bool.or_assoc, eq_range, lt_range, Int.reduceSub])
    simp only [Exit.inBlock, Exit.then]
    exact ret_slot (d := 2) rfl ha'.defers e ⟨by rw [hv], rfl⟩
  · intro hu a' ha'
    simp only [if_or] at hu
    have hb := if_none hu
    have hv : C.two r = false := (by rw [← hb]; simp only [C.two, C.inR, C.rs2, List.any_cons, List.any_nil, Bool.or_false, Bool.or_assoc, eq_range, lt_range, Int.reduceSub])
    refine wp_seq (wp_region_lit (wpl_val _ rfl (run_assign _ _ rfl) ?_))
    exact wp_ret (ret_slot rfl ha'.defers (ha'.at_ 2 _ (by decide)) ⟨by rw [hv]; rfl, rfl⟩)

set_option maxRecDepth 1000000 in
theorem none_any (r : Int) (w : World) : Calls Try.prog 104 #[.int .i32 r] w fun e w' => e = .returned (.bool (C.no r)) ∧ w = w' := by
  go_enter Try.func104, Try.ntmps104
  refine wp_seq (wp_region_lit (wpl_val _ rfl (run_assign _ _ rfl) ?_))
  refine wp_seq (wp_block ?_)
  apply sw_use (n := 186) (r := r) (res := 2)
  · repeat (first | exact sw_skip | apply sw_case | apply tst_or | apply tst_range | apply tst_rlt | apply tst_eq | decide)
  · exact ⟨rfl, rfl, rfl⟩
  · intro u hu a' ha' e
    simp only [if_or] at hu
    obtain ⟨hb, rfl⟩ := if_key hu
    have hv : C.no r = true := (by rw [← hb]; simp only [C.no, C.inR, C.rs0, List.any_cons, List.any_nil, Bool.or_false, Bool.or_assoc, eq_range, lt_range, Int.reduceSub])
    simp only [Exit.inBlock, Exit.then]
    exact ret_slot (d := 2) rfl ha'.defers e ⟨by rw [hv], rfl⟩
  · intro hu a' ha'
    simp only [if_or] at hu
    have hb := if_none hu
    have hv : C.no r = false := (by rw [← hb]; simp only [C.no, C.inR, C.rs0, List.any_cons, List.any_nil, Bool.or_false, Bool.or_assoc, eq_range, lt_range, Int.reduceSub])
    refine wp_seq (wp_region_lit (wpl_val _ rfl (run_assign _ _ rfl) ?_))
    exact wp_ret (ret_slot rfl ha'.defers (ha'.at_ 2 _ (by decide)) ⟨by rw [hv]; rfl, rfl⟩)

set_option maxRecDepth 1000000 in
theorem wideR_any (r : Int) (w : World) : Calls Try.prog 105 #[.int .i32 r] w fun e w' => e = .returned (.bool (C.two r)) ∧ w = w' := by
  go_enter Try.func105, Try.ntmps105
  refine wp_seq (wp_region_lit (wpl_val _ rfl (run_assign _ _ rfl) ?_))
  refine wp_seq (wp_block ?_)
  apply sw_use (n := 136) (r := r) (res := 2)
  · repeat (first | exact sw_skip | apply sw_case | apply tst_or | apply tst_range | apply tst_rlt | apply tst_eq | decide)
  · exact ⟨rfl, rfl, rfl⟩
  · intro u hu a' ha' e
    simp only [if_or] at hu
    obtain ⟨hb, rfl⟩ := if_key hu
    have hv : C.two r = true := (by rw [← hb]; simp only [C.two, C.inR, C.rs2, List.any_cons, List.any_nil, Bool.or_false, Bool.or_assoc, eq_range, lt_range, Int.reduceSub])
    simp only [Exit.inBlock, Exit.then]
    exact ret_slot (d := 2) rfl ha'.defers e ⟨by rw [hv], rfl⟩
  · intro hu a' ha'
    simp only [if_or] at hu
    have hb := if_none hu
    have hv : C.two r = false := (by rw [← hb]; simp only [C.two, C.inR, C.rs2, List.any_cons, List.any_nil, Bool.or_false, Bool.or_assoc, eq_range, lt_range, Int.reduceSub])
    refine wp_seq (wp_region_lit (wpl_val _ rfl (run_assign _ _ rfl) ?_))
    exact wp_ret (ret_slot rfl ha'.defers (ha'.at_ 2 _ (by decide)) ⟨by rw [hv]; rfl, rfl⟩)

set_option maxRecDepth 1000000 in
theorem control_any (r : Int) (w : World) : Calls Try.prog 89 #[.int .i32 r] w fun e w' => e = .returned (.bool (C.ctl r)) ∧ w = w' := by
  go_enter Try.func89, Try.ntmps89
  refine wp_seq (wp_region_lit (wpl_val _ rfl (run_assign _ _ rfl) ?_))
  refine wp_seq (wp_block ?_)
  apply sw_use (n := 35) (r := r) (res := 2)
  · repeat (first | exact sw_skip | apply sw_case | apply tst_or | apply tst_range | apply tst_rlt | apply tst_eq | decide)
  · exact ⟨rfl, rfl, rfl⟩
  · intro u hu a' ha' e
    simp only [if_or] at hu
    obtain ⟨hb, rfl⟩ := if_key hu
    have hv : C.ctl r = true := (by rw [← hb]; simp only [C.ctl, C.inR, C.rsC, List.any_cons, List.any_nil, Bool.or_false, Bool.or_assoc, eq_range, lt_range, Int.reduceSub])
    simp only [Exit.inBlock, Exit.then]
    exact ret_slot (d := 2) rfl ha'.defers e ⟨by rw [hv], rfl⟩
  · intro hu a' ha'
    simp only [if_or] at hu
    have hb := if_none hu
    have hv : C.ctl r = false := (by rw [← hb]; simp only [C.ctl, C.inR, C.rsC, List.any_cons, List.any_nil, Bool.or_false, Bool.or_assoc, eq_range, lt_range, Int.reduceSub])
    refine wp_seq (wp_region_lit (wpl_val _ rfl (run_assign _ _ rfl) ?_))
    exact wp_ret (ret_slot rfl ha'.defers (ha'.at_ 2 _ (by decide)) ⟨by rw [hv]; rfl, rfl⟩)
end Go.Proofs.Ytclblidfamabdaa

/- Width, control, flag: of the program, of the document, of the laws. -/
set_option linter.unusedVariables false
namespace Go.Proofs.Ytclblidfamabdaa
open Go.RowKit Go.Shelf Go.Lib
attribute [local go_sem] Oper.semAt_some

theorem width_any (r : Int) (w : World) : Calls Try.prog 88 #[.int .i32 r] w fun e w' => e = .returned (.int .i64 (C.wid r : Int)) ∧ w = w' := by
  obtain ⟨n, hn⟩ : ∃ n, C.no r = n := ⟨_, rfl⟩
  obtain ⟨t, ht⟩ : ∃ t, C.two r = t := ⟨_, rfl⟩
  have HV := Lib.hid (show C.wid r = if n then 0 else if t then 2 else 1 by unfold C.wid; rw [hn, ht])
  have N := fun w => nothing_any r w
  have T := fun w => wide_any r w
  rw [hn] at N
  rw [ht] at T
  have N := Lib.hid N
  have T := Lib.hid T
  clear hn ht
  go_enter Try.func88, Try.ntmps88
  cases n <;> cases t
  all_goals (
    go_wp2_with (first
      | (go_at_call 98; ((with_reducible refine (N.out _).mono ?_); rintro e w' ⟨rfl, rfl⟩))
      | (go_at_call 99; ((with_reducible refine (T.out _).mono ?_); rintro e w' ⟨rfl, rfl⟩)))
    go_ret
    exact ⟨ret_int (by rw [HV.out]; rfl), rfl⟩)
theorem widthR_any (r : Int) (w : World) : Calls Try.prog 94 #[.int .i32 r] w fun e w' => e = .returned (.int .i64 (C.wid r : Int)) ∧ w = w' := by
  obtain ⟨n, hn⟩ : ∃ n, C.no r = n := ⟨_, rfl⟩
  obtain ⟨t, ht⟩ : ∃ t, C.two r = t := ⟨_, rfl⟩
  have HV := Lib.hid (show C.wid r = if n then 0 else if t then 2 else 1 by unfold C.wid; rw [hn, ht])
  have N := fun w => none_any r w
  have T := fun w => wideR_any r w
  rw [hn] at N
  rw [ht] at T
  have N := Lib.hid N
  have T := Lib.hid T
  clear hn ht
  go_enter Try.func94, Try.ntmps94
  cases n <;> cases t
  all_goals (
    go_wp2_with (first
      | (go_at_call 104; ((with_reducible refine (N.out _).mono ?_); rintro e w' ⟨rfl, rfl⟩))
      | (go_at_call 105; ((with_reducible refine (T.out _).mono ?_); rintro e w' ⟨rfl, rfl⟩)))
    go_ret
    exact ⟨ret_int (by rw [HV.out]; rfl), rfl⟩)

set_option maxRecDepth 1000000 in
set_option maxHeartbeats 4000000 in
theorem controlR_any (r : Int) (w : World) : Calls Try.prog 95 #[.int .i32 r] w fun e w' => e = .returned (.bool (C.ctl r)) ∧ w = w' := by
  obtain ⟨v, hv⟩ : ∃ v, C.ctl r = v := ⟨_, rfl⟩
  have HV := Lib.hid hv
  rw [hv]
  clear hv
  go_enter Try.func95, Try.ntmps95
  have hs : r < 0 ∨ (0 ≤ r ∧ r < 32) ∨ (32 ≤ r ∧ r < 127) ∨ (127 ≤ r ∧ r < 160) ∨ (160 ≤ r ∧ r < 1564) ∨ (1564 ≤ r ∧ r < 1565) ∨ (1565 ≤ r ∧ r < 8206) ∨ (8206 ≤ r ∧ r < 8207) ∨ (8207 ≤ r ∧ r < 8208) ∨ (8208 ≤ r ∧ r < 8232) ∨ (8232 ≤ r ∧ r < 8239) ∨ (8239 ≤ r ∧ r < 8294) ∨ (8294 ≤ r ∧ r < 8298) ∨ 8298 ≤ r := by omega
  rcases hs with h | h | h | h | h | h | h | h | h | h | h | h | h | h
  all_goals (
    go_wp2
    go_ret
    refine ⟨ret_bool ?_, rfl⟩
    rw [← HV.out, Bool.eq_iff_iff]
    simp [C.ctl, C.inR, C.rsC]
    try omega)
theorem flag_any (r : Int) (w : World) : Calls Try.prog 90 #[.int .i32 r] w fun e w' => e = .returned (.bool (C.flag r)) ∧ w = w' := by
  go_enter Try.func90, Try.ntmps90
  have hs : r < 127462 ∨ 127462 ≤ r := by omega
  rcases hs with h | h
  all_goals (
    go_wp2
    go_ret
    refine ⟨ret_bool ?_, rfl⟩
    rw [Bool.eq_iff_iff]
    simp [C.flag]
    try omega)
theorem letter_any (r : Int) (w : World) : Calls Try.prog 96 #[.int .i32 r] w fun e w' => e = .returned (.bool (C.flag r)) ∧ w = w' := by
  go_enter Try.func96, Try.ntmps96
  have hs : r < 127462 ∨ 127462 ≤ r := by omega
  rcases hs with h | h
  all_goals (
    go_wp2
    go_ret
    refine ⟨ret_bool ?_, rfl⟩
    rw [Bool.eq_iff_iff]
    simp [C.flag]
    try omega)
end Go.Proofs.Ytclblidfamabdaa

/- A group: whether a rune belongs to it; how it is taken in. -/
set_option linter.unusedVariables false
namespace Go.Proofs.Ytclblidfamabdaa
open Go.RowKit Go.Shelf Go.Lib Go.BigFrame
attribute [local go_sem] Oper.semAt_some

/-- A group's cells; a cluster's. -/
def cellsG (g : C.G) : Array Value := #[.int .i64 (g.c.at_ : Int), .int .i64 (g.c.len : Int), .int .i64 (g.c.frm : Int), .int .i64 (g.c.to_ : Int), .int .i64 (g.c.cells : Int), .int .i32 (g.first : Int), .int .i32 (g.last : Int), .bool g.arrow]
def cellC (c : C.Cl) : List Value := [.int .i64 (c.at_ : Int), .int .i64 (c.len : Int), .int .i64 (c.frm : Int), .int .i64 (c.to_ : Int), .int .i64 (c.cells : Int)]
def encC (c : C.Cl) : Value := .agg #[.int .i64 (c.at_ : Int), .int .i64 (c.len : Int), .int .i64 (c.frm : Int), .int .i64 (c.to_ : Int), .int .i64 (c.cells : Int)]

theorem cell_of_cells {W : World} {B : Nat} {t : TypeId} {cs : Array Value} (h : W.heap[B]? = some (.cells cs t (0, 0))) (j : Nat) (v : Value) (hj : cs[j]? = some v) : W.cell? ⟨B, j, none⟩ = some v ∧ W.frozen? ⟨B, j, none⟩ = false := by
  constructor
  · simp [World.cell?, h, hj]
  · simp [World.frozen?, h]
theorem block_setCell {W : World} {B : Nat} {t : TypeId} {cs : Array Value} {fr : Nat × Nat} (h : W.heap[B]? = some (.cells cs t fr)) (j : Nat) (v : Value) :
    (W.setCell ⟨B, j, none⟩ v).heap[B]? = some (.cells (cs.setIfInBounds j v) t fr) := by
  obtain ⟨hlt, h'⟩ := Array.getElem?_eq_some_iff.1 h
  show (W.heap.modify B _)[B]? = _
  rw [Array.getElem?_eq_getElem (by rw [Array.size_modify]; exact hlt), Array.getElem_modify_self, h']
  rfl

set_option maxRecDepth 1000000 in
set_option maxHeartbeats 2000000 in
theorem takes_any (w : World) (B : Nat) (g : C.G) (r : Nat) (t : TypeId) (hb : w.heap[B]? = some (.cells (cellsG g) t (0, 0))) (h1 : g.c.frm ≤ g.c.to_) (h2 : g.c.to_ ≤ 4194304) :
    Calls Try.prog 70 #[.pointer (some ⟨B, 0, none⟩), .int .i32 (r : Int)] w fun e w' => e = .returned (.bool (C.takes g r)) ∧ ∃ n, w.drewN n = w' := by
  have cf : w.cell? ⟨B, 5, none⟩ = some (.int .i32 (g.first : Int)) := (cell_of_cells hb 5 _ rfl).1
  have cl : w.cell? ⟨B, 6, none⟩ = some (.int .i32 (g.last : Int)) := (cell_of_cells hb 6 _ rfl).1
  have c2 : w.cell? ⟨B, 2, none⟩ = some (.int .i64 (g.c.frm : Int)) := (cell_of_cells hb 2 _ rfl).1
  have c3 : w.cell? ⟨B, 3, none⟩ = some (.int .i64 (g.c.to_ : Int)) := (cell_of_cells hb 3 _ rfl).1
  have WR_ := fun w => width_any (r : Int) w
  have WF_ := fun w => width_any (g.first : Int) w
  have CR_ := fun w => control_any (r : Int) w
  have CF_ := fun w => control_any (g.first : Int) w
  have FR_ := fun w => flag_any (r : Int) w
  have FF_ := fun w => flag_any (g.first : Int) w
  obtain ⟨T, hT⟩ : ∃ T, C.takes g r = T := ⟨_, rfl⟩
  rw [hT]
  unfold C.takes at hT
  clear hb
  have hwr := C.wid_le (r : Int)
  generalize C.wid (r : Int) = wr at WR_ hT hwr
  generalize C.wid (g.first : Int) = wf at WF_ hT
  generalize C.ctl (r : Int) = cr at CR_ hT
  generalize C.ctl (g.first : Int) = cf' at CF_ hT
  generalize C.flag (r : Int) = fr at FR_ hT
  generalize C.flag (g.first : Int) = ff at FF_ hT
  generalize g.first = f at *
  generalize g.last = l at *
  generalize g.c.frm = frm at *
  generalize g.c.to_ = tz at *
  have WR := Lib.hid WR_
  have WF := Lib.hid WF_
  have CR := Lib.hid CR_
  have CF := Lib.hid CF_
  have FR := Lib.hid FR_
  have FF := Lib.hid FF_
  have HT := Lib.hid hT
  clear hT WR_ WF_ CR_ CF_ FR_ FF_
  by_cases w0 : wr = 0 ∧ cr = false
  · obtain ⟨rfl, rfl⟩ := w0
    go_enter Try.func70, Try.ntmps70
    go_wp2_with (first | (go_at_call 88; ((with_reducible refine (WR.out _).mono ?_); rintro e w' ⟨rfl, rfl⟩)) | (go_at_call 88; ((with_reducible refine (WF.out _).mono ?_); rintro e w' ⟨rfl, rfl⟩)) | (go_at_call 89; ((with_reducible refine (CR.out _).mono ?_); rintro e w' ⟨rfl, rfl⟩)) | (go_at_call 89; ((with_reducible refine (CF.out _).mono ?_); rintro e w' ⟨rfl, rfl⟩)) | (go_at_call 90; ((with_reducible refine (FR.out _).mono ?_); rintro e w' ⟨rfl, rfl⟩)) | (go_at_call 90; ((with_reducible refine (FF.out _).mono ?_); rintro e w' ⟨rfl, rfl⟩)))
    go_ret
    exact ⟨ret_bool (by rw [← HT.out]; rfl), 0, rfl⟩
  have HT2 := Lib.hid ((if_neg w0).symm.trans HT.out)
  clear HT
  have w0' : (wr = 0 ∧ cr = true) ∨ wr = 1 ∨ wr = 2 := by cases cr <;> simp_all <;> omega
  clear w0 hwr
  cases fr
  · rcases w0' with ⟨rfl, rfl⟩ | rfl | rfl
    · go_enter Try.func70, Try.ntmps70
      go_wp2_with (first | (go_at_call 88; ((with_reducible refine (WR.out _).mono ?_); rintro e w' ⟨rfl, rfl⟩)) | (go_at_call 88; ((with_reducible refine (WF.out _).mono ?_); rintro e w' ⟨rfl, rfl⟩)) | (go_at_call 89; ((with_reducible refine (CR.out _).mono ?_); rintro e w' ⟨rfl, rfl⟩)) | (go_at_call 89; ((with_reducible refine (CF.out _).mono ?_); rintro e w' ⟨rfl, rfl⟩)) | (go_at_call 90; ((with_reducible refine (FR.out _).mono ?_); rintro e w' ⟨rfl, rfl⟩)) | (go_at_call 90; ((with_reducible refine (FF.out _).mono ?_); rintro e w' ⟨rfl, rfl⟩)))
      go_ret
      exact ⟨ret_bool (by rw [← HT2.out]; rfl), 0, rfl⟩
    · go_enter Try.func70, Try.ntmps70
      go_wp2_with (first | (go_at_call 88; ((with_reducible refine (WR.out _).mono ?_); rintro e w' ⟨rfl, rfl⟩)) | (go_at_call 88; ((with_reducible refine (WF.out _).mono ?_); rintro e w' ⟨rfl, rfl⟩)) | (go_at_call 89; ((with_reducible refine (CR.out _).mono ?_); rintro e w' ⟨rfl, rfl⟩)) | (go_at_call 89; ((with_reducible refine (CF.out _).mono ?_); rintro e w' ⟨rfl, rfl⟩)) | (go_at_call 90; ((with_reducible refine (FR.out _).mono ?_); rintro e w' ⟨rfl, rfl⟩)) | (go_at_call 90; ((with_reducible refine (FF.out _).mono ?_); rintro e w' ⟨rfl, rfl⟩)))
      go_ret
      exact ⟨ret_bool (by rw [← HT2.out]; rfl), 0, rfl⟩
    · by_cases hl : l = 8205
      · subst hl
        go_enter Try.func70, Try.ntmps70
        go_wp2_with (first | (go_at_call 88; ((with_reducible refine (WR.out _).mono ?_); rintro e w' ⟨rfl, rfl⟩)) | (go_at_call 88; ((with_reducible refine (WF.out _).mono ?_); rintro e w' ⟨rfl, rfl⟩)) | (go_at_call 89; ((with_reducible refine (CR.out _).mono ?_); rintro e w' ⟨rfl, rfl⟩)) | (go_at_call 89; ((with_reducible refine (CF.out _).mono ?_); rintro e w' ⟨rfl, rfl⟩)) | (go_at_call 90; ((with_reducible refine (FR.out _).mono ?_); rintro e w' ⟨rfl, rfl⟩)) | (go_at_call 90; ((with_reducible refine (FF.out _).mono ?_); rintro e w' ⟨rfl, rfl⟩)))
        go_ret
        exact ⟨ret_bool (by rw [← HT2.out, Bool.eq_iff_iff]; simp; omega), 0, rfl⟩
      · have hl1 : ((l : Int) == 8205) = false := by simp; omega
        go_enter Try.func70, Try.ntmps70
        go_wp2_with (first | (go_at_call 88; ((with_reducible refine (WR.out _).mono ?_); rintro e w' ⟨rfl, rfl⟩)) | (go_at_call 88; ((with_reducible refine (WF.out _).mono ?_); rintro e w' ⟨rfl, rfl⟩)) | (go_at_call 89; ((with_reducible refine (CR.out _).mono ?_); rintro e w' ⟨rfl, rfl⟩)) | (go_at_call 89; ((with_reducible refine (CF.out _).mono ?_); rintro e w' ⟨rfl, rfl⟩)) | (go_at_call 90; ((with_reducible refine (FR.out _).mono ?_); rintro e w' ⟨rfl, rfl⟩)) | (go_at_call 90; ((with_reducible refine (FF.out _).mono ?_); rintro e w' ⟨rfl, rfl⟩)))
        go_ret
        exact ⟨ret_bool (by rw [← HT2.out]; simp [hl]), 0, rfl⟩
  · rcases w0' with ⟨rfl, rfl⟩ | rfl | rfl
    all_goals (
      go_enter Try.func70, Try.ntmps70
      cases ff
      · go_wp2_with (first | (go_at_call 88; ((with_reducible refine (WR.out _).mono ?_); rintro e w' ⟨rfl, rfl⟩)) | (go_at_call 88; ((with_reducible refine (WF.out _).mono ?_); rintro e w' ⟨rfl, rfl⟩)) | (go_at_call 89; ((with_reducible refine (CR.out _).mono ?_); rintro e w' ⟨rfl, rfl⟩)) | (go_at_call 89; ((with_reducible refine (CF.out _).mono ?_); rintro e w' ⟨rfl, rfl⟩)) | (go_at_call 90; ((with_reducible refine (FR.out _).mono ?_); rintro e w' ⟨rfl, rfl⟩)) | (go_at_call 90; ((with_reducible refine (FF.out _).mono ?_); rintro e w' ⟨rfl, rfl⟩)))
        go_quiet ((go_at_call 90; exact Calls.quiet_of_same ((FF.out _).mono fun _ _ h => ⟨h.1, h.2.symm⟩)))
        go_wp2
        go_ret
        exact ⟨ret_bool (by rw [← HT2.out]; rfl), _, rfl⟩
      · go_wp2_with (first | (go_at_call 88; ((with_reducible refine (WR.out _).mono ?_); rintro e w' ⟨rfl, rfl⟩)) | (go_at_call 88; ((with_reducible refine (WF.out _).mono ?_); rintro e w' ⟨rfl, rfl⟩)) | (go_at_call 89; ((with_reducible refine (CR.out _).mono ?_); rintro e w' ⟨rfl, rfl⟩)) | (go_at_call 89; ((with_reducible refine (CF.out _).mono ?_); rintro e w' ⟨rfl, rfl⟩)) | (go_at_call 90; ((with_reducible refine (FR.out _).mono ?_); rintro e w' ⟨rfl, rfl⟩)) | (go_at_call 90; ((with_reducible refine (FF.out _).mono ?_); rintro e w' ⟨rfl, rfl⟩)))
        go_quiet ((go_at_call 90; exact Calls.quiet_of_same ((FF.out _).mono fun _ _ h => ⟨h.1, h.2.symm⟩)))
        go_wp2
        go_ret
        exact ⟨ret_bool (by rw [← HT2.out, Bool.eq_iff_iff]; simp; omega), _, rfl⟩)

end Go.Proofs.Ytclblidfamabdaa

/- A group takes a rune in. -/
set_option linter.unusedVariables false
set_option linter.unusedSimpArgs false
namespace Go.Proofs.Ytclblidfamabdaa
open Go.RowKit Go.Shelf Go.Lib Go.BigFrame
attribute [local go_sem] Oper.semAt_some

set_option maxRecDepth 1000000 in
set_option maxHeartbeats 2000000 in
theorem add_any (w : World) (B : Nat) (g : C.G) (r n : Nat) (t : TypeId) (hb : w.heap[B]? = some (.cells (cellsG g) t (0, 0))) (h2 : g.c.to_ ≤ 4194304) (h3 : g.c.len ≤ 4194304) (h4 : n ≤ 4194304) :
    Calls Try.prog 71 #[.pointer (some ⟨B, 0, none⟩), .int .i32 (r : Int), .int .i64 (n : Int)] w fun e w' =>
      (∃ v, e = .returned v) ∧ w'.heap[B]? = some (.cells (cellsG (C.add g r n)) t (0, 0)) ∧ Fr (fun k => k ≠ B) w w' ∧ w'.heap.size = w.heap.size := by
  have c0 : w.cell? ⟨B, 0, none⟩ = some (.int .i64 (g.c.at_ : Int)) := (cell_of_cells hb 0 _ rfl).1
  have c1 : w.cell? ⟨B, 1, none⟩ = some (.int .i64 (g.c.len : Int)) := (cell_of_cells hb 1 _ rfl).1
  have c2 : w.cell? ⟨B, 2, none⟩ = some (.int .i64 (g.c.frm : Int)) := (cell_of_cells hb 2 _ rfl).1
  have c3 : w.cell? ⟨B, 3, none⟩ = some (.int .i64 (g.c.to_ : Int)) := (cell_of_cells hb 3 _ rfl).1
  have c4 : w.cell? ⟨B, 4, none⟩ = some (.int .i64 (g.c.cells : Int)) := (cell_of_cells hb 4 _ rfl).1
  have c5 : w.cell? ⟨B, 5, none⟩ = some (.int .i32 (g.first : Int)) := (cell_of_cells hb 5 _ rfl).1
  have c6 : w.cell? ⟨B, 6, none⟩ = some (.int .i32 (g.last : Int)) := (cell_of_cells hb 6 _ rfl).1
  have c7 : w.cell? ⟨B, 7, none⟩ = some (.bool g.arrow) := (cell_of_cells hb 7 _ rfl).1
  have f1 := (cell_of_cells hb 1 _ rfl).2
  have f3 := (cell_of_cells hb 3 _ rfl).2
  have f4 := (cell_of_cells hb 4 _ rfl).2
  have f5 := (cell_of_cells hb 5 _ rfl).2
  have f6 := (cell_of_cells hb 6 _ rfl).2
  have f7 := (cell_of_cells hb 7 _ rfl).2
  have WR := fun w => width_any (r : Int) w
  have FR := fun w => flag_any (r : Int) w
  have HB := Lib.hid hb
  clear hb
  obtain ⟨wr, hwr⟩ : ∃ x, C.wid (r : Int) = x := ⟨_, rfl⟩
  obtain ⟨fr, hfr⟩ : ∃ x, C.flag (r : Int) = x := ⟨_, rfl⟩
  rw [hwr] at WR
  rw [hfr] at FR
  have WR := Lib.hid WR
  have FR := Lib.hid FR
  obtain ⟨ar, har⟩ : ∃ x, g.arrow = x := ⟨_, rfl⟩
  rw [har] at c7
  have HV := Lib.hid (And.intro hwr (And.intro hfr har))
  clear hwr hfr har
  go_enter Try.func71, Try.ntmps71
  go_wp2
  go_quiet (fail)
  by_cases h : g.c.to_ = g.c.frm
  · have hd : ((g.c.to_ : Int) == (g.c.frm : Int)) = true := by simp [h]
    have hA : Hid (C.add g r n = C.addF g r n) := Lib.hid (if_pos h)
    by_cases ha : 8592 ≤ r
    · go_wp2_with (first | (go_at_call 88; ((with_reducible refine (WR.out _).mono ?_); rintro e w' ⟨rfl, rfl⟩)))
      go_end0
      refine ⟨⟨_, rfl⟩, ?_, ?_, by simp [World.setCell]⟩
      · rw [hA.out]
        refine (block_setCell (block_setCell (block_setCell (block_setCell (block_setCell (block_setCell HB.out _ _) _ _) _ _) _ _) _ _) _ _).trans ?_
        obtain ⟨v1, v2, v3⟩ := HV.out
        simp [cellsG, C.addF, v1, v2, v3, C.isArrow, ha, h]; omega
      · repeat (refine Fr.setCell ?_ _ _ (fun _ h => h rfl))
        exact (Fr.refl _ _).drewN _
    · have ha2 : decide ((8592 : Int) ≤ (r : Int)) = false := decide_eq_false (by omega)
      go_wp2_with (first | (go_at_call 88; ((with_reducible refine (WR.out _).mono ?_); rintro e w' ⟨rfl, rfl⟩)))
      go_end0
      refine ⟨⟨_, rfl⟩, ?_, ?_, by simp [World.setCell]⟩
      · rw [hA.out]
        refine (block_setCell (block_setCell (block_setCell (block_setCell (block_setCell (block_setCell HB.out _ _) _ _) _ _) _ _) _ _) _ _).trans ?_
        obtain ⟨v1, v2, v3⟩ := HV.out
        simp [cellsG, C.addF, v1, v2, v3, C.isArrow, ha, h]
      · repeat (refine Fr.setCell ?_ _ _ (fun _ h => h rfl))
        exact (Fr.refl _ _).drewN _
  · have hd : ((g.c.to_ : Int) == (g.c.frm : Int)) = false := by simp; omega
    have hA : Hid (C.add g r n = C.addM g r n) := Lib.hid (if_neg h)
    cases fr
    · cases ar
      · go_wp2_with (first | (go_at_call 90; ((with_reducible refine (FR.out _).mono ?_); rintro e w' ⟨rfl, rfl⟩)))
        go_end0
        refine ⟨⟨_, rfl⟩, ?_, ?_, by simp [World.setCell]⟩
        · rw [hA.out]
          refine (block_setCell (block_setCell (block_setCell HB.out _ _) _ _) _ _).trans ?_
          obtain ⟨v1, v2, v3⟩ := HV.out
          simp [cellsG, C.addM, v1, v2, v3]
        · repeat (refine Fr.setCell ?_ _ _ (fun _ h => h rfl))
          exact (Fr.refl _ _).drewN _
      · by_cases hr : r = 65039
        · have hr2 : ((r : Int) == 65039) = true := by rw [hr]; rfl
          have FL := Lib.hid (show ∀ w, Calls Try.prog 90 #[.int .i32 65039] w (fun e w' => e = .returned (.bool false) ∧ w = w') from by have := FR.out; rw [hr] at this; exact this)
          go_wp2_with (first | (go_at_call 90; ((with_reducible refine (FL.out _).mono ?_); rintro e w' ⟨rfl, rfl⟩)) | (go_at_call 90; ((with_reducible refine (FR.out _).mono ?_); rintro e w' ⟨rfl, rfl⟩)))
          go_end0
          refine ⟨⟨_, rfl⟩, ?_, ?_, by simp [World.setCell]⟩
          · rw [hA.out]
            refine (block_setCell (block_setCell (block_setCell (block_setCell HB.out _ _) _ _) _ _) _ _).trans ?_
            obtain ⟨v1, v2, v3⟩ := HV.out
            simp [cellsG, C.addM, v1, v2, v3, hr]
          · repeat (refine Fr.setCell ?_ _ _ (fun _ h => h rfl))
            exact (Fr.refl _ _).drewN _
        · have hr2 : ((r : Int) == 65039) = false := by simp; omega
          go_wp2_with (first | (go_at_call 90; ((with_reducible refine (FR.out _).mono ?_); rintro e w' ⟨rfl, rfl⟩)))
          go_end0
          refine ⟨⟨_, rfl⟩, ?_, ?_, by simp [World.setCell]⟩
          · rw [hA.out]
            refine (block_setCell (block_setCell (block_setCell HB.out _ _) _ _) _ _).trans ?_
            obtain ⟨v1, v2, v3⟩ := HV.out
            simp [cellsG, C.addM, v1, v2, v3, hr]
          · repeat (refine Fr.setCell ?_ _ _ (fun _ h => h rfl))
            exact (Fr.refl _ _).drewN _
    · go_wp2_with (first | (go_at_call 90; ((with_reducible refine (FR.out _).mono ?_); rintro e w' ⟨rfl, rfl⟩)))
      go_end0
      refine ⟨⟨_, rfl⟩, ?_, ?_, by simp [World.setCell]⟩
      · rw [hA.out]
        refine (block_setCell (block_setCell (block_setCell (block_setCell HB.out _ _) _ _) _ _) _ _).trans ?_
        obtain ⟨v1, v2, v3⟩ := HV.out
        simp [cellsG, C.addM, v1, v2, v3]
      · repeat (refine Fr.setCell ?_ _ _ (fun _ h => h rfl))
        exact (Fr.refl _ _).drewN _
end Go.Proofs.Ytclblidfamabdaa

/- cell.Clusters' inner function: one sign is taken in. -/
set_option linter.unusedVariables false
set_option linter.unusedSimpArgs false
namespace Go.Proofs.Ytclblidfamabdaa
open Go.RowKit Go.Shelf Go.Lib Go.BigFrame
attribute [local go_sem] Oper.semAt_some

/-- What lies in a block. -/
def At (W : World) (B : Nat) (cs : Array Value) : Prop := ∃ t, W.heap[B]? = some (.cells cs t (0, 0))
theorem At.fr {S : Nat → Prop} {W W' : World} {B : Nat} {cs : Array Value} (h : At W B cs) (hf : Fr S W W') (hs : S B) : At W' B cs := by
  obtain ⟨t, h⟩ := h
  exact ⟨t, (hf.block B (Array.getElem?_eq_some_iff.1 h).1 hs).trans h⟩
theorem At.cell {W : World} {B : Nat} {cs : Array Value} (h : At W B cs) (j : Nat) (v : Value) (hj : cs[j]? = some v) : W.cell? ⟨B, j, none⟩ = some v := by obtain ⟨t, h⟩ := h; exact (cell_of_cells h j v hj).1
theorem At.frozen {W : World} {B : Nat} {cs : Array Value} (h : At W B cs) (j : Nat) (v : Value) (hj : cs[j]? = some v) : W.frozen? ⟨B, j, none⟩ = false := by obtain ⟨t, h⟩ := h; exact (cell_of_cells h j v hj).2
theorem At.set {W : World} {B : Nat} {cs : Array Value} (h : At W B cs) (j : Nat) (v : Value) : At (W.setCell ⟨B, j, none⟩ v) B (cs.setIfInBounds j v) := by obtain ⟨t, h⟩ := h; exact ⟨t, block_setCell h j v⟩
theorem At.other {W : World} {B B' : Nat} {cs : Array Value} (h : At W B cs) (j : Nat) (v : Value) (hn : B ≠ B') : At (W.setCell ⟨B', j, none⟩ v) B cs :=
  h.fr (S := fun k => k = B) ((Fr.refl _ _).setCell _ _ (fun _ e => hn e.symm)) rfl
theorem At.drewN {W : World} {B : Nat} {cs : Array Value} (h : At W B cs) (n : Nat) : At (W.drewN n) B cs := h
theorem At.lt {W : World} {B : Nat} {cs : Array Value} (h : At W B cs) : B < W.heap.size := by obtain ⟨t, h⟩ := h; exact (Array.getElem?_eq_some_iff.1 h).1

/-- What the iterator holds: whom it hands on to, the group, the last sign's place and rune, has a group begun? -/
structure St (A : World) (B l : Nat) (g : C.G) (a r : Nat) (b : Bool) : Prop where
  y : At A B #[.func (.yield l) #[] #[]]
  g : At A (B + 1) (cellsG g)
  a : At A (B + 2) #[.int .i64 (a : Int)]
  r : At A (B + 3) #[.int .i32 (r : Int)]
  b : At A (B + 4) #[.bool b]
theorem St.fr {A A' : World} {B l : Nat} {g : C.G} {a r : Nat} {b : Bool} {S : Nat → Prop} (h : St A B l g a r b) (hf : Fr S A A') (hs : ∀ k, B ≤ k → k < B + 5 → S k) : St A' B l g a r b :=
  ⟨h.y.fr hf (hs _ (by omega) (by omega)), h.g.fr hf (hs _ (by omega) (by omega)), h.a.fr hf (hs _ (by omega) (by omega)), h.r.fr hf (hs _ (by omega) (by omega)), h.b.fr hf (hs _ (by omega) (by omega))⟩

/-- The arguments of the inner function. -/
def argsN (B e : Nat) : Array Value := #[.int .i64 (e : Int), .pointer (some ⟨B + 4, 0, none⟩), .pointer (some ⟨B + 1, 0, none⟩), .pointer (some ⟨B + 3, 0, none⟩), .pointer (some ⟨B, 0, none⟩), .pointer (some ⟨B + 2, 0, none⟩)]

set_option maxRecDepth 1000000 in
set_option maxHeartbeats 4000000 in
theorem sign_first (A : World) (B l : Nat) (g : C.G) (a r n : Nat) (h : St A B l g a r false) (h2 : g.c.to_ ≤ 4194304) (h3 : g.c.len ≤ 4194304) (h4 : n ≤ 4194304) (h5 : a ≤ 4194304) :
    CallsIn Fence.wide 0 Try.prog 69 (argsN B (a + n)) A fun e A' => e = .returned (.bool true) ∧ St A' B l (C.add g r n) a r true ∧ Fr (fun k => k ≠ B + 1 ∧ k ≠ B + 4) A A' := by
  have cb : A.cell? ⟨B + 4, 0, none⟩ = some (.bool false) := h.b.cell 0 _ rfl
  have fb : A.frozen? ⟨B + 4, 0, none⟩ = false := h.b.frozen 0 _ rfl
  have cr : A.cell? ⟨B + 3, 0, none⟩ = some (.int .i32 (r : Int)) := h.r.cell 0 _ rfl
  have ca : A.cell? ⟨B + 2, 0, none⟩ = some (.int .i64 (a : Int)) := h.a.cell 0 _ rfl
  obtain ⟨tg, hg⟩ : At (A.setCell ⟨B + 4, 0, none⟩ (.bool true)) (B + 1) (cellsG g) := h.g.other _ _ (by omega)
  have hn : (a : Int) + (n : Int) - (a : Int) = (n : Int) := by omega
  have H := Lib.hid h
  clear h
  refine (callsIn_wide (n := 0)).2 ?_
  unfold argsN
  go_enter Try.func69, Try.ntmps69
  go_wp2_with (go_at_call 71; ((with_reducible refine (add_any _ _ g r n tg hg h2 h3 h4).mono ?_); rintro e w' ⟨⟨v, rfl⟩, q1, q2, q3⟩))
  go_ret
  have F : Fr (fun k => k ≠ B + 1 ∧ k ≠ B + 4) A w' := ((Fr.refl _ A).setCell ⟨B + 4, 0, none⟩ _ (fun _ h => h.2 rfl)).trans (q2.mono fun k _ h => h.1)
  exact ⟨rfl, ⟨H.out.y.fr F ⟨by omega, by omega⟩, ⟨tg, q1⟩, H.out.a.fr F ⟨by omega, by omega⟩, H.out.r.fr F ⟨by omega, by omega⟩, (H.out.b.set 0 _).fr q2 (by omega)⟩, F⟩

set_option maxRecDepth 1000000 in
set_option maxHeartbeats 4000000 in
theorem sign_take (A : World) (B l : Nat) (g : C.G) (a r n : Nat) (h : St A B l g a r true) (hk : C.takes g r = true) (h1 : g.c.frm ≤ g.c.to_) (h2 : g.c.to_ ≤ 4194304) (h3 : g.c.len ≤ 4194304) (h4 : n ≤ 4194304) (h5 : a ≤ 4194304) :
    CallsIn Fence.wide 0 Try.prog 69 (argsN B (a + n)) A fun e A' => e = .returned (.bool true) ∧ St A' B l (C.add g r n) a r true ∧ Fr (fun k => k ≠ B + 1 ∧ k ≠ B + 4) A A' := by
  have cb : A.cell? ⟨B + 4, 0, none⟩ = some (.bool true) := h.b.cell 0 _ rfl
  have fb : A.frozen? ⟨B + 4, 0, none⟩ = false := h.b.frozen 0 _ rfl
  have cr : A.cell? ⟨B + 3, 0, none⟩ = some (.int .i32 (r : Int)) := h.r.cell 0 _ rfl
  have ca : A.cell? ⟨B + 2, 0, none⟩ = some (.int .i64 (a : Int)) := h.a.cell 0 _ rfl
  obtain ⟨tg, hg0⟩ := h.g
  obtain ⟨tg', hg1⟩ : At (A.setCell ⟨B + 4, 0, none⟩ (.bool true)) (B + 1) (cellsG g) := h.g.other _ _ (by omega)
  have hg : ∀ m, ((A.drewN m).setCell ⟨B + 4, 0, none⟩ (.bool true)).heap[B + 1]? = some (.cells (cellsG g) tg' (0, 0)) := fun m => hg1
  have hn : (a : Int) + (n : Int) - (a : Int) = (n : Int) := by omega
  have T := takes_any A (B + 1) g r tg hg0 h1 h2
  rw [hk] at T
  have T := Lib.hid T
  have H := Lib.hid h
  clear h hg1 hk
  refine (callsIn_wide (n := 0)).2 ?_
  unfold argsN
  go_enter Try.func69, Try.ntmps69
  go_wp2_with (first
    | (go_at_call 70; ((with_reducible refine T.out.mono ?_); rintro e w2 ⟨rfl, n2, rfl⟩))
    | (go_at_call 71; ((with_reducible refine (add_any _ _ g r n tg' (hg _) h2 h3 h4).mono ?_); rintro e w' ⟨⟨v, rfl⟩, q1, q2, q3⟩)))
  go_ret
  have F : Fr (fun k => k ≠ B + 1 ∧ k ≠ B + 4) A w' := (((Fr.refl _ A).drewN n2).setCell ⟨B + 4, 0, none⟩ _ (fun _ h => h.2 rfl)).trans (q2.mono fun k _ h => h.1)
  exact ⟨rfl, ⟨H.out.y.fr F ⟨by omega, by omega⟩, ⟨tg', q1⟩, H.out.a.fr F ⟨by omega, by omega⟩, H.out.r.fr F ⟨by omega, by omega⟩, (((H.out.b.drewN n2)).set 0 _).fr q2 (by omega)⟩, F⟩

set_option maxRecDepth 1000000 in
set_option maxHeartbeats 4000000 in
theorem sign_new (A : World) (B l : Nat) (g : C.G) (a r n : Nat) (h : St A B l g a r true) (hk : C.takes g r = false) (h1 : g.c.frm ≤ g.c.to_) (h2 : g.c.to_ ≤ 4194304) (h4 : n ≤ 4194304) (h5 : a ≤ 4194304) (ha : g.c.at_ + g.c.len = a)
    (S : Nat → Prop) (hS : ∀ k, B ≤ k → k < B + 6 → S k) (Jp Jq : World → Prop) (hJ : ∀ A B', Fr (fun k => k < B ∨ B + 6 ≤ k) A B' → Jp A → Jp B')
    (hY : ∀ m, YieldAt Fence.wide 0 Try.prog l #[encC g.c] (A.drewN m) fun e W' => (e = .returned (.bool true) ∧ Jp W' ∧ Fr S (A.drewN m) W') ∨ (e = .returned (.bool false) ∧ Jq W')) :
    CallsIn Fence.wide 0 Try.prog 69 (argsN B (a + n)) A fun e A' =>
      (e = .returned (.bool true) ∧ St A' B l (C.add (C.new g) r n) a r true ∧ Jp A' ∧ Fr (fun k => S k ∧ k ≠ B + 1 ∧ k ≠ B + 4) A A') ∨ (e = .returned (.bool false) ∧ Jq A') := by
  have cb : A.cell? ⟨B + 4, 0, none⟩ = some (.bool true) := h.b.cell 0 _ rfl
  have cr : A.cell? ⟨B + 3, 0, none⟩ = some (.int .i32 (r : Int)) := h.r.cell 0 _ rfl
  have cy : A.cell? ⟨B, 0, none⟩ = some (.func (.yield l) #[] #[]) := h.y.cell 0 _ rfl
  have c0 : A.cell? ⟨B + 1, 0, none⟩ = some (.int .i64 (g.c.at_ : Int)) := h.g.cell 0 _ rfl
  have c1 : A.cell? ⟨B + 1, 1, none⟩ = some (.int .i64 (g.c.len : Int)) := h.g.cell 1 _ rfl
  have c2 : A.cell? ⟨B + 1, 2, none⟩ = some (.int .i64 (g.c.frm : Int)) := h.g.cell 2 _ rfl
  have c3 : A.cell? ⟨B + 1, 3, none⟩ = some (.int .i64 (g.c.to_ : Int)) := h.g.cell 3 _ rfl
  have c4 : A.cell? ⟨B + 1, 4, none⟩ = some (.int .i64 (g.c.cells : Int)) := h.g.cell 4 _ rfl
  obtain ⟨tg, hg0⟩ := h.g
  have T := takes_any A (B + 1) g r tg hg0 h1 h2
  rw [hk] at T
  have T := Lib.hid T
  have H := Lib.hid h
  clear h hk
  refine callsIn_of_wp Try.func69 rfl trivial ?_ rfl
  unfold argsN
  simp only [Try.ntmps69, List.size_toArray, List.length_cons, List.length_nil, Nat.reduceAdd, Nat.reduceSub, Array.replicate_succ, Array.replicate_zero, List.push_toArray, List.append_toArray, List.nil_append, List.cons_append]
  gi_wp2_with (first
    | (refine ⟨trivial, rfl, ?_⟩; gi_at_call 70; ((with_reducible refine (callsIn_wide.2 T.out).mono ?_); rintro e w2 ⟨rfl, n2, rfl⟩; obtain ⟨fn, tmps, assign, body, hy, hR⟩ := hY n2; unfold encC at hy)))
  refine ⟨rfl, hR.mono ?_⟩
  rintro e W3 (⟨rfl, hJ3, hk3⟩ | ⟨rfl, hJ3⟩)
  · have F3 : Fr S A W3 := ((Fr.refl _ A).drewN n2).trans hk3
    have S3 : St W3 B l g a r true := H.out.fr F3 (fun k h1 h2 => hS k h1 (by omega))
    have d0 : W3.cell? ⟨B + 1, 0, none⟩ = some (.int .i64 (g.c.at_ : Int)) := S3.g.cell 0 _ rfl
    have f0 : W3.frozen? ⟨B + 1, 0, none⟩ = false := S3.g.frozen 0 _ rfl
    have d1 : W3.cell? ⟨B + 1, 1, none⟩ = some (.int .i64 (g.c.len : Int)) := S3.g.cell 1 _ rfl
    have f1 : W3.frozen? ⟨B + 1, 1, none⟩ = false := S3.g.frozen 1 _ rfl
    have d2 : W3.cell? ⟨B + 1, 2, none⟩ = some (.int .i64 (g.c.frm : Int)) := S3.g.cell 2 _ rfl
    have f2 : W3.frozen? ⟨B + 1, 2, none⟩ = false := S3.g.frozen 2 _ rfl
    have d3 : W3.cell? ⟨B + 1, 3, none⟩ = some (.int .i64 (g.c.to_ : Int)) := S3.g.cell 3 _ rfl
    have f3 : W3.frozen? ⟨B + 1, 3, none⟩ = false := S3.g.frozen 3 _ rfl
    have d4 : W3.cell? ⟨B + 1, 4, none⟩ = some (.int .i64 (g.c.cells : Int)) := S3.g.cell 4 _ rfl
    have f4 : W3.frozen? ⟨B + 1, 4, none⟩ = false := S3.g.frozen 4 _ rfl
    have d5 : W3.cell? ⟨B + 1, 5, none⟩ = some (.int .i32 (g.first : Int)) := S3.g.cell 5 _ rfl
    have f5 : W3.frozen? ⟨B + 1, 5, none⟩ = false := S3.g.frozen 5 _ rfl
    have d6 : W3.cell? ⟨B + 1, 6, none⟩ = some (.int .i32 (g.last : Int)) := S3.g.cell 6 _ rfl
    have f6 : W3.frozen? ⟨B + 1, 6, none⟩ = false := S3.g.frozen 6 _ rfl
    have d7 : W3.cell? ⟨B + 1, 7, none⟩ = some (.bool g.arrow) := S3.g.cell 7 _ rfl
    have f7 : W3.frozen? ⟨B + 1, 7, none⟩ = false := S3.g.frozen 7 _ rfl
    have cr3 : W3.cell? ⟨B + 3, 0, none⟩ = some (.int .i32 (r : Int)) := S3.r.cell 0 _ rfl
    have ca3 : W3.cell? ⟨B + 2, 0, none⟩ = some (.int .i64 (a : Int)) := S3.a.cell 0 _ rfl
    have cb3 : W3.cell? ⟨B + 4, 0, none⟩ = some (.bool true) := S3.b.cell 0 _ rfl
    have fb3 : W3.frozen? ⟨B + 4, 0, none⟩ = false := S3.b.frozen 0 _ rfl
    have SH := Lib.hid S3
    have FH := Lib.hid F3
    have JH := Lib.hid hJ3
    clear hR hy cb cr cy c0 c1 c2 c3 c4 hg0 T hY S3 F3 hJ3
    have hn : (a : Int) + (n : Int) - (a : Int) = (n : Int) := by omega
    obtain ⟨tn, G4⟩ : At (((((((((W3.setCell ⟨B + 1, 0, none⟩ (.int .i64 (a : Int))).setCell ⟨B + 1, 1, none⟩ (.int .i64 0)).setCell ⟨B + 1, 2, none⟩ (.int .i64 (g.c.to_ : Int))).setCell ⟨B + 1, 3, none⟩ (.int .i64 (g.c.to_ : Int))).setCell ⟨B + 1, 4, none⟩ (.int .i64 0)).setCell ⟨B + 1, 5, none⟩ (.int .i32 0)).setCell ⟨B + 1, 6, none⟩ (.int .i32 0)).setCell ⟨B + 1, 7, none⟩ (.bool false)).setCell ⟨B + 4, 0, none⟩ (.bool true)) (B + 1) (cellsG (C.new g)) := by
      have := (((((((((SH.out.g.set 0 (.int .i64 (a : Int))).set 1 (.int .i64 0)).set 2 (.int .i64 (g.c.to_ : Int))).set 3 (.int .i64 (g.c.to_ : Int))).set 4 (.int .i64 0)).set 5 (.int .i32 0)).set 6 (.int .i32 0)).set 7 (.bool false)).other (B' := B + 4) 0 (.bool true) (by omega))
      have e : (((((((((cellsG g).setIfInBounds 0 (.int .i64 (a : Int))).setIfInBounds 1 (.int .i64 0)).setIfInBounds 2 (.int .i64 (g.c.to_ : Int))).setIfInBounds 3 (.int .i64 (g.c.to_ : Int))).setIfInBounds 4 (.int .i64 0)).setIfInBounds 5 (.int .i32 0)).setIfInBounds 6 (.int .i32 0)).setIfInBounds 7 (.bool false)) = cellsG (C.new g) := by
        simp [cellsG, C.new, ha]
      rw [e] at this
      exact this
    gi_wp2
    refine ⟨trivial, rfl, ?_⟩
    gi_at_call 71
    try rw [hn]
    refine (callsIn_wide.2 (add_any _ _ (C.new g) r n tn G4 h2 (Nat.zero_le _) h4)).mono ?_
    rintro e w' ⟨⟨v, rfl⟩, q1, q2, q3⟩
    gi_wp2
    go_ret
    have F4 : Fr (fun k => k ≠ B + 1 ∧ k ≠ B + 4) W3 w' := by
      refine Fr.trans ?_ (q2.mono fun k _ h => h.1)
      repeat (refine Fr.setCell ?_ _ _ (fun _ h => by first | exact h.1 rfl | exact h.2 rfl))
      exact Fr.refl _ _
    refine .inl ⟨rfl, ⟨SH.out.y.fr F4 ⟨by omega, by omega⟩, ⟨tn, q1⟩, SH.out.a.fr F4 ⟨by omega, by omega⟩, SH.out.r.fr F4 ⟨by omega, by omega⟩, ?_⟩, hJ _ _ (F4.mono fun k _ h => ⟨by omega, by omega⟩) JH.out, (FH.out.mono fun k _ h => h.1).trans (F4.mono fun k _ h => h.2)⟩
    have hb4 : At (((((((((W3.setCell ⟨B + 1, 0, none⟩ (.int .i64 (a : Int))).setCell ⟨B + 1, 1, none⟩ (.int .i64 0)).setCell ⟨B + 1, 2, none⟩ (.int .i64 (g.c.to_ : Int))).setCell ⟨B + 1, 3, none⟩ (.int .i64 (g.c.to_ : Int))).setCell ⟨B + 1, 4, none⟩ (.int .i64 0)).setCell ⟨B + 1, 5, none⟩ (.int .i32 0)).setCell ⟨B + 1, 6, none⟩ (.int .i32 0)).setCell ⟨B + 1, 7, none⟩ (.bool false)).setCell ⟨B + 4, 0, none⟩ (.bool true)) (B + 4) #[.bool true] :=
      ((((((((SH.out.b.other (B' := B + 1) 0 (.int .i64 (a : Int)) (by omega)).other (B' := B + 1) 1 (.int .i64 0) (by omega)).other (B' := B + 1) 2 (.int .i64 (g.c.to_ : Int)) (by omega)).other (B' := B + 1) 3 (.int .i64 (g.c.to_ : Int)) (by omega)).other (B' := B + 1) 4 (.int .i64 0) (by omega)).other (B' := B + 1) 5 (.int .i32 0) (by omega)).other (B' := B + 1) 6 (.int .i32 0) (by omega)).other (B' := B + 1) 7 (.bool false) (by omega)).set 0 (.bool true)
    exact hb4.fr q2 (by omega)
  · clear hR hy cb cr cy c0 c1 c2 c3 c4 hg0 T hY
    gi_wp2
    go_ret
    exact .inr ⟨rfl, hJ3⟩
end Go.Proofs.Ytclblidfamabdaa

/- cell.Clusters: the iterator. -/
set_option linter.unusedVariables false
set_option linter.unusedSimpArgs false
namespace Go.Proofs.Ytclblidfamabdaa
open Go.RowKit Go.Shelf Go.Lib Go.BigFrame
attribute [local go_sem] Oper.semAt_some

theorem sign_any (tks : List U.Tk) (hz : U.wsum tks ≤ 4194304) (hl : tks.length ≤ 4194304) (A : World) (B l Bn : Nat) (hBn : Bn < B) (d : List U.Tk) (t : U.Tk) (rest : List U.Tk) (htk : tks = d ++ t :: rest)
    (h : St A B l (C.pst d).2.1 (U.wsum d) t.1 (C.pst d).2.2) (J Jx : List C.Cl → World → Prop) (hJ : ∀ pre A B', Fr (fun k => k < B ∨ B + 6 ≤ k) A B' → J pre A → J pre B')
    (hY : ∀ pre x post W1, C.clus tks = pre ++ x :: post → B + 6 ≤ W1.heap.size → J pre W1 → YieldAt Fence.wide 0 Try.prog l #[encC x] W1 fun e W' =>
      (e = .returned (.bool true) ∧ J (pre ++ [x]) W' ∧ Fr (fun k => k = Bn ∨ (B ≤ k ∧ k < B + 6)) W1 W') ∨ (e = .returned (.bool false) ∧ Jx (pre ++ [x]) W'))
    (hA : B + 6 ≤ A.heap.size) (hj : J (C.pst d).1 A) :
    CallsIn Fence.wide 0 Try.prog 69 (argsN B (U.wsum d + t.2)) A fun e A' =>
      (e = .returned (.bool true) ∧ St A' B l (C.pst (d ++ [t])).2.1 (U.wsum d) t.1 true ∧ J (C.pst (d ++ [t])).1 A' ∧ Fr (fun k => k = Bn ∨ k = B + 5) A A') ∨
      (e = .returned (.bool false) ∧ ∃ pre, pre <+: C.clus tks ∧ pre ≠ [] ∧ Jx pre A') := by
  have hw : U.wsum tks = U.wsum d + (t.2 + U.wsum rest) := by rw [htk]; simp [U.wsum]
  have hlen : tks.length = d.length + (rest.length + 1) := by rw [htk]; simp
  by_cases hd : d = []
  · subst hd
    refine (sign_first A B l _ _ _ t.2 h (by simp [C.pst, C.zero]) (by simp [C.pst, C.zero]) (by omega) (by omega)).mono ?_
    rintro e A' ⟨rfl, h1, h2⟩
    exact .inl ⟨rfl, h1, hJ _ _ _ (h2.mono fun k _ hk => by omega) hj, h2.mono fun k _ hk => by omega⟩
  · have hb := C.pst_begun hd
    rw [hb] at h
    have htake : tks.take d.length = d := by rw [htk]; simp
    obtain ⟨frm, hg⟩ := C.grp_pst tks d.length (by cases d with | nil => exact absurd rfl hd | cons => simp) (by omega)
    rw [htake] at hg
    have g1 := hg.frm_
    have g2 := hg.to_
    have g3 := hg.lt
    have g4 := hg.len
    have g5 := hg.le
    have hpl : C.pl tks d.length = U.wsum d := by unfold C.pl; rw [htake]
    rw [hpl] at g4
    by_cases hk : C.takes (C.pst d).2.1 t.1 = true
    · refine (sign_take A B l _ _ _ t.2 h hk (by omega) (by omega) (by omega) (by omega) (by omega)).mono ?_
      rintro e A' ⟨rfl, h1, h2⟩
      rw [C.pst_snoc _ _ hd]
      simp only [C.step, if_pos hk, List.append_nil]
      exact .inl ⟨trivial, h1, hJ _ _ _ (h2.mono fun k _ hk => by omega) hj, h2.mono fun k _ hk => by omega⟩
    · rw [Bool.not_eq_true] at hk
      obtain ⟨post, hpost⟩ := C.clus_front d t rest hd hk
      rw [← htk] at hpost
      refine (sign_new A B l _ _ _ t.2 h hk (by omega) (by omega) (by omega) (by omega) g4 (fun k => k = Bn ∨ (B ≤ k ∧ k < B + 6)) (fun k a b => .inr ⟨a, b⟩) (J ((C.pst d).1 ++ [(C.pst d).2.1.c])) (Jx ((C.pst d).1 ++ [(C.pst d).2.1.c])) (fun A B' hf hj => hJ _ _ _ hf hj)
        (fun m => hY _ _ post (A.drewN m) hpost hA (hJ _ _ _ ((Fr.refl _ _).drewN m) hj))).mono ?_
      rintro e A' (⟨rfl, h1, h2, h3⟩ | ⟨rfl, h1⟩)
      · rw [C.pst_snoc _ _ hd]
        have hk' : ¬ C.takes (C.pst d).2.1 t.1 = true := by rw [hk]; simp
        simp only [C.step, if_neg hk']
        exact .inl ⟨trivial, h1, h2, h3.mono fun k _ hk => by omega⟩
      · exact .inr ⟨rfl, _, ⟨post, by rw [hpost]; simp⟩, by simp, h1⟩

/-- What holds at the head of the iterator's loop, behind the signs d. -/
structure Ls (s : ByteArray) (B l Bn : Nat) (J : List C.Cl → World → Prop) (pos : Nat) (d : List U.Tk) (A : World) : Prop where
  le : pos ≤ s.size
  size : B + 6 ≤ A.heap.size
  it : A.heap[B + 5]? = some (.stringIter s pos)
  str : A.cell? ⟨Bn, 0, none⟩ = some (.string s)
  toks : U.toks s.data.toList = d ++ U.toks (s.data.toList.drop pos)
  pos : pos = U.wsum d
  st0 : d = [] → St A B l C.zero 0 0 false ∧ J [] A
  st : ∀ e t, d = e ++ [t] → St A B l (C.pst e).2.1 (U.wsum e) t.1 (C.pst e).2.2 ∧ J (C.pst e).1 A
theorem St.here {A : World} {B l : Nat} {g : C.G} {a r : Nat} {b : Bool} (h : St A B l g a r b) (a' r' : Nat) : St ((A.setCell ⟨B + 2, 0, none⟩ (.int .i64 (a' : Int))).setCell ⟨B + 3, 0, none⟩ (.int .i32 (r' : Int))) B l g a' r' b :=
  ⟨(h.y.other _ _ (by omega)).other _ _ (by omega), (h.g.other _ _ (by omega)).other _ _ (by omega), (h.a.set 0 _).other _ _ (by omega), (h.r.other _ _ (by omega)).set 0 _, (h.b.other _ _ (by omega)).other _ _ (by omega)⟩

theorem Ls.next {s : ByteArray} {B l Bn : Nat} {J : List C.Cl → World → Prop} {pos a r : Nat} {d : List U.Tk} {c wd : Nat} {A : World} {b : Bool} (hS : St A B l (C.pst d).2.1 a r b) (hb : b = (C.pst d).2.2) (hj : J (C.pst d).1 A)
    (hsz : B + 6 ≤ A.heap.size) (hit : A.heap[B + 5]? = some (.stringIter s (pos + wd))) (hstr : A.cell? ⟨Bn, 0, none⟩ = some (.string s)) (ht : U.toks s.data.toList = (d ++ [(c, wd)]) ++ U.toks (s.data.toList.drop (pos + wd)))
    (hp : pos = U.wsum d) (hle : pos + wd ≤ s.size) (hBn : Bn < B) (hJ : ∀ pre A B', Fr (fun k => k < B ∨ B + 6 ≤ k) A B' → J pre A → J pre B') :
    Ls s B l Bn J (pos + wd) (d ++ [(c, wd)]) ((A.setCell ⟨B + 2, 0, none⟩ (.int .i64 (pos : Int))).setCell ⟨B + 3, 0, none⟩ (.int .i32 (c : Int))) := by
  have F : Fr (fun k => k ≠ B + 2 ∧ k ≠ B + 3) A ((A.setCell ⟨B + 2, 0, none⟩ (.int .i64 (pos : Int))).setCell ⟨B + 3, 0, none⟩ (.int .i32 (c : Int))) :=
    ((Fr.refl _ _).setCell _ _ (fun _ h => h.1 rfl)).setCell _ _ (fun _ h => h.2 rfl)
  refine ⟨hle, Nat.le_trans hsz F.size, (F.block _ (by omega) ⟨by omega, by omega⟩).trans hit, F.cell hstr ⟨by simp; omega, by simp; omega⟩, ht, by rw [C.wsum_app, hp]; simp [U.wsum], fun h => by simp at h, fun e t h => ?_⟩
  obtain ⟨rfl, h2⟩ := List.append_inj' h rfl
  cases h2
  exact ⟨by rw [← hp, ← hb]; exact hS.here _ _, hJ _ _ _ (F.mono fun k _ hk => by omega) hj⟩
theorem At.alloc {W : World} {B : Nat} {cs : Array Value} (h : At W B cs) (o : Obj) : At (W.alloc o) B cs := h.fr (S := fun _ => True) ((Fr.refl _ _).alloc _) trivial
theorem At.new (W : World) (cs : Array Value) (t : TypeId) : At (W.alloc (.cells cs t)) W.heap.size cs := ⟨t, World.alloc_heap_new W _⟩
theorem st_new (W : World) (l : Nat) (t1 t2 t3 t4 t5 : TypeId) (o : Obj) : St ((((((W.alloc (.cells #[.func (.yield l) #[] #[]] t1)).alloc (.cells (cellsG C.zero) t2)).alloc (.cells #[.int .i64 ((0 : Nat) : Int)] t3)).alloc (.cells #[.int .i32 ((0 : Nat) : Int)] t4)).alloc (.cells #[.bool false] t5)).alloc o) W.heap.size l C.zero 0 0 false := by
  refine ⟨((((At.new W _ _).alloc _).alloc _).alloc _).alloc _ |>.alloc _, ?_, ?_, ?_, ?_⟩
  · have := At.new (W.alloc (.cells #[.func (.yield l) #[] #[]] t1)) (cellsG C.zero) t2
    rw [World.size_alloc] at this
    exact (((this.alloc _).alloc _).alloc _).alloc _
  · have := At.new ((W.alloc (.cells #[.func (.yield l) #[] #[]] t1)).alloc (.cells (cellsG C.zero) t2)) #[.int .i64 ((0 : Nat) : Int)] t3
    rw [World.size_alloc, World.size_alloc] at this
    exact ((this.alloc _).alloc _).alloc _
  · have := At.new (((W.alloc (.cells #[.func (.yield l) #[] #[]] t1)).alloc (.cells (cellsG C.zero) t2)).alloc (.cells #[.int .i64 ((0 : Nat) : Int)] t3)) #[.int .i32 ((0 : Nat) : Int)] t4
    rw [World.size_alloc, World.size_alloc, World.size_alloc] at this
    exact (this.alloc _).alloc _
  · have := At.new ((((W.alloc (.cells #[.func (.yield l) #[] #[]] t1)).alloc (.cells (cellsG C.zero) t2)).alloc (.cells #[.int .i64 ((0 : Nat) : Int)] t3)).alloc (.cells #[.int .i32 ((0 : Nat) : Int)] t4)) #[.bool false] t5
    rw [World.size_alloc, World.size_alloc, World.size_alloc, World.size_alloc] at this
    exact this.alloc _

theorem iter_new (W : World) (s : ByteArray) : (W.iter s 0).heap[W.heap.size]? = some (.stringIter s 0) := World.iter_heap _ _ _

set_option maxRecDepth 1000000 in
set_option maxHeartbeats 4000000 in
theorem clusters_in (s : ByteArray) (hs : s.size ≤ 4194304) (Bn : Nat) (w : World) (hB : w.cell? ⟨Bn, 0, none⟩ = some (.string s)) :
    SeqC Try.prog 68 #[.pointer (some ⟨Bn, 0, none⟩)] (fun x => #[encC x]) (C.clus (U.toks s.data.toList)) 6 (fun k => k = Bn) w := by
  intro l J Jx W hW hsz hJ hJx hY h0
  have hBW : W.cell? ⟨Bn, 0, none⟩ = some (.string s) := hW.cell hB rfl
  have hBlt : Bn < W.heap.size := World.block_lt_of_cell? W _ hBW
  refine (callsIn_wide (n := 0)).1 (callsIn_of_wp Try.func68 rfl trivial ?_ rfl)
  simp only [Try.ntmps68, List.size_toArray, List.length_cons, List.length_nil, Nat.reduceAdd, Nat.reduceSub, Array.replicate_succ, Array.replicate_zero, List.push_toArray, List.append_toArray, List.nil_append, List.cons_append]
  have hc5 : ∀ o1 o2 o3 o4 o5 : Obj, (((((W.alloc o1).alloc o2).alloc o3).alloc o4).alloc o5).cell? ⟨Bn, 0, none⟩ = some (.string s) := fun o1 o2 o3 o4 o5 => by
    rw [← hBW]
    exact World.cell?_of_block ((Below.heap_alloc _ _ _ (by simp; omega)).trans ((Below.heap_alloc _ _ _ (by simp; omega)).trans ((Below.heap_alloc _ _ _ (by simp; omega)).trans ((Below.heap_alloc _ _ _ (by simp; omega)).trans (Below.heap_alloc _ _ _ hBlt)))))
  have HH := Lib.hid (And.intro h0 (And.intro hJ (And.intro hJx hY)))
  clear h0 hJ hJx hY
  have hlw := U.wsum_toks s.data.toList
  rw [← U.size_eq] at hlw
  have hll := toks_len (s := s)
  gi_wp2
  gi_loopw [8] (fun p wr => ∃ pos d, Ls s W.heap.size l Bn J pos d wr) (fun _ wr => s.size - wr.iterPos (W.heap.size + 5))
  case atStart =>
    obtain ⟨h0, hJ, hJx, hY⟩ := HH.out
    refine ⟨0, [], Nat.zero_le _, by simp [World.iter], ?_, ?_, by simp, rfl, fun _ => ⟨st_new W l _ _ _ _ _ _, hJ _ _ _ ((((((((Fr.refl _ W).alloc _).alloc _).alloc _).alloc _).alloc _).alloc _)) h0⟩, fun e t h => ?_⟩
    · have := World.iter_heap (((((W.alloc (.cells #[.func (.yield l) #[] #[]] 94)).alloc (.cells (cellsG C.zero) 96)).alloc (.cells #[.int .i64 0] 3)).alloc (.cells #[.int .i32 0] 21)).alloc (.cells #[.bool false] 4)) s 0
      rw [World.size_alloc, World.size_alloc, World.size_alloc, World.size_alloc, World.size_alloc] at this
      exact this
    · rw [← hc5]
      exact World.cell?_of_block (Below.heap_alloc _ _ _ (by simp; omega))
    · simp at h
  case round =>
    obtain ⟨pos, d, hL⟩ := hrel
    have hpos : wr.iterPos (W.heap.size + 5) = pos := by simp [World.iterPos, hL.it]
    by_cases hp : pos < s.size
    · have hd := decode_facts hp
      have hts := toks_at hp
      have hnx : ∀ ty, (Instr.next (.pointer (some ⟨W.heap.size + 1 + 1 + 1 + 1 + 1, 0, none⟩)) true ty).run Try.prog wr = _ := fun ty => run_next_any_at wr (W.heap.size + 5) s pos ty hL.it hp
      obtain ⟨c, wd, hdec⟩ : ∃ c wd, Utf8.decode s pos = (c, wd) := ⟨_, _, rfl⟩
      rw [hdec] at hd hts hnx
      simp only at hd hts hnx
      have hnt : U.toks s.data.toList = (d ++ [(c, wd)]) ++ U.toks (s.data.toList.drop (pos + wd)) := by rw [hL.toks, hts]; simp
      have hit1 := iterAt_heap wr (W.heap.size + 5) s pos (pos + wd) hL.it
      have F1 : Fr (fun k => k ≠ W.heap.size + 5) wr (wr.iterAt (W.heap.size + 5) s (pos + wd)) := (Fr.refl _ _).iterAt _ _ _ (fun _ h => h rfl)
      obtain ⟨A1, hA1⟩ : ∃ A1, wr.iterAt (W.heap.size + 5) s (pos + wd) = A1 := ⟨_, rfl⟩
      rw [show wr.iterAt (W.heap.size + 5) s (pos + wd) = A1 from hA1] at hnx hit1 F1
      clear hA1 hdec
      have hpw := hL.pos
      have hsize := hL.size
      obtain ⟨h0, hJ, hJx, hY⟩ := HH.out
      have hsz1 : W.heap.size + 6 ≤ A1.heap.size := Nat.le_trans hsize F1.size
      have hstr1 : A1.cell? ⟨Bn, 0, none⟩ = some (.string s) := F1.cell hL.str (by simp; omega)
      rcases List.eq_nil_or_concat d with rfl | ⟨e, t, het⟩
      · obtain ⟨hS, hj⟩ := hL.st0 rfl
        have hS1 : St A1 W.heap.size l C.zero 0 0 false := hS.fr F1 (fun k a b => by omega)
        have hj1 : J [] A1 := hJ _ _ _ (F1.mono fun k _ h => by omega) hj
        obtain rfl : pos = 0 := hpw
        have hN := Ls.next (pos := 0) (d := []) hS1 rfl hj1 hsz1 hit1 hstr1 hnt rfl hd.2.2.1 hBlt hJ
        have f2 : A1.frozen? ⟨W.heap.size + 1 + 1, 0, none⟩ = false := hS1.a.frozen 0 _ rfl
        have f3 : A1.frozen? ⟨W.heap.size + 1 + 1 + 1, 0, none⟩ = false := hS1.r.frozen 0 _ rfl
        have c2 : A1.cell? ⟨W.heap.size + 1 + 1, 0, none⟩ = some (.int .i64 0) := hS1.a.cell 0 _ rfl
        have c3 : A1.cell? ⟨W.heap.size + 1 + 1 + 1, 0, none⟩ = some (.int .i32 0) := hS1.r.cell 0 _ rfl
        have HN := Lib.hid hN
        clear hS hj hS1 hj1 hN h0 hJ hJx hY hL hts hnt hit1 hstr1
        gi_wp2
        refine ⟨fun f h => (by cases h), ?_⟩
        gi_wp2
        go_roundw
        case rel => exact ⟨_, _, HN.out⟩
        case measure =>
          have := iterPos_of HN.out.it
          rw [hpos]
          refine Nat.lt_of_le_of_lt (Nat.le_of_eq (congrArg (s.size - ·) this)) ?_
          omega
      · rw [List.concat_eq_append] at het
        subst het
        obtain ⟨hS, hj⟩ := hL.st e t rfl
        have hS1 := hS.fr F1 (fun k a b => by omega)
        have hj1 : J (C.pst e).1 A1 := hJ _ _ _ (F1.mono fun k _ h => by omega) hj
        have htk : U.toks s.data.toList = e ++ t :: ((c, wd) :: U.toks (s.data.toList.drop (pos + wd))) := by rw [hnt]; simp
        have hpe : U.wsum e + t.2 = pos := by rw [hpw, C.wsum_app]; simp [U.wsum]
        have htk' := htk
        have SA := sign_any _ (by omega) (by omega) A1 W.heap.size l Bn hBlt e t _ htk hS1 J Jx hJ (fun pre x post W1 a b c => (hY pre x post W1 a b c)) hsz1 hj1
        rw [hpe] at SA
        unfold argsN at SA
        have SA := Lib.hid SA
        have HL := Lib.hid (And.intro hnt (And.intro hit1 (And.intro hstr1 hL)))
        have HJ := Lib.hid hJ
        have ht1 : 1 ≤ t.2 := (U.toks_fact s.data.toList t (by rw [htk']; simp)).1
        have hpp : 0 < pos := by omega
        clear hS hj hS1 hj1 h0 hJ hJx hY hL hts hnt hit1 hstr1 htk htk' hpw hpe
        gi_wp2
        refine ⟨trivial, rfl, ?_⟩
        gi_at_call 69
        refine SA.out.mono ?_
        rintro e2 A2 (⟨rfl, hS2, hj2, F2⟩ | ⟨rfl, pre, p1, p2, p3⟩)
        · obtain ⟨hnt, hit1, hstr1, hL⟩ := HL.out
          have hb2 : true = (C.pst (e ++ [t])).2.2 := (C.pst_begun (by simp)).symm
          have hN := Ls.next hS2 hb2 hj2 (Nat.le_trans hsz1 F2.size) ((F2.block _ (by omega) (.inr rfl)).trans hit1) (F2.cell hstr1 (.inl rfl)) hnt hL.pos hd.2.2.1 hBlt HJ.out
          have f2 : A2.frozen? ⟨W.heap.size + 1 + 1, 0, none⟩ = false := hS2.a.frozen 0 _ rfl
          have f3 : A2.frozen? ⟨W.heap.size + 1 + 1 + 1, 0, none⟩ = false := hS2.r.frozen 0 _ rfl
          have c2 : A2.cell? ⟨W.heap.size + 1 + 1, 0, none⟩ = some (.int .i64 (U.wsum e : Int)) := hS2.a.cell 0 _ rfl
          have c3 : A2.cell? ⟨W.heap.size + 1 + 1 + 1, 0, none⟩ = some (.int .i32 (t.1 : Int)) := hS2.r.cell 0 _ rfl
          have HN := Lib.hid hN
          clear hS2 hj2 hN hnt hit1 hstr1 hL hb2
          gi_wp2
          go_roundw
          case rel => exact ⟨_, _, HN.out⟩
          case measure =>
            have := iterPos_of HN.out.it
            rw [hpos]
            refine Nat.lt_of_le_of_lt (Nat.le_of_eq (congrArg (s.size - ·) this)) ?_
            omega
        · gi_wp2
          refine bodyPost_ret (results_none rfl _ _ _) rfl ?_
          exact ⟨⟨_, rfl⟩, .inr ⟨pre, p1, p2, p3⟩⟩
    · have hnx : ∀ ty, (Instr.next (.pointer (some ⟨W.heap.size + 1 + 1 + 1 + 1 + 1, 0, none⟩)) true ty).run Try.prog wr = _ := fun ty => run_next_end_at wr (W.heap.size + 5) s pos ty hL.it hp
      have htd := hL.toks
      rw [toks_end hp, List.append_nil] at htd
      have hps : pos = s.size := by have := hL.le; omega
      have hpw := hL.pos
      have hstr := hL.str
      obtain ⟨h0, hJ, hJx, hY⟩ := HH.out
      rcases List.eq_nil_or_concat d with rfl | ⟨e, t, het⟩
      · obtain ⟨hS, hj⟩ := hL.st0 rfl
        obtain rfl : s = ⟨#[]⟩ := by
          have := U.toks_eq_nil htd
          cases s with | mk a => cases a with | mk l => simp at this; subst this; rfl
        have HX := Lib.hid hj
        clear h0 hJ hJx hY hj hS htd hL hpw HH
        gi_wp2
        refine ⟨fun f h => (by cases h), ?_⟩
        gi_wp2
        go_end0
        exact ⟨⟨_, rfl⟩, .inl HX.out⟩
      · rw [List.concat_eq_append] at het
        subst het
        obtain ⟨hS, hj⟩ := hL.st e t rfl
        have hpe : U.wsum e + t.2 = s.size := by rw [← hps, hpw, C.wsum_app]; simp [U.wsum]
        have ht1 : 1 ≤ t.2 := (U.toks_fact s.data.toList t (by rw [htd]; simp)).1
        have hne : s.toList.isEmpty = false := by
          rw [Lib.toList_data]
          have := U.size_eq s
          cases hq : s.data.toList with
          | nil => rw [hq, List.length_nil] at this; omega
          | cons => rfl
        have SA := sign_any _ (by omega) (by omega) wr W.heap.size l Bn hBlt e t [] htd hS J Jx hJ (fun pre x post W1 a b c => (hY pre x post W1 a b c)) hL.size hj
        rw [hpe] at SA
        unfold argsN at SA
        have SA := Lib.hid SA
        have HL := Lib.hid (And.intro htd (And.intro hL (And.intro hJ hY)))
        clear hS hj h0 hJ hJx hY hL htd HH hpw
        gi_wp2
        refine ⟨trivial, rfl, ?_⟩
        gi_at_call 69
        refine SA.out.mono ?_
        rintro e2 A2 (⟨rfl, hS2, hj2, F2⟩ | ⟨rfl, pre, p1, p2, p3⟩)
        · obtain ⟨htd, hL, hJ, hY⟩ := HL.out
          have cy : A2.cell? ⟨W.heap.size, 0, none⟩ = some (.func (.yield l) #[] #[]) := hS2.y.cell 0 _ rfl
          have c0 : A2.cell? ⟨W.heap.size + 1, 0, none⟩ = some (.int .i64 ((C.pst (e ++ [t])).2.1.c.at_ : Int)) := hS2.g.cell 0 _ rfl
          have c1 : A2.cell? ⟨W.heap.size + 1, 1, none⟩ = some (.int .i64 ((C.pst (e ++ [t])).2.1.c.len : Int)) := hS2.g.cell 1 _ rfl
          have c2 : A2.cell? ⟨W.heap.size + 1, 2, none⟩ = some (.int .i64 ((C.pst (e ++ [t])).2.1.c.frm : Int)) := hS2.g.cell 2 _ rfl
          have c3 : A2.cell? ⟨W.heap.size + 1, 3, none⟩ = some (.int .i64 ((C.pst (e ++ [t])).2.1.c.to_ : Int)) := hS2.g.cell 3 _ rfl
          have c4 : A2.cell? ⟨W.heap.size + 1, 4, none⟩ = some (.int .i64 ((C.pst (e ++ [t])).2.1.c.cells : Int)) := hS2.g.cell 4 _ rfl
          have hxs : C.clus (U.toks s.data.toList) = (C.pst (e ++ [t])).1 ++ (C.pst (e ++ [t])).2.1.c :: [] := by rw [htd]; exact C.clus_pst (by simp)
          obtain ⟨fn, tmps, assign, body, hy, hR⟩ := hY _ _ [] A2 hxs (Nat.le_trans hL.size F2.size) hj2
          unfold encC at hy
          have HXS := Lib.hid hxs
          clear hS2 hj2 htd hL hJ hY hxs
          gi_wp2
          refine ⟨rfl, hR.mono ?_⟩
          rintro e3 A3 (⟨rfl, hJ3, hk3⟩ | ⟨rfl, hJx3⟩)
          · gi_wp2
            go_end0
            exact ⟨⟨_, rfl⟩, .inl (HXS.out.symm ▸ hJ3)⟩
          · gi_wp2
            go_end0
            exact ⟨⟨_, rfl⟩, .inr ⟨_, HXS.out.symm ▸ List.prefix_rfl, by simp, hJx3⟩⟩
        · gi_wp2
          go_end0
          exact ⟨⟨_, rfl⟩, .inr ⟨pre, p1, p2, p3⟩⟩
end Go.Proofs.Ytclblidfamabdaa

/- cell.Clusters as a call; cell.Of. -/
set_option linter.unusedVariables false
set_option linter.unusedSimpArgs false
namespace Go.Proofs.Ytclblidfamabdaa
open Go.RowKit Go.Shelf Go.Lib Go.BigFrame
attribute [local go_sem] Oper.semAt_some

theorem bst {w a b : World} (h : Below w.heap.size w a) (k : Below a.heap.size a b) : Below w.heap.size w b := h.trans (k.mono h.size)

theorem enters_clusters : ∀ args w, (callFunc 68 args).run Try.prog w = .ok (.enter 68 args) w := enters_of Try.func68 (by kernel_rfl) rfl

theorem clusters_call (s : ByteArray) (w : World) :
    Calls Try.prog 47 #[.string s] w fun e w' => e = .returned (.func (.func 68) #[] #[.pointer (some ⟨w.heap.size, 0, none⟩)]) ∧ w.alloc (.cells #[.string s] 9) = w' := by
  go_enter Try.func47, Try.ntmps47
  go_wp2
  go_ret
  exact ⟨rfl, rfl⟩

/-- One box kept, the world below kept. -/
structure Bx (w : World) (n : Nat) (o : Obj) (W : World) : Prop where
  below : Below n w W
  size : n ≤ W.heap.size
  box : W.heap[n]? = some o
theorem Bx.fr {w : World} {n : Nat} {o : Obj} {A B : World} {S : Nat → Prop} (h : Bx w n o A) (hf : Fr S A B) (hS : ∀ k, k < n + 1 → S k) : Bx w n o B :=
  ⟨h.below.trans (hf.toBelow (fun k hk => hS k (by omega)) h.size), Nat.le_trans h.size hf.size, (hf.block _ (Array.getElem?_eq_some_iff.1 h.box).1 (hS _ (by omega))).trans h.box⟩
theorem Bx.set {w : World} {n : Nat} {v : Value} {t : TypeId} {W : World} (h : Bx w n (.cells #[v] t (0, 0)) W) (u : Value) : Bx w n (.cells #[u] t (0, 0)) (W.setCell ⟨n, 0, none⟩ u) :=
  ⟨h.below.setCell (p := ⟨n, 0, none⟩) (by simp) _, by simpa [World.setCell] using h.size, heap_setCell_same h.box u⟩
theorem Bx.alloc {w : World} {n : Nat} {o : Obj} {A : World} (h : Bx w n o A) (x : Obj) : Bx w n o (A.alloc x) := h.fr (S := fun _ => True) ((Fr.refl _ _).alloc _) (fun _ _ => trivial)
theorem Bx.fresh (w : World) (v : Value) (t : TypeId) : Bx w w.heap.size (.cells #[v] t (0, 0)) (w.alloc (.cells #[v] t)) := ⟨(Below.refl _ _).alloc (Nat.le_refl _) _, by simp, World.alloc_heap_new w _⟩

def objC (x : C.Cl) : Obj := .cells #[.int .i64 (x.at_ : Int), .int .i64 (x.len : Int), .int .i64 (x.frm : Int), .int .i64 (x.to_ : Int), .int .i64 (x.cells : Int)] 75

end Go.Proofs.Ytclblidfamabdaa
