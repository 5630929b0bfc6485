/- Where a text may be parted: plain (as the first chapter's). -/
import Derived.Test.YtclblidfamabdaaCellZ
set_option linter.unusedVariables false
namespace Go.Proofs.Ytclblidfamabdaa.U

theorem decM_prefix (n m a1 a2 a3 b0 b1 b2 b3 : Nat) (h1 : 2 ≤ n → a1 = b1) (h2 : 3 ≤ n → a2 = b2) (h3 : 4 ≤ n → a3 = b3) (hm : n ≤ m) (h : (decM m b0 b1 b2 b3).2 ≤ n) :
    decM n b0 a1 a2 a3 = decM m b0 b1 b2 b3 := by
  unfold decM at h ⊢
  by_cases c0 : b0 < 128
  · rw [if_pos c0, if_pos c0]
  rw [if_neg c0] at h ⊢
  rw [if_neg c0]
  by_cases c1 : 194 ≤ b0 ∧ b0 ≤ 223 ∧ 2 ≤ m ∧ 128 ≤ b1 ∧ b1 ≤ 191
  · rw [if_pos c1] at h ⊢
    have := h1 h
    subst this
    rw [if_pos ⟨c1.1, c1.2.1, h, c1.2.2.2⟩]
  rw [if_neg c1] at h ⊢
  have d1 : ¬ (194 ≤ b0 ∧ b0 ≤ 223 ∧ 2 ≤ n ∧ 128 ≤ a1 ∧ a1 ≤ 191) := fun k => by
    have := h1 k.2.2.1
    subst this
    exact c1 ⟨k.1, k.2.1, by omega, k.2.2.2⟩
  rw [if_neg d1]
  by_cases c2 : 224 ≤ b0 ∧ b0 ≤ 239 ∧ 3 ≤ m ∧ lo2 b0 ≤ b1 ∧ b1 ≤ hi2 b0 ∧ 128 ≤ b2 ∧ b2 ≤ 191
  · rw [if_pos c2] at h ⊢
    have e1 := h1 (Nat.le_trans (show 2 ≤ 3 by omega) h)
    have e2 := h2 h
    subst e1 e2
    rw [if_pos ⟨c2.1, c2.2.1, h, c2.2.2.2⟩]
  rw [if_neg c2] at h ⊢
  have d2 : ¬ (224 ≤ b0 ∧ b0 ≤ 239 ∧ 3 ≤ n ∧ lo2 b0 ≤ a1 ∧ a1 ≤ hi2 b0 ∧ 128 ≤ a2 ∧ a2 ≤ 191) := fun k => by
    have e1 := h1 (by omega)
    have e2 := h2 k.2.2.1
    subst e1 e2
    exact c2 ⟨k.1, k.2.1, by omega, k.2.2.2⟩
  rw [if_neg d2]
  by_cases c3 : 240 ≤ b0 ∧ b0 ≤ 244 ∧ 4 ≤ m ∧ lo2 b0 ≤ b1 ∧ b1 ≤ hi2 b0 ∧ 128 ≤ b2 ∧ b2 ≤ 191 ∧ 128 ≤ b3 ∧ b3 ≤ 191
  · rw [if_pos c3] at h ⊢
    have e1 := h1 (Nat.le_trans (show 2 ≤ 4 by omega) h)
    have e2 := h2 (Nat.le_trans (show 3 ≤ 4 by omega) h)
    have e3 := h3 h
    subst e1 e2 e3
    rw [if_pos ⟨c3.1, c3.2.1, h, c3.2.2.2⟩]
  rw [if_neg c3] at h ⊢
  have d3 : ¬ (240 ≤ b0 ∧ b0 ≤ 244 ∧ 4 ≤ n ∧ lo2 b0 ≤ a1 ∧ a1 ≤ hi2 b0 ∧ 128 ≤ a2 ∧ a2 ≤ 191 ∧ 128 ≤ a3 ∧ a3 ≤ 191) := fun k => by
    have e1 := h1 (by omega)
    have e2 := h2 (by omega)
    have e3 := h3 k.2.2.1
    subst e1 e2 e3
    exact c3 ⟨k.1, k.2.1, by omega, k.2.2.2⟩
  rw [if_neg d3]

theorem by_append (a b : List UInt8) (k : Nat) (h : k < a.length) : by_ (a ++ b) k = by_ a k := by
  unfold by_
  rw [List.getD_eq_getElem?_getD, List.getD_eq_getElem?_getD, List.getElem?_append_left h]

theorem dec_prefix (a b : List UInt8) (h0 : a ≠ []) (h : (dec (a ++ b)).2 ≤ a.length) : dec a = dec (a ++ b) := by
  have hl : 0 < a.length := List.length_pos_iff.2 h0
  unfold dec at h ⊢
  rw [by_append a b 0 hl] at h ⊢
  exact decM_prefix _ _ _ _ _ _ _ _ _ (fun k => (by_append a b 1 k).symm) (fun k => (by_append a b 2 k).symm) (fun k => (by_append a b 3 k).symm) (by simp) h

theorem toks_seam (b : List UInt8) : ∀ (a : List UInt8), ∀ p, (∀ x ∈ put p (toks (a ++ b)), ¬ (x.at_ < p + a.length ∧ p + a.length < x.at_ + x.len)) → toks (a ++ b) = toks a ++ toks b := by
  refine toks_ind (fun p _ => by simp [toks_nil]) ?_
  intro a h0 ih p h
  have hne : a ++ b ≠ [] := by simp [h0]
  have hl : 0 < a.length := List.length_pos_iff.2 h0
  rw [toks_ne _ hne] at h ⊢
  simp only [put, List.mem_cons] at h
  have h1 := h _ (.inl rfl)
  simp only at h1
  have hw : (dec (a ++ b)).2 ≤ a.length := by omega
  have hd := dec_prefix a b h0 hw
  rw [toks_ne a h0, hd, List.cons_append]
  have hdr : (a ++ b).drop (dec (a ++ b)).2 = a.drop (dec (a ++ b)).2 ++ b := by
    rw [List.drop_append, Nat.sub_eq_zero_of_le hw, List.drop_zero]
  rw [hdr] at h ⊢
  rw [hd] at ih
  rw [ih (p + (dec (a ++ b)).2) (fun x hx => ?_)]
  have := h x (.inr hx)
  rw [List.length_drop]
  omega

/-- At a sign's begin the text falls into two. -/
theorem toks_cut (post : List Tk) : ∀ (pre : List Tk) (l : List UInt8), toks l = pre ++ post → toks (l.take (wsum pre)) = pre ∧ toks (l.drop (wsum pre)) = post := by
  intro pre
  induction pre with
  | nil => intro l h; exact ⟨by simp [wsum, toks_nil], by simpa [wsum] using h⟩
  | cons x pre ih =>
    intro l h
    have hne : l ≠ [] := fun e => by subst e; rw [toks_nil] at h; cases h
    rw [toks_ne l hne, List.cons_append] at h
    obtain ⟨h1, h2⟩ := List.cons.inj h
    obtain ⟨i1, i2⟩ := ih _ h2
    have hd := dec_facts l hne
    have hw : wsum (x :: pre) = (dec l).2 + wsum pre := by rw [h1]; simp [wsum]
    rw [hw]
    have hl : (l.take ((dec l).2 + wsum pre)) ≠ [] := fun e => by
      have := congrArg List.length e
      rw [List.length_take, List.length_nil] at this
      omega
    have ht : dec (l.take ((dec l).2 + wsum pre)) = dec l := by
      have := dec_prefix (l.take ((dec l).2 + wsum pre)) (l.drop ((dec l).2 + wsum pre)) hl
      rw [List.take_append_drop] at this
      exact this (by rw [List.length_take]; omega)
    refine ⟨?_, ?_⟩
    · rw [toks_ne _ hl, ht, h1]
      congr 1
      rw [← h1, List.drop_take, Nat.add_sub_cancel_left]
      exact i1
    · rw [← List.drop_drop]
      exact i2
end Go.Proofs.Ytclblidfamabdaa.U
namespace Go.Proofs.Ytclblidfamabdaa.C
/-- The clusters of a text's front up to a cluster's begin, of its rest. -/
theorem clus_parts (s : List UInt8) (k : Nat) (hk : k ≤ (clus (U.toks s)).length) :
    clus (U.toks (s.take (atF (U.toks s) k))) = (clus (U.toks s)).take k ∧ (clus (U.toks (s.drop (atF (U.toks s) k)))).map (sh (atF (U.toks s) k) (sgF (U.toks s) k)) = (clus (U.toks s)).drop k := by
  have h := U.toks_cut ((U.toks s).drop (sgF (U.toks s) k)) ((U.toks s).take (sgF (U.toks s) k)) s (List.take_append_drop _ _).symm
  have e : U.wsum ((U.toks s).take (sgF (U.toks s) k)) = atF (U.toks s) k := rfl
  rw [e] at h
  rw [h.1, h.2]
  exact ⟨clus_take _ k hk, clus_drop _ k hk⟩
theorem cells_sh (a n : Nat) (l : List Cl) : cells (l.map (sh a n)) = cells l := by
  induction l with
  | nil => rfl
  | cons c l ih => rw [List.map_cons, cells_cons, cells_cons, ih]; rfl
end Go.Proofs.Ytclblidfamabdaa.C
