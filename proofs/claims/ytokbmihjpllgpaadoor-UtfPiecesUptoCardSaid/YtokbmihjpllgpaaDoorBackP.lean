/- A place goes to another unit and back: plain. -/
import Derived.Test.YtokbmihjpllgpaaDoorCutsP
set_option linter.unusedVariables false
namespace Go.Proofs.YtokbmihjpllgpaaDoor.U

def Fit (l : List Tk) : Prop := ∀ x ∈ l, 1 ≤ x.2
theorem szu_pos (u : Nat) {x : Tk} (h : 1 ≤ x.2) : 1 ≤ szu u x := by
  unfold szu
  split
  · exact h
  · split
    · exact (un_le x.1).1
    · exact Nat.le_refl _
theorem usum_append (u : Nat) (l r : List Tk) : usum u (l ++ r) = usum u l + usum u r := by simp [usum]
theorem fit_toks (l : List UInt8) : Fit (toks l) := fun x hx => (toks_fact l x hx).1

theorem plc_pre (f t : Nat) (post : List Tk) : ∀ (pre : List Tk) (h th : Nat), Fit pre → plc f t (h + usum f pre) h th (pre ++ post) = (h + usum f pre, th + usum t pre) := by
  intro pre
  induction pre with
  | nil =>
    intro h th _
    cases post with
    | nil => simp [plc, usum]
    | cons y q => simp [plc, usum]
  | cons x pre ih =>
    intro h th hf
    have h1 := szu_pos f (hf x List.mem_cons_self)
    rw [List.cons_append, plc, usum_cons, usum_cons, if_neg (by omega), ← Nat.add_assoc, ← Nat.add_assoc]
    exact ih _ _ (fun y hy => hf y (List.mem_cons_of_mem _ hy))
theorem plc_split (f t a r : Nat) : ∀ (l : List Tk) (h th : Nat), plc f t a h th l = (a, r) → ∃ pre post, l = pre ++ post ∧ a = h + usum f pre ∧ r = th + usum t pre := by
  intro l
  induction l with
  | nil =>
    intro h th e
    rw [plc] at e
    exact ⟨[], [], rfl, by simpa [usum] using (Prod.mk.inj e).1.symm, by simpa [usum] using (Prod.mk.inj e).2.symm⟩
  | cons x l ih =>
    intro h th e
    rw [plc] at e
    by_cases c : a ≤ h
    · rw [if_pos c] at e
      exact ⟨[], x :: l, rfl, by simpa [usum] using (Prod.mk.inj e).1.symm, by simpa [usum] using (Prod.mk.inj e).2.symm⟩
    · rw [if_neg c] at e
      obtain ⟨pre, post, rfl, e1, e2⟩ := ih _ _ e
      exact ⟨x :: pre, post, rfl, by rw [usum_cons]; omega, by rw [usum_cons]; omega⟩
theorem place_pre (f t : Nat) (pre post : List Tk) (hf : Fit pre) : place f t (usum f pre) (pre ++ post) = (usum t pre, 0) := by
  have := plc_pre f t post pre 0 0 hf
  rw [Nat.zero_add, Nat.zero_add] at this
  unfold place
  rw [this, if_pos rfl]
theorem place_split {f t a r : Nat} {l : List Tk} (h : place f t a l = (r, 0)) : ∃ pre post, l = pre ++ post ∧ a = usum f pre ∧ r = usum t pre := by
  unfold place at h
  by_cases e : (plc f t a 0 0 l).1 = a
  · rw [if_pos e] at h
    obtain ⟨pre, post, e1, e2, e3⟩ := plc_split f t a r l 0 0 (Prod.ext e (Prod.mk.inj h).1)
    exact ⟨pre, post, e1, by omega, by omega⟩
  · rw [if_neg e] at h
    split at h <;> cases h
theorem usum_pos (u : Nat) {c : List Tk} (hf : Fit c) (hc : c ≠ []) : 1 ≤ usum u c := by
  cases c with
  | nil => exact absurd rfl hc
  | cons x c => rw [usum_cons]; have := szu_pos u (hf x List.mem_cons_self); omega
theorem pre_mono (f t : Nat) {p q p' q' : List Tk} (hf : Fit (p ++ q)) (h : p ++ q = p' ++ q') (hl : usum f p < usum f p') : usum t p < usum t p' := by
  rcases List.append_eq_append_iff.1 h with ⟨c, rfl, e⟩ | ⟨c, rfl, e⟩
  · rw [usum_append] at hl ⊢
    have hc : c ≠ [] := fun e => by subst e; simp [usum] at hl
    have := usum_pos t (c := c) (fun x hx => hf x (by rw [e]; simp [hx])) hc
    omega
  · rw [usum_append] at hl
    omega
theorem usum_two (l : List Tk) : usum 2 l = l.length := by
  induction l with
  | nil => rfl
  | cons x l ih => rw [usum_cons, ih]; simp [szu]; omega
/-- The place of the i-th sign, from unit f to unit t. -/
theorem place_take (f t i : Nat) (l : List Tk) (hf : Fit l) : place f t (usum f (l.take i)) l = (usum t (l.take i), 0) := by
  have := place_pre f t (l.take i) (l.drop i) (fun x hx => hf x (List.mem_of_mem_take hx))
  rwa [List.take_append_drop] at this
theorem put_at_take (l : List Tk) : ∀ (a i : Nat) (x : Sg), (put a l)[i]? = some x → x.at_ = a + usum 1 (l.take i) := by
  induction l with
  | nil => intro a i x h; simp [put] at h
  | cons t l ih =>
    intro a i x h
    cases i with
    | zero => simp [put] at h; rw [← h]; simp [usum]
    | succ i =>
      have := ih (a + t.2) i x (by simpa [put] using h)
      rw [this, List.take_succ_cons, usum_cons]
      simp [szu]
      omega
/-- All that the law asks of one place: 'there' and its code; the way back; the next one. -/
theorem back_facts (f t a : Nat) (l : List Tk) (hf : Fit l) (ha : a ≤ usum f l) :
    (place f t a l = (0, 21) ∧ f ≠ 2) ∨
    (∃ th, place f t a l = (th, 0) ∧ th ≤ usum t l ∧ place t f th l = (a, 0) ∧
      ((a = usum f l ∧ place f t (a + 1) l = (0, 1)) ∨ (a < usum f l ∧ place f t (a + 1) l = (0, 21)) ∨ (∃ nx, a < usum f l ∧ place f t (a + 1) l = (nx, 0) ∧ th < nx))) := by
  rcases place_is f t a l with ⟨h, e⟩ | ⟨h, e⟩ | ⟨h, e⟩
  · omega
  · refine .inl ⟨e, fun h2 => ?_⟩
    subst h2
    rw [usum_two] at h
    have := place_take 2 t a l hf
    rw [usum_two, List.length_take, Nat.min_eq_left h, e] at this
    have := (Prod.mk.inj this).2
    omega
  · refine .inr ⟨_, e, by have := (plc_ge f t a l 0 0).2; omega, ?_, ?_⟩
    · obtain ⟨pre, post, rfl, e1, e2⟩ := place_split e
      rw [e2, e1]
      exact place_pre t f pre post (fun x hx => hf x (by simp [hx]))
    · rcases place_is f t (a + 1) l with ⟨h', e'⟩ | ⟨h', e'⟩ | ⟨h', e'⟩
      · exact .inl ⟨by omega, e'⟩
      · exact .inr (.inl ⟨by omega, e'⟩)
      · refine .inr (.inr ⟨_, by omega, e', ?_⟩)
        obtain ⟨pre, post, h1, e1, e2⟩ := place_split e
        obtain ⟨pre', post', h2, e3, e4⟩ := place_split e'
        rw [e2, e4]
        exact pre_mono f t (by rw [← h1]; exact hf) (h1.symm.trans h2) (by omega)
end Go.Proofs.YtokbmihjpllgpaaDoor.U
