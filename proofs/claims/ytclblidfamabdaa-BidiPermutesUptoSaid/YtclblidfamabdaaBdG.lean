/- bidi.paragraphs: classes in parts. -/
import Derived.Test.YtclblidfamabdaaBdL
set_option linter.unusedVariables false
set_option linter.unusedSimpArgs false
namespace Go.Proofs.Ytclblidfamabdaa
open Go.RowKit Go.Shelf Go.Lib Go.BigFrame
attribute [local go_sem] Oper.semAt_some

theorem Try.infoSI : (Try.prog.info? 29).map (fun i => (i.zero, i.size, i.bytes)) = some (some (.slice none 0 0), 1, 24) := by kernel_rfl
/-- Where the paragraphs of the first i classes begin, and what slices hold them. -/
structure Prs (W : World) (c : Nat → Nat) (i m : Nat) (bg : Nat → Nat) (L : List Value) : Prop where
  len : L.length = m
  zero : bg 0 = 0
  mono : ∀ k, k < m → bg k < bg (k + 1)
  le : bg m ≤ i
  beg : ∀ k j, k < m → bg k ≤ j → j < bg (k + 1) → B.pbeg c j = bg k
  now : ∀ j, bg m ≤ j → j ≤ i → B.pbeg c j = bg m
  fin : ∀ k, k < m → c (bg (k + 1) - 1) = 1 ∧ ∀ j, bg k ≤ j → j + 1 < bg (k + 1) → c j ≠ 1
  cur : ∀ j, bg m ≤ j → j < i → c j ≠ 1
  items : ∀ k, k < m → ∃ u, L[k]? = some u ∧ Rd W u (fun j => (c (bg k + j) : Int)) (bg (k + 1) - bg k)
theorem Prs.start (W : World) (c : Nat → Nat) : Prs W c 0 0 (fun _ => 0) [] :=
  ⟨rfl, rfl, fun k h => absurd h (Nat.not_lt_zero _), Nat.le_refl _, fun k j h => absurd h (Nat.not_lt_zero _), fun j _ h => by obtain rfl : j = 0 := Nat.le_zero.1 h; rfl, fun k h => absurd h (Nat.not_lt_zero _), fun j _ h => absurd h (Nat.not_lt_zero _), fun k h => absurd h (Nat.not_lt_zero _)⟩
theorem Prs.skip {W : World} {c : Nat → Nat} {i m : Nat} {bg : Nat → Nat} {L : List Value} (h : Prs W c i m bg L) (hc : c i ≠ 1) : Prs W c (i + 1) m bg L :=
  ⟨h.len, h.zero, h.mono, Nat.le_succ_of_le h.le, h.beg, fun j h1 h2 => by
    rcases Nat.lt_or_ge j (i + 1) with h3 | h3
    · exact h.now j h1 (by omega)
    · obtain rfl : j = i + 1 := by omega
      show (if c i = 1 then i + 1 else B.pbeg c i) = _
      rw [if_neg hc]; exact h.now i h.le (Nat.le_refl _), h.fin, fun j h1 h2 => by
    rcases Nat.lt_or_ge j i with h3 | h3
    · exact h.cur j h1 h3
    · obtain rfl : j = i := by omega
      exact hc, h.items⟩
theorem Prs.part {W : World} {c : Nat → Nat} {i m : Nat} {bg : Nat → Nat} {L : List Value} (h : Prs W c i m bg L) (hc : c i = 1) (u : Value) (hu : Rd W u (fun j => (c (bg m + j) : Int)) (i + 1 - bg m)) : ∃ bg', bg' (m + 1) = i + 1 ∧ Prs W c (i + 1) (m + 1) bg' (L ++ [u]) := by
  have hb : ∀ k, k ≤ m → (if k = m + 1 then i + 1 else bg k) = bg k := fun k hk => if_neg (by omega)
  have hl := h.le
  refine ⟨fun k => if k = m + 1 then i + 1 else bg k, if_pos rfl, ⟨by simp [h.len], (hb 0 (Nat.zero_le _)).trans h.zero, fun k hk => ?_, by rw [if_pos rfl]; exact Nat.le_refl _, fun k j hk h1 h2 => ?_, fun j h1 h2 => ?_, fun k hk => ?_, fun j h1 h2 => ?_, fun k hk => ?_⟩⟩
  · show (if k = m + 1 then i + 1 else bg k) < if k + 1 = m + 1 then i + 1 else bg (k + 1)
    rw [hb k (by omega)]
    by_cases e : k = m
    · subst e; rw [if_pos rfl]; omega
    · rw [if_neg (by omega)]; exact h.mono k (by omega)
  · change (if k = m + 1 then i + 1 else bg k) ≤ j at h1
    change j < (if k + 1 = m + 1 then i + 1 else bg (k + 1)) at h2
    show _ = if k = m + 1 then i + 1 else bg k
    rw [hb k (by omega)] at h1 ⊢
    by_cases e : k = m
    · subst e; rw [if_pos rfl] at h2; exact h.now j h1 (by omega)
    · rw [if_neg (by omega)] at h2; exact h.beg k j (by omega) h1 h2
  · change (if m + 1 = m + 1 then i + 1 else bg (m + 1)) ≤ j at h1
    show _ = if m + 1 = m + 1 then i + 1 else bg (m + 1)
    rw [if_pos rfl] at h1 ⊢
    obtain rfl : j = i + 1 := by omega
    show (if c i = 1 then i + 1 else B.pbeg c i) = _
    rw [if_pos hc]
  · show c ((if k + 1 = m + 1 then i + 1 else bg (k + 1)) - 1) = 1 ∧ ∀ j, (if k = m + 1 then i + 1 else bg k) ≤ j → j + 1 < (if k + 1 = m + 1 then i + 1 else bg (k + 1)) → c j ≠ 1
    rw [hb k (by omega)]
    by_cases e : k = m
    · subst e; rw [if_pos rfl]; exact ⟨hc, fun j h1 h2 => h.cur j h1 (by omega)⟩
    · rw [if_neg (by omega)]; exact h.fin k (by omega)
  · change (if m + 1 = m + 1 then i + 1 else bg (m + 1)) ≤ j at h1
    rw [if_pos rfl] at h1; omega
  · show ∃ u', (L ++ [u])[k]? = some u' ∧ Rd W u' (fun j => (c ((if k = m + 1 then i + 1 else bg k) + j) : Int)) ((if k + 1 = m + 1 then i + 1 else bg (k + 1)) - if k = m + 1 then i + 1 else bg k)
    rw [hb k (by omega)]
    by_cases e : k = m
    · subst e; rw [if_pos rfl]; exact ⟨u, by rw [← h.len]; simp, hu⟩
    · rw [if_neg (by omega)]
      obtain ⟨u', h1, h2⟩ := h.items k (by omega)
      have := h.len
      exact ⟨u', by rw [List.getElem?_append_left (by omega)]; exact h1, h2⟩
/-- All paragraphs. -/
structure Pars (W : World) (c : Nat → Nat) (n P : Nat) (bg : Nat → Nat) (L : List Value) : Prop where
  len : L.length = P
  pos : 0 < P
  le_n : P ≤ n + 1
  zero : bg 0 = 0
  all : bg P = n
  mono : ∀ k, k < P → bg k ≤ bg (k + 1)
  beg : ∀ k j, k < P → bg k ≤ j → j < bg (k + 1) → B.pbeg c j = bg k
  fin : ∀ k, k < P → B.pfin c n (bg k) = bg (k + 1)
  items : ∀ k, k < P → ∃ u, L[k]? = some u ∧ Rd W u (fun j => (c (bg k + j) : Int)) (bg (k + 1) - bg k)
theorem pendF_at (c : Nat → Nat) (n q : Nat) (hq : q < n) (hc : c q = 1) : ∀ f i, i ≤ q → q - i < f → (∀ j, i ≤ j → j < q → c j ≠ 1) → B.pendF c n f i = q + 1 := by
  intro f
  induction f with
  | zero => intro i _ h; omega
  | succ f ih =>
    intro i hi hf h
    unfold B.pendF
    rw [if_pos (by omega)]
    by_cases e : i = q
    · subst e; rw [if_pos hc]
    · rw [if_neg (h i (Nat.le_refl _) (by omega))]
      exact ih (i + 1) (by omega) (by omega) (fun j h1 h2 => h j (by omega) h2)
theorem pendF_none (c : Nat → Nat) (n : Nat) : ∀ f i, i ≤ n → n - i ≤ f → (∀ j, i ≤ j → j < n → c j ≠ 1) → B.pendF c n f i = n := by
  intro f
  induction f with
  | zero => intro i h1 h2 _; show i = n; omega
  | succ f ih =>
    intro i hi hf h
    unfold B.pendF
    by_cases e : i < n
    · rw [if_pos e, if_neg (h i (Nat.le_refl _) e)]
      exact ih (i + 1) (by omega) (by omega) (fun j h1 h2 => h j (by omega) h2)
    · rw [if_neg e]; omega
theorem Prs.m_le {W : World} {c : Nat → Nat} {i m : Nat} {bg : Nat → Nat} {L : List Value} (h : Prs W c i m bg L) : ∀ k, k ≤ m → k ≤ bg k := by
  intro k
  induction k with
  | zero => intro _; exact Nat.zero_le _
  | succ k ih => intro hk; have := ih (by omega); have := h.mono k (by omega); omega
theorem Prs.bg_le {W : World} {c : Nat → Nat} {i m : Nat} {bg : Nat → Nat} {L : List Value} (h : Prs W c i m bg L) : ∀ d k, k + d = m → bg k ≤ bg m := by
  intro d
  induction d with
  | zero => intro k hk; rw [show k = m by omega]; exact Nat.le_refl _
  | succ d ih => intro k hk; have := ih (k + 1) (by omega); have := h.mono k (by omega); omega
theorem Prs.end {W : World} {c : Nat → Nat} {n m : Nat} {bg : Nat → Nat} {L : List Value} (h : Prs W c n m bg L) (u : Value) (hu : Rd W u (fun j => (c (bg m + j) : Int)) (n - bg m)) : ∃ bg', Pars W c n (m + 1) bg' (L ++ [u]) := by
  have hb : ∀ k, k ≤ m → (if k = m + 1 then n else bg k) = bg k := fun k hk => if_neg (by omega)
  have hl := h.le
  have hml := h.m_le m (Nat.le_refl _)
  refine ⟨fun k => if k = m + 1 then n else bg k, ⟨by simp [h.len], Nat.succ_pos _, by omega, (hb 0 (Nat.zero_le _)).trans h.zero, if_pos rfl, fun k hk => ?_, fun k j hk h1 h2 => ?_, fun k hk => ?_, fun k hk => ?_⟩⟩
  · show (if k = m + 1 then n else bg k) ≤ if k + 1 = m + 1 then n else bg (k + 1)
    rw [hb k (by omega)]
    by_cases e : k = m
    · subst e; rw [if_pos rfl]; exact hl
    · rw [if_neg (by omega)]; exact Nat.le_of_lt (h.mono k (by omega))
  · change (if k = m + 1 then n else bg k) ≤ j at h1
    change j < (if k + 1 = m + 1 then n else bg (k + 1)) at h2
    show _ = if k = m + 1 then n else bg k
    rw [hb k (by omega)] at h1 ⊢
    by_cases e : k = m
    · subst e; rw [if_pos rfl] at h2; exact h.now j h1 (by omega)
    · rw [if_neg (by omega)] at h2; exact h.beg k j (by omega) h1 h2
  · show B.pfin c n (if k = m + 1 then n else bg k) = if k + 1 = m + 1 then n else bg (k + 1)
    rw [hb k (by omega)]
    by_cases e : k = m
    · subst e; rw [if_pos rfl]; exact pendF_none c n _ _ hl (Nat.le_refl _) (fun j h1 h2 => h.cur j h1 h2)
    · rw [if_neg (by omega)]
      obtain ⟨h1, h2⟩ := h.fin k (by omega)
      have h3 := h.mono k (by omega)
      have h4 := h.bg_le (m - (k + 1)) (k + 1) (by omega)
      have := pendF_at c n (bg (k + 1) - 1) (by omega) h1 (n - bg k) (bg k) (by omega) (by omega) (fun j e1 e2 => h2 j e1 (by omega))
      unfold B.pfin
      rw [this]; omega
  · show ∃ u', (L ++ [u])[k]? = some u' ∧ Rd W u' (fun j => (c ((if k = m + 1 then n else bg k) + j) : Int)) ((if k + 1 = m + 1 then n else bg (k + 1)) - if k = m + 1 then n else bg k)
    rw [hb k (by omega)]
    by_cases e : k = m
    · subst e; rw [if_pos rfl]; exact ⟨u, by rw [← h.len]; simp, hu⟩
    · rw [if_neg (by omega)]
      obtain ⟨u', h1, h2⟩ := h.items k (by omega)
      have := h.len
      exact ⟨u', by rw [List.getElem?_append_left (by omega)]; exact h1, h2⟩
end Go.Proofs.Ytclblidfamabdaa
