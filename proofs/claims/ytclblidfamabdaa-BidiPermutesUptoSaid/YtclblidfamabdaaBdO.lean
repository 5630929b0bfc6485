/- slices.Clone of whatever slice of numbers. -/
import Derived.Test.YtclblidfamabdaaBdT
set_option linter.unusedVariables false
set_option linter.unusedSimpArgs false
namespace Go.Proofs.Ytclblidfamabdaa
open Go.RowKit Go.Shelf Go.Lib Go.BigFrame
attribute [local go_sem] Oper.semAt_some

set_option maxRecDepth 1000000 in
theorem clone_none (l c : Nat) (w : World) : Calls Try.prog 33 #[.slice none l c] w fun e w' => e = .returned (.slice none 0 0) ∧ w = w' := by
  have he := eql_slice_nil w none l c
  go_enter Try.func33, Try.ntmps33
  go_wp2
  go_ret
  exact ⟨rfl, rfl⟩
set_option maxRecDepth 1000000 in
theorem clone_zero (a : Addr) (cap : Nat) (w : World) :
    Calls Try.prog 33 #[.slice (some a) 0 cap] w fun e w' => ∃ v, e = .returned v ∧ Below w.heap.size w w' ∧ w'.ownsRow w.heap.size 3 1 v 0 [] := by
  obtain ⟨i0, hi, hz0, hz1, hz2⟩ := info_parts Try.infoIn
  have he := eql_slice_nil w (some a) 0 cap
  go_enter Try.func33, Try.ntmps33
  go_wp2_with (at_builtin; go_must (refine wpList_append_own _ rfl _ _ 29 rfl w.heap.size 3 i0 _ 1 8 Try.underlying29 hi hz0 hz1 hz2 rfl (by decide) _ _ _ rfl (own_empty w _ (Nat.le_refl _)) a 0 cap [] rfl rfl (fun j u h => by simp at h) (fun u h => by simp at h) (by unfold maxLen; omega) (by omega) (by simp) ?_); intro v' w2 hown hg _; rw [Nat.zero_add, List.nil_append] at hown)
  go_ret
  exact ⟨_, rfl, ((Below.refl _ _).alloc (Nat.le_refl _) _).grown hg (by simp) (fun q e => by have := Option.some.inj e; simp at this; omega), hown⟩
/-- A slice of the call's own, or none of its numbers. -/
def Cn (w w' : World) (c : Nat → Int) (m : Nat) (v : Value) : Prop := ∃ A c3, v = .slice A m c3 ∧ m ≤ c3 ∧ (∀ q, v.ownBlock = some q → w.heap.size ≤ q ∧ q < w'.heap.size) ∧ (0 < m → ∃ g, A = some ⟨g, 0, none⟩ ∧ w.heap.size ≤ g ∧ Rw w' g c m)
theorem cn_row {w w' : World} {c : Nat → Int} {m : Nat} {v : Value} (h : w'.ownsRow w.heap.size 3 1 v m (ns c m)) : Cn w w' c m v := by
  obtain ⟨A, c3, rfl, hc, hA⟩ := ownN_form h
  refine ⟨A, c3, rfl, hc, fun q e => h.lt q e, fun hm => ?_⟩
  obtain ⟨g, rfl⟩ := hA hm
  exact ⟨g, rfl, (h.lt g rfl).1, row_rw h⟩
theorem clone_any (v : Value) (m : Nat) (c : Nat → Int) (w : World) (hm : m ≤ 4194304) (hR : Rd w v c m) :
    Calls Try.prog 33 #[v] w fun e w' => ∃ v', e = .returned v' ∧ Below w.heap.size w w' ∧ Cn w w' c m v' := by
  obtain ⟨A, cap, rfl, hc, h1⟩ := hR
  rcases A with _ | a
  · have h0 : m = 0 := by
      rcases Nat.eq_zero_or_pos m with h | h
      · exact h
      · obtain ⟨g, o, e, _⟩ := h1 h; cases e
    subst h0
    refine (clone_none 0 cap w).mono ?_
    rintro e w' ⟨rfl, rfl⟩
    exact ⟨_, rfl, Below.refl _ _, none, 0, rfl, Nat.le_refl _, fun q e => by simp [Value.ownBlock] at e, fun h => absurd h (by omega)⟩
  · rcases Nat.eq_zero_or_pos m with h0 | h0
    · subst h0
      refine (clone_zero a cap w).mono ?_
      rintro e w' ⟨v', rfl, hb, hr⟩
      exact ⟨v', rfl, hb, cn_row hr⟩
    · obtain ⟨g, o, e, h2⟩ := h1 h0
      cases e
      refine (clone_some g o m cap c w hm h2).mono ?_
      rintro e w' ⟨v', rfl, hb, hr⟩
      exact ⟨v', rfl, hb, cn_row hr⟩
end Go.Proofs.Ytclblidfamabdaa
