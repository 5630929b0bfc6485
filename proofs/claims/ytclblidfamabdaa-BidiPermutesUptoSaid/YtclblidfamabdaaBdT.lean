/- Levels, plain: over the classes as they became, over the classes as they were. -/
import Derived.Test.YtclblidfamabdaaBdJ
set_option linter.unusedVariables false
namespace Go.Proofs.Ytclblidfamabdaa
open Go.RowKit Go.Shelf Go.Lib

theorem B.Clo.up {c cl ch : Nat → Nat} {n : Nat} (h : B.Clo c cl ch n) : B.Up cl := fun x hx => (h.lt x hx).1
theorem B.nz_S3 {a b : Nat} (h : B.nz a = B.nz b) : B.S3 a = B.S3 b ∧ (B.S3 a = true → a = b) := by
  unfold B.nz at h
  unfold B.S3
  by_cases ha : B.isIso a = true <;> by_cases hb : B.isIso b = true
  all_goals simp only [ha, hb, if_true, if_false, Bool.false_eq_true] at h
  all_goals (simp [B.isIso] at ha hb)
  · refine ⟨?_, fun h => ?_⟩
    · rw [Bool.eq_iff_iff]; simp; omega
    · simp at h; omega
  · refine ⟨?_, fun h => ?_⟩
    · rw [Bool.eq_iff_iff]; simp; omega
    · simp at h; omega
  · refine ⟨?_, fun h => ?_⟩
    · rw [Bool.eq_iff_iff]; simp; omega
    · simp at h; omega
  · subst h; exact ⟨rfl, fun _ => rfl⟩
theorem B.stgF_nz (ch c : Nat → Nat) (h : ∀ x, B.nz (ch x) = B.nz (c x)) (it : Nat → Nat) : ∀ f n, B.stgF ch it f n = B.stgF c it f n := by
  intro f
  induction f with
  | zero => intro n; rfl
  | succ f ih =>
    intro n
    unfold B.stgF
    obtain ⟨h1, h2⟩ := B.nz_S3 (h (it n))
    by_cases e : B.S3 (ch (it n)) = true
    · rw [if_pos e, if_pos (h1 ▸ e), h2 e]
    · rw [if_neg e, if_neg (h1 ▸ e)]; exact ih (n + 1)
theorem B.inn_chg {c cl ch : Nat → Nat} {n : Nat} (h : B.Clo c cl ch n) (e i : Nat) (hi : cl i ≠ 0) : B.inn ch cl e i = B.inn c cl e i := by
  unfold B.inn B.odd B.stg
  rw [(h.op i hi).2, B.stgF_nz ch c h.ch]
theorem B.lev_chg {c cl ch : Nat → Nat} {n : Nat} (h : B.Clo c cl ch n) : ∀ f frm tz e k, frm ≤ k → B.lev ch cl f frm tz e k = B.lev c cl f frm tz e k := by
  intro f
  induction f with
  | zero => intro frm tz e k _; rfl
  | succ f ih =>
    intro frm tz e k hk
    unfold B.lev
    obtain ⟨s1, s2⟩ := B.loc_spec h.up frm k hk
    by_cases hl : B.itm cl frm (B.loc cl frm k) = k
    · rw [if_pos hl, if_pos hl]
      have : B.res (B.sid e) (B.cnt cl frm tz) (fun n => ch (B.itm cl frm n)) = B.res (B.sid e) (B.cnt cl frm tz) (fun n => c (B.itm cl frm n)) := by
        apply B.res_nz
        · unfold B.sid; split <;> rfl
        · funext j; exact h.ch _
      rw [this]
    · rw [if_neg hl, if_neg hl]
      have hci : cl (B.itm cl frm (B.loc cl frm k)) ≠ 0 := by
        intro h0
        have : B.itm cl frm (B.loc cl frm k + 1) = B.nx cl (B.itm cl frm (B.loc cl frm k)) := rfl
        rw [this] at s2
        unfold B.nx at s2
        rw [if_pos h0] at s2
        omega
      rw [B.inn_chg h e _ hci]
      exact ih _ _ _ _ (by omega)
theorem B.Clo.ok {c cl ch : Nat → Nat} {n : Nat} (h : B.Clo c cl ch n) (hc : ∀ j, c j ≤ 17) : ClOk n ch cl :=
  ⟨h.up, fun x hx => by
    by_cases e : cl x = 0
    · omega
    · exact (h.lt x e).2, h.nest, fun j => by
    have h1 := h.ch j
    have h2 := hc j
    unfold B.nz at h1
    by_cases ha : B.isIso (ch j) = true
    · simp [B.isIso] at ha; omega
    · rw [if_neg ha] at h1; rw [h1]; split <;> omega⟩
end Go.Proofs.Ytclblidfamabdaa
