/- The two closures that lay classes over stretches. -/
import Derived.Test.YtclblidfamabdaaBdW
set_option linter.unusedVariables false
set_option linter.unusedSimpArgs false
namespace Go.Proofs.Ytclblidfamabdaa
open Go.RowKit Go.Shelf Go.Lib Go.BigFrame
attribute [local go_sem] Oper.semAt_some

set_option maxRecDepth 1000000 in
set_option maxHeartbeats 4000000 in
theorem f5_any (kb g n i j : Nat) (l : Nat → Nat) (cur : Nat → Int) (W : World) (hn : n ≤ 4194304) (hij : i < j) (hjn : j ≤ n) (hk : W.cell? ⟨kb, 0, none⟩ = some (.slice (some ⟨g, 0, none⟩) n n)) (hR : Rw W g cur n) (h1 : 0 < i → cur (i - 1) = (l (i - 1) : Int)) (h2 : j < n → cur j = (l j : Int)) :
    Calls Try.prog 83 #[.int .i64 (i : Int), .int .i64 (j : Int), .pointer (some ⟨kb, 0, none⟩)] W fun e w' => e = .returned (.int .i64 (B.F5 n l i j : Int)) ∧ Below W.heap.size W w' := by
  obtain ⟨X, hX⟩ : ∃ X, B.F5 n l i j = X := ⟨_, rfl⟩
  rw [hX]
  have HX := Lib.hid (show X = if (0 < i ∧ l (i - 1) = 4) ∨ (j < n ∧ l j = 4) then 4 else 7 from hX.symm)
  clear hX
  have hA : (0 < i ∧ l (i - 1) = 4) ∨ ¬ (0 < i ∧ l (i - 1) = 4) := Classical.em _
  have HR := Lib.hid hR
  rcases Nat.eq_zero_or_pos i with hi0 | hi0
  · subst hi0
    have d0 : decide ((0 : Int) < 0) = false := rfl
    by_cases hjl : j < n
    · have c1 := (HR.out.at hjl).1
      rw [h2 hjl] at c1
      obtain ⟨y, hy⟩ : ∃ y, l j = y := ⟨_, rfl⟩
      rw [hy] at c1 HX
      clear hR h1 h2 hA hy
      by_cases hy4 : y = 4
      · subst hy4
        go_enter Try.func83, Try.ntmps83
        go_wp2
        go_ret
        exact ⟨rC_int (by rw [HX.out, if_pos (.inr ⟨hjl, by trivial⟩)]; rfl), Below.refl _ _⟩
      · have b0 : ((y : Int) == 4) = false := by simp; omega
        go_enter Try.func83, Try.ntmps83
        go_wp2
        go_ret
        exact ⟨rC_int (by rw [HX.out, if_neg (by omega)]; rfl), Below.refl _ _⟩
    · have d1 : decide (j < n) = false := decide_eq_false hjl
      have d2 : decide ((j : Int) < (n : Int)) = false := decide_eq_false (by omega)
      clear hR h1 h2 hA
      go_enter Try.func83, Try.ntmps83
      go_wp2
      go_ret
      exact ⟨rC_int (by rw [HX.out, if_neg (by omega)]; rfl), Below.refl _ _⟩
  · obtain ⟨k, rfl⟩ : ∃ k, i = k + 1 := ⟨i - 1, by omega⟩
    have c0 := (HR.out.at (show k < n by omega)).1
    have h1' : cur k = (l k : Int) := h1 hi0
    rw [h1'] at c0
    rw [show k + 1 - 1 = k from rfl] at HX
    obtain ⟨x, hx⟩ : ∃ x, l k = x := ⟨_, rfl⟩
    rw [hx] at c0 HX
    by_cases hx4 : x = 4
    · subst hx4
      clear hR h1 h2 hA hx h1'
      go_enter Try.func83, Try.ntmps83
      go_wp2
      go_ret
      exact ⟨rC_int (by rw [HX.out, if_pos (.inl ⟨hi0, by trivial⟩)]; rfl), Below.refl _ _⟩
    · have bx : ((x : Int) == 4) = false := by simp; omega
      by_cases hjl : j < n
      · have c1 := (HR.out.at hjl).1
        rw [h2 hjl] at c1
        obtain ⟨y, hy⟩ : ∃ y, l j = y := ⟨_, rfl⟩
        rw [hy] at c1 HX
        clear hR h1 h2 hA hy hx h1'
        by_cases hy4 : y = 4
        · subst hy4
          go_enter Try.func83, Try.ntmps83
          go_wp2
          go_ret
          exact ⟨rC_int (by rw [HX.out, if_pos (.inr ⟨hjl, by trivial⟩)]; rfl), Below.refl _ _⟩
        · have b0 : ((y : Int) == 4) = false := by simp; omega
          go_enter Try.func83, Try.ntmps83
          go_wp2
          go_ret
          exact ⟨rC_int (by rw [HX.out, if_neg (by omega)]; rfl), Below.refl _ _⟩
      · have d1 : decide (j < n) = false := decide_eq_false hjl
        have d2 : decide ((j : Int) < (n : Int)) = false := decide_eq_false (by omega)
        clear hR h1 h2 hA hx h1'
        go_enter Try.func83, Try.ntmps83
        go_wp2
        go_ret
        exact ⟨rC_int (by rw [HX.out, if_neg (by omega)]; rfl), Below.refl _ _⟩

/-- The answer of the other one. -/
def f8 (side a z : Nat) : Nat := if a = 17 ∧ z = 17 then 17 else if a ≠ 17 ∧ z ≠ 17 then 15 else side
set_option maxRecDepth 1000000 in
set_option maxHeartbeats 4000000 in
theorem f8_any (sb kb g n i j side : Nat) (l : Nat → Nat) (cur : Nat → Int) (W : World) (hn : n ≤ 4194304) (hij : i < j) (hjn : j ≤ n) (hs : W.cell? ⟨sb, 0, none⟩ = some (.int .i64 (side : Int))) (hk : W.cell? ⟨kb, 0, none⟩ = some (.slice (some ⟨g, 0, none⟩) n n)) (hR : Rw W g cur n) (h1 : 0 < i → cur (i - 1) = (l (i - 1) : Int)) (h2 : j < n → cur j = (l j : Int)) :
    Calls Try.prog 85 #[.int .i64 (i : Int), .int .i64 (j : Int), .pointer (some ⟨sb, 0, none⟩), .pointer (some ⟨kb, 0, none⟩)] W fun e w' => e = .returned (.int .i64 (B.F8 side n l i j : Int)) ∧ Below W.heap.size W w' := by
  obtain ⟨a, ha⟩ : ∃ a, (if 0 < i then l (i - 1) else side) = a := ⟨_, rfl⟩
  obtain ⟨z, hz⟩ : ∃ z, (if j < n then l j else side) = z := ⟨_, rfl⟩
  have HX : Hid (B.F8 side n l i j = f8 side a z) := Lib.hid (by unfold B.F8 f8; rw [ha, hz])
  obtain ⟨X, hX⟩ : ∃ X, B.F8 side n l i j = X := ⟨_, rfl⟩
  rw [hX] at HX ⊢
  clear hX
  have HA : Hid ((i = 0 ∧ a = side) ∨ (0 < i ∧ W.cell? ⟨g, i - 1, none⟩ = some (.int .i64 (a : Int)))) := Lib.hid (by
    rcases Nat.eq_zero_or_pos i with h | h
    · left; rw [if_neg (by omega)] at ha; exact ⟨h, ha.symm⟩
    · right; rw [if_pos h] at ha; refine ⟨h, ?_⟩; rw [(hR.at (show i - 1 < n by omega)).1, h1 h, ha])
  have HZ : Hid ((j = n ∧ z = side) ∨ (j < n ∧ W.cell? ⟨g, j, none⟩ = some (.int .i64 (z : Int)))) := Lib.hid (by
    by_cases h : j < n
    · right; rw [if_pos h] at hz; refine ⟨h, ?_⟩; rw [(hR.at h).1, h2 h, hz]
    · left; rw [if_neg h] at hz; exact ⟨by omega, hz.symm⟩)
  clear ha hz hR h1 h2
  have hcase : (a = 17 ∧ z = 17) ∨ (a ≠ 17 ∧ z ≠ 17) ∨ (a = 17 ∧ z ≠ 17) ∨ (a ≠ 17 ∧ z = 17) := by omega
  obtain ⟨A, hA⟩ : ∃ A : Int, (a : Int) = A := ⟨_, rfl⟩
  obtain ⟨Z, hZ⟩ : ∃ Z : Int, (z : Int) = Z := ⟨_, rfl⟩
  obtain ⟨b1, hb1⟩ : ∃ b, (A == 17) = b := ⟨_, rfl⟩
  obtain ⟨b2, hb2⟩ : ∃ b, (Z == 17) = b := ⟨_, rfl⟩
  have hb3 : (A != 17) = !b1 := by rw [← hb1]; rfl
  have hb4 : (Z != 17) = !b2 := by rw [← hb2]; rfl
  have HV : Hid (X = if b1 = true ∧ b2 = true then 17 else if b1 = false ∧ b2 = false then 15 else side) := Lib.hid (by
    rw [HX.out, ← hb1, ← hb2, ← hA, ← hZ]
    unfold f8
    rcases hcase with ⟨h1, h2⟩ | ⟨h1, h2⟩ | ⟨h1, h2⟩ | ⟨h1, h2⟩
    · subst h1 h2; rfl
    · rw [if_neg (by omega), if_pos ⟨h1, h2⟩, if_neg (by simp; omega), if_pos (by simp; omega)]
    · subst h1; rw [if_neg (by omega), if_neg (by omega), if_neg (by simp; omega), if_neg (by simp)]
    · subst h2; rw [if_neg (by omega), if_neg (by omega), if_neg (by simp; omega), if_neg (by simp)])
  have HA2 : Hid ((i = 0 ∧ (side : Int) = A) ∨ (0 < i ∧ W.cell? ⟨g, i - 1, none⟩ = some (.int .i64 A))) := Lib.hid (by rw [← hA]; rcases HA.out with ⟨h1, h2⟩ | h; exact .inl ⟨h1, by rw [h2]⟩; exact .inr h)
  have HZ2 : Hid ((j = n ∧ (side : Int) = Z) ∨ (j < n ∧ W.cell? ⟨g, j, none⟩ = some (.int .i64 Z))) := Lib.hid (by rw [← hZ]; rcases HZ.out with ⟨h1, h2⟩ | h; exact .inl ⟨h1, by rw [h2]⟩; exact .inr h)
  clear hcase hA hZ HA HZ HX
  obtain ⟨Sd, hSd⟩ : ∃ S : Int, (side : Int) = S := ⟨_, rfl⟩
  rw [hSd] at hs HA2 HZ2
  have HSd := Lib.hid hSd
  clear hSd
  go_enter Try.func85, Try.ntmps85
  go_wp2
  go_quiet (fail)
  go_upto_if 12 with fail
  go_cut [7] (fun s7 wx => s7 = .int .i64 A ∧ wx = W.drewN nq)
  case first =>
    rcases HA2.out with ⟨h1, h2⟩ | ⟨h1, h2⟩
    · subst h1
      subst h2
      have d0 : decide ((0 : Int) < 0) = false := rfl
      go_wp2_with fail
      go_meet
      exact ⟨rfl, rfl⟩
    · obtain ⟨k, rfl⟩ : ∃ k, i = k + 1 := ⟨i - 1, by omega⟩
      have c0 : W.cell? ⟨g, k, none⟩ = some (.int .i64 A) := h2
      have hkn : k < n := by omega
      clear h2
      go_wp2_with fail
      go_meet
      exact ⟨rfl, rfl⟩
  case rest =>
    obtain ⟨rfl, rfl⟩ := hcut
    go_upto_if 21 with fail
    go_cut [8] (fun s8 wx => s8 = .int .i64 Z ∧ wx = W.drewN nq)
    case first =>
      rcases HZ2.out with ⟨h1, h2⟩ | ⟨h1, h2⟩
      · subst h1
        subst h2
        go_wp2_with fail
        go_meet
        exact ⟨rfl, rfl⟩
      · go_wp2_with fail
        go_meet
        exact ⟨rfl, rfl⟩
    case rest =>
      obtain ⟨rfl, rfl⟩ := hcut
      cases b1 <;> cases b2
      all_goals
        simp only [Bool.not_true, Bool.not_false] at hb3 hb4
        go_wp2
        go_ret
        exact ⟨rC_int (by rw [HV.out]; first | rfl | exact HSd.out.symm), below_dn (Below.refl _ _) _⟩
end Go.Proofs.Ytclblidfamabdaa
