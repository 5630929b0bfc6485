/- Width, control, flag: of the program, of the document, of the laws. -/
import Derived.Test.YtclblidfamabdaaCellW
set_option linter.unusedVariables false
namespace Go.Proofs.Ytclblidfamabdaa
open Go.RowKit Go.Shelf Go.Lib
attribute [local go_sem] Oper.semAt_some

theorem width_any (r : Int) (w : World) : Calls Try.prog 88 #[.int .i32 r] w fun e w' => e = .returned (.int .i64 (C.wid r : Int)) ∧ w = w' := by
  obtain ⟨n, hn⟩ : ∃ n, C.no r = n := ⟨_, rfl⟩
  obtain ⟨t, ht⟩ : ∃ t, C.two r = t := ⟨_, rfl⟩
  have HV := Lib.hid (show C.wid r = if n then 0 else if t then 2 else 1 by unfold C.wid; rw [hn, ht])
  have N := fun w => nothing_any r w
  have T := fun w => wide_any r w
  rw [hn] at N
  rw [ht] at T
  have N := Lib.hid N
  have T := Lib.hid T
  clear hn ht
  go_enter Try.func88, Try.ntmps88
  cases n <;> cases t
  all_goals (
    go_wp2_with (first
      | (go_at_call 98; ((with_reducible refine (N.out _).mono ?_); rintro e w' ⟨rfl, rfl⟩))
      | (go_at_call 99; ((with_reducible refine (T.out _).mono ?_); rintro e w' ⟨rfl, rfl⟩)))
    go_ret
    exact ⟨ret_int (by rw [HV.out]; rfl), rfl⟩)
theorem widthR_any (r : Int) (w : World) : Calls Try.prog 94 #[.int .i32 r] w fun e w' => e = .returned (.int .i64 (C.wid r : Int)) ∧ w = w' := by
  obtain ⟨n, hn⟩ : ∃ n, C.no r = n := ⟨_, rfl⟩
  obtain ⟨t, ht⟩ : ∃ t, C.two r = t := ⟨_, rfl⟩
  have HV := Lib.hid (show C.wid r = if n then 0 else if t then 2 else 1 by unfold C.wid; rw [hn, ht])
  have N := fun w => none_any r w
  have T := fun w => wideR_any r w
  rw [hn] at N
  rw [ht] at T
  have N := Lib.hid N
  have T := Lib.hid T
  clear hn ht
  go_enter Try.func94, Try.ntmps94
  cases n <;> cases t
  all_goals (
    go_wp2_with (first
      | (go_at_call 104; ((with_reducible refine (N.out _).mono ?_); rintro e w' ⟨rfl, rfl⟩))
      | (go_at_call 105; ((with_reducible refine (T.out _).mono ?_); rintro e w' ⟨rfl, rfl⟩)))
    go_ret
    exact ⟨ret_int (by rw [HV.out]; rfl), rfl⟩)

set_option maxRecDepth 1000000 in
set_option maxHeartbeats 4000000 in
theorem controlR_any (r : Int) (w : World) : Calls Try.prog 95 #[.int .i32 r] w fun e w' => e = .returned (.bool (C.ctl r)) ∧ w = w' := by
  obtain ⟨v, hv⟩ : ∃ v, C.ctl r = v := ⟨_, rfl⟩
  have HV := Lib.hid hv
  rw [hv]
  clear hv
  go_enter Try.func95, Try.ntmps95
  have hs : r < 0 ∨ (0 ≤ r ∧ r < 32) ∨ (32 ≤ r ∧ r < 127) ∨ (127 ≤ r ∧ r < 160) ∨ (160 ≤ r ∧ r < 1564) ∨ (1564 ≤ r ∧ r < 1565) ∨ (1565 ≤ r ∧ r < 8206) ∨ (8206 ≤ r ∧ r < 8207) ∨ (8207 ≤ r ∧ r < 8208) ∨ (8208 ≤ r ∧ r < 8232) ∨ (8232 ≤ r ∧ r < 8239) ∨ (8239 ≤ r ∧ r < 8294) ∨ (8294 ≤ r ∧ r < 8298) ∨ 8298 ≤ r := by omega
  rcases hs with h | h | h | h | h | h | h | h | h | h | h | h | h | h
  all_goals (
    go_wp2
    go_ret
    refine ⟨ret_bool ?_, rfl⟩
    rw [← HV.out, Bool.eq_iff_iff]
    simp [C.ctl, C.inR, C.rsC]
    try omega)
theorem flag_any (r : Int) (w : World) : Calls Try.prog 90 #[.int .i32 r] w fun e w' => e = .returned (.bool (C.flag r)) ∧ w = w' := by
  go_enter Try.func90, Try.ntmps90
  have hs : r < 127462 ∨ 127462 ≤ r := by omega
  rcases hs with h | h
  all_goals (
    go_wp2
    go_ret
    refine ⟨ret_bool ?_, rfl⟩
    rw [Bool.eq_iff_iff]
    simp [C.flag]
    try omega)
theorem letter_any (r : Int) (w : World) : Calls Try.prog 96 #[.int .i32 r] w fun e w' => e = .returned (.bool (C.flag r)) ∧ w = w' := by
  go_enter Try.func96, Try.ntmps96
  have hs : r < 127462 ∨ 127462 ≤ r := by omega
  rcases hs with h | h
  all_goals (
    go_wp2
    go_ret
    refine ⟨ret_bool ?_, rfl⟩
    rw [Bool.eq_iff_iff]
    simp [C.flag]
    try omega)
end Go.Proofs.Ytclblidfamabdaa
