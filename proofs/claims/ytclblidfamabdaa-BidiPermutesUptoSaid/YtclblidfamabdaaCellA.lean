/- A group takes a rune in. -/
import Derived.Test.YtclblidfamabdaaCellG
set_option linter.unusedVariables false
set_option linter.unusedSimpArgs false
namespace Go.Proofs.Ytclblidfamabdaa
open Go.RowKit Go.Shelf Go.Lib Go.BigFrame
attribute [local go_sem] Oper.semAt_some

set_option maxRecDepth 1000000 in
set_option maxHeartbeats 2000000 in
theorem add_any (w : World) (B : Nat) (g : C.G) (r n : Nat) (t : TypeId) (hb : w.heap[B]? = some (.cells (cellsG g) t (0, 0))) (h2 : g.c.to_ ≤ 4194304) (h3 : g.c.len ≤ 4194304) (h4 : n ≤ 4194304) :
    Calls Try.prog 71 #[.pointer (some ⟨B, 0, none⟩), .int .i32 (r : Int), .int .i64 (n : Int)] w fun e w' =>
      (∃ v, e = .returned v) ∧ w'.heap[B]? = some (.cells (cellsG (C.add g r n)) t (0, 0)) ∧ Fr (fun k => k ≠ B) w w' ∧ w'.heap.size = w.heap.size := by
  have c0 : w.cell? ⟨B, 0, none⟩ = some (.int .i64 (g.c.at_ : Int)) := (cell_of_cells hb 0 _ rfl).1
  have c1 : w.cell? ⟨B, 1, none⟩ = some (.int .i64 (g.c.len : Int)) := (cell_of_cells hb 1 _ rfl).1
  have c2 : w.cell? ⟨B, 2, none⟩ = some (.int .i64 (g.c.frm : Int)) := (cell_of_cells hb 2 _ rfl).1
  have c3 : w.cell? ⟨B, 3, none⟩ = some (.int .i64 (g.c.to_ : Int)) := (cell_of_cells hb 3 _ rfl).1
  have c4 : w.cell? ⟨B, 4, none⟩ = some (.int .i64 (g.c.cells : Int)) := (cell_of_cells hb 4 _ rfl).1
  have c5 : w.cell? ⟨B, 5, none⟩ = some (.int .i32 (g.first : Int)) := (cell_of_cells hb 5 _ rfl).1
  have c6 : w.cell? ⟨B, 6, none⟩ = some (.int .i32 (g.last : Int)) := (cell_of_cells hb 6 _ rfl).1
  have c7 : w.cell? ⟨B, 7, none⟩ = some (.bool g.arrow) := (cell_of_cells hb 7 _ rfl).1
  have f1 := (cell_of_cells hb 1 _ rfl).2
  have f3 := (cell_of_cells hb 3 _ rfl).2
  have f4 := (cell_of_cells hb 4 _ rfl).2
  have f5 := (cell_of_cells hb 5 _ rfl).2
  have f6 := (cell_of_cells hb 6 _ rfl).2
  have f7 := (cell_of_cells hb 7 _ rfl).2
  have WR := fun w => width_any (r : Int) w
  have FR := fun w => flag_any (r : Int) w
  have HB := Lib.hid hb
  clear hb
  obtain ⟨wr, hwr⟩ : ∃ x, C.wid (r : Int) = x := ⟨_, rfl⟩
  obtain ⟨fr, hfr⟩ : ∃ x, C.flag (r : Int) = x := ⟨_, rfl⟩
  rw [hwr] at WR
  rw [hfr] at FR
  have WR := Lib.hid WR
  have FR := Lib.hid FR
  obtain ⟨ar, har⟩ : ∃ x, g.arrow = x := ⟨_, rfl⟩
  rw [har] at c7
  have HV := Lib.hid (And.intro hwr (And.intro hfr har))
  clear hwr hfr har
  go_enter Try.func71, Try.ntmps71
  go_wp2
  go_quiet (fail)
  by_cases h : g.c.to_ = g.c.frm
  · have hd : ((g.c.to_ : Int) == (g.c.frm : Int)) = true := by simp [h]
    have hA : Hid (C.add g r n = C.addF g r n) := Lib.hid (if_pos h)
    by_cases ha : 8592 ≤ r
    · go_wp2_with (first | (go_at_call 88; ((with_reducible refine (WR.out _).mono ?_); rintro e w' ⟨rfl, rfl⟩)))
      go_end0
      refine ⟨⟨_, rfl⟩, ?_, ?_, by simp [World.setCell]⟩
      · rw [hA.out]
        refine (block_setCell (block_setCell (block_setCell (block_setCell (block_setCell (block_setCell HB.out _ _) _ _) _ _) _ _) _ _) _ _).trans ?_
        obtain ⟨v1, v2, v3⟩ := HV.out
        simp [cellsG, C.addF, v1, v2, v3, C.isArrow, ha, h]; omega
      · repeat (refine Fr.setCell ?_ _ _ (fun _ h => h rfl))
        exact (Fr.refl _ _).drewN _
    · have ha2 : decide ((8592 : Int) ≤ (r : Int)) = false := decide_eq_false (by omega)
      go_wp2_with (first | (go_at_call 88; ((with_reducible refine (WR.out _).mono ?_); rintro e w' ⟨rfl, rfl⟩)))
      go_end0
      refine ⟨⟨_, rfl⟩, ?_, ?_, by simp [World.setCell]⟩
      · rw [hA.out]
        refine (block_setCell (block_setCell (block_setCell (block_setCell (block_setCell (block_setCell HB.out _ _) _ _) _ _) _ _) _ _) _ _).trans ?_
        obtain ⟨v1, v2, v3⟩ := HV.out
        simp [cellsG, C.addF, v1, v2, v3, C.isArrow, ha, h]
      · repeat (refine Fr.setCell ?_ _ _ (fun _ h => h rfl))
        exact (Fr.refl _ _).drewN _
  · have hd : ((g.c.to_ : Int) == (g.c.frm : Int)) = false := by simp; omega
    have hA : Hid (C.add g r n = C.addM g r n) := Lib.hid (if_neg h)
    cases fr
    · cases ar
      · go_wp2_with (first | (go_at_call 90; ((with_reducible refine (FR.out _).mono ?_); rintro e w' ⟨rfl, rfl⟩)))
        go_end0
        refine ⟨⟨_, rfl⟩, ?_, ?_, by simp [World.setCell]⟩
        · rw [hA.out]
          refine (block_setCell (block_setCell (block_setCell HB.out _ _) _ _) _ _).trans ?_
          obtain ⟨v1, v2, v3⟩ := HV.out
          simp [cellsG, C.addM, v1, v2, v3]
        · repeat (refine Fr.setCell ?_ _ _ (fun _ h => h rfl))
          exact (Fr.refl _ _).drewN _
      · by_cases hr : r = 65039
        · have hr2 : ((r : Int) == 65039) = true := by rw [hr]; rfl
          have FL := Lib.hid (show ∀ w, Calls Try.prog 90 #[.int .i32 65039] w (fun e w' => e = .returned (.bool false) ∧ w = w') from by have := FR.out; rw [hr] at this; exact this)
          go_wp2_with (first | (go_at_call 90; ((with_reducible refine (FL.out _).mono ?_); rintro e w' ⟨rfl, rfl⟩)) | (go_at_call 90; ((with_reducible refine (FR.out _).mono ?_); rintro e w' ⟨rfl, rfl⟩)))
          go_end0
          refine ⟨⟨_, rfl⟩, ?_, ?_, by simp [World.setCell]⟩
          · rw [hA.out]
            refine (block_setCell (block_setCell (block_setCell (block_setCell HB.out _ _) _ _) _ _) _ _).trans ?_
            obtain ⟨v1, v2, v3⟩ := HV.out
            simp [cellsG, C.addM, v1, v2, v3, hr]
          · repeat (refine Fr.setCell ?_ _ _ (fun _ h => h rfl))
            exact (Fr.refl _ _).drewN _
        · have hr2 : ((r : Int) == 65039) = false := by simp; omega
          go_wp2_with (first | (go_at_call 90; ((with_reducible refine (FR.out _).mono ?_); rintro e w' ⟨rfl, rfl⟩)))
          go_end0
          refine ⟨⟨_, rfl⟩, ?_, ?_, by simp [World.setCell]⟩
          · rw [hA.out]
            refine (block_setCell (block_setCell (block_setCell HB.out _ _) _ _) _ _).trans ?_
            obtain ⟨v1, v2, v3⟩ := HV.out
            simp [cellsG, C.addM, v1, v2, v3, hr]
          · repeat (refine Fr.setCell ?_ _ _ (fun _ h => h rfl))
            exact (Fr.refl _ _).drewN _
    · go_wp2_with (first | (go_at_call 90; ((with_reducible refine (FR.out _).mono ?_); rintro e w' ⟨rfl, rfl⟩)))
      go_end0
      refine ⟨⟨_, rfl⟩, ?_, ?_, by simp [World.setCell]⟩
      · rw [hA.out]
        refine (block_setCell (block_setCell (block_setCell (block_setCell HB.out _ _) _ _) _ _) _ _).trans ?_
        obtain ⟨v1, v2, v3⟩ := HV.out
        simp [cellsG, C.addM, v1, v2, v3]
      · repeat (refine Fr.setCell ?_ _ _ (fun _ h => h rfl))
        exact (Fr.refl _ _).drewN _
end Go.Proofs.Ytclblidfamabdaa
