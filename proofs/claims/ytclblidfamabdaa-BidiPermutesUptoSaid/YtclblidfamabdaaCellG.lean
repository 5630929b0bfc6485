/- A group: whether a rune belongs to it; how it is taken in. -/
import Derived.Test.YtclblidfamabdaaCellS
import Derived.Test.YtclblidfamabdaaColl
import Derived.BigQuiet
import Derived.BigRegion
set_option linter.unusedVariables false
namespace Go.Proofs.Ytclblidfamabdaa
open Go.RowKit Go.Shelf Go.Lib Go.BigFrame
attribute [local go_sem] Oper.semAt_some

/-- A group's cells; a cluster's. -/
def cellsG (g : C.G) : Array Value := #[.int .i64 (g.c.at_ : Int), .int .i64 (g.c.len : Int), .int .i64 (g.c.frm : Int), .int .i64 (g.c.to_ : Int), .int .i64 (g.c.cells : Int), .int .i32 (g.first : Int), .int .i32 (g.last : Int), .bool g.arrow]
def cellC (c : C.Cl) : List Value := [.int .i64 (c.at_ : Int), .int .i64 (c.len : Int), .int .i64 (c.frm : Int), .int .i64 (c.to_ : Int), .int .i64 (c.cells : Int)]
def encC (c : C.Cl) : Value := .agg #[.int .i64 (c.at_ : Int), .int .i64 (c.len : Int), .int .i64 (c.frm : Int), .int .i64 (c.to_ : Int), .int .i64 (c.cells : Int)]

theorem cell_of_cells {W : World} {B : Nat} {t : TypeId} {cs : Array Value} (h : W.heap[B]? = some (.cells cs t (0, 0))) (j : Nat) (v : Value) (hj : cs[j]? = some v) : W.cell? ⟨B, j, none⟩ = some v ∧ W.frozen? ⟨B, j, none⟩ = false := by
  constructor
  · simp [World.cell?, h, hj]
  · simp [World.frozen?, h]
theorem block_setCell {W : World} {B : Nat} {t : TypeId} {cs : Array Value} {fr : Nat × Nat} (h : W.heap[B]? = some (.cells cs t fr)) (j : Nat) (v : Value) :
    (W.setCell ⟨B, j, none⟩ v).heap[B]? = some (.cells (cs.setIfInBounds j v) t fr) := by
  obtain ⟨hlt, h'⟩ := Array.getElem?_eq_some_iff.1 h
  show (W.heap.modify B _)[B]? = _
  rw [Array.getElem?_eq_getElem (by rw [Array.size_modify]; exact hlt), Array.getElem_modify_self, h']
  rfl

set_option maxRecDepth 1000000 in
set_option maxHeartbeats 2000000 in
theorem takes_any (w : World) (B : Nat) (g : C.G) (r : Nat) (t : TypeId) (hb : w.heap[B]? = some (.cells (cellsG g) t (0, 0))) (h1 : g.c.frm ≤ g.c.to_) (h2 : g.c.to_ ≤ 4194304) :
    Calls Try.prog 70 #[.pointer (some ⟨B, 0, none⟩), .int .i32 (r : Int)] w fun e w' => e = .returned (.bool (C.takes g r)) ∧ ∃ n, w.drewN n = w' := by
  have cf : w.cell? ⟨B, 5, none⟩ = some (.int .i32 (g.first : Int)) := (cell_of_cells hb 5 _ rfl).1
  have cl : w.cell? ⟨B, 6, none⟩ = some (.int .i32 (g.last : Int)) := (cell_of_cells hb 6 _ rfl).1
  have c2 : w.cell? ⟨B, 2, none⟩ = some (.int .i64 (g.c.frm : Int)) := (cell_of_cells hb 2 _ rfl).1
  have c3 : w.cell? ⟨B, 3, none⟩ = some (.int .i64 (g.c.to_ : Int)) := (cell_of_cells hb 3 _ rfl).1
  have WR_ := fun w => width_any (r : Int) w
  have WF_ := fun w => width_any (g.first : Int) w
  have CR_ := fun w => control_any (r : Int) w
  have CF_ := fun w => control_any (g.first : Int) w
  have FR_ := fun w => flag_any (r : Int) w
  have FF_ := fun w => flag_any (g.first : Int) w
  obtain ⟨T, hT⟩ : ∃ T, C.takes g r = T := ⟨_, rfl⟩
  rw [hT]
  unfold C.takes at hT
  clear hb
  have hwr := C.wid_le (r : Int)
  generalize C.wid (r : Int) = wr at WR_ hT hwr
  generalize C.wid (g.first : Int) = wf at WF_ hT
  generalize C.ctl (r : Int) = cr at CR_ hT
  generalize C.ctl (g.first : Int) = cf' at CF_ hT
  generalize C.flag (r : Int) = fr at FR_ hT
  generalize C.flag (g.first : Int) = ff at FF_ hT
  generalize g.first = f at *
  generalize g.last = l at *
  generalize g.c.frm = frm at *
  generalize g.c.to_ = to at *
  have WR := Lib.hid WR_
  have WF := Lib.hid WF_
  have CR := Lib.hid CR_
  have CF := Lib.hid CF_
  have FR := Lib.hid FR_
  have FF := Lib.hid FF_
  have HT := Lib.hid hT
  clear hT WR_ WF_ CR_ CF_ FR_ FF_
  by_cases w0 : wr = 0 ∧ cr = false
  · obtain ⟨rfl, rfl⟩ := w0
    go_enter Try.func70, Try.ntmps70
    go_wp2_with (first | (go_at_call 88; ((with_reducible refine (WR.out _).mono ?_); rintro e w' ⟨rfl, rfl⟩)) | (go_at_call 88; ((with_reducible refine (WF.out _).mono ?_); rintro e w' ⟨rfl, rfl⟩)) | (go_at_call 89; ((with_reducible refine (CR.out _).mono ?_); rintro e w' ⟨rfl, rfl⟩)) | (go_at_call 89; ((with_reducible refine (CF.out _).mono ?_); rintro e w' ⟨rfl, rfl⟩)) | (go_at_call 90; ((with_reducible refine (FR.out _).mono ?_); rintro e w' ⟨rfl, rfl⟩)) | (go_at_call 90; ((with_reducible refine (FF.out _).mono ?_); rintro e w' ⟨rfl, rfl⟩)))
    go_ret
    exact ⟨ret_bool (by rw [← HT.out]; rfl), 0, rfl⟩
  have HT2 := Lib.hid ((if_neg w0).symm.trans HT.out)
  clear HT
  have w0' : (wr = 0 ∧ cr = true) ∨ wr = 1 ∨ wr = 2 := by cases cr <;> simp_all <;> omega
  clear w0 hwr
  cases fr
  · rcases w0' with ⟨rfl, rfl⟩ | rfl | rfl
    · go_enter Try.func70, Try.ntmps70
      go_wp2_with (first | (go_at_call 88; ((with_reducible refine (WR.out _).mono ?_); rintro e w' ⟨rfl, rfl⟩)) | (go_at_call 88; ((with_reducible refine (WF.out _).mono ?_); rintro e w' ⟨rfl, rfl⟩)) | (go_at_call 89; ((with_reducible refine (CR.out _).mono ?_); rintro e w' ⟨rfl, rfl⟩)) | (go_at_call 89; ((with_reducible refine (CF.out _).mono ?_); rintro e w' ⟨rfl, rfl⟩)) | (go_at_call 90; ((with_reducible refine (FR.out _).mono ?_); rintro e w' ⟨rfl, rfl⟩)) | (go_at_call 90; ((with_reducible refine (FF.out _).mono ?_); rintro e w' ⟨rfl, rfl⟩)))
      go_ret
      exact ⟨ret_bool (by rw [← HT2.out]; rfl), 0, rfl⟩
    · go_enter Try.func70, Try.ntmps70
      go_wp2_with (first | (go_at_call 88; ((with_reducible refine (WR.out _).mono ?_); rintro e w' ⟨rfl, rfl⟩)) | (go_at_call 88; ((with_reducible refine (WF.out _).mono ?_); rintro e w' ⟨rfl, rfl⟩)) | (go_at_call 89; ((with_reducible refine (CR.out _).mono ?_); rintro e w' ⟨rfl, rfl⟩)) | (go_at_call 89; ((with_reducible refine (CF.out _).mono ?_); rintro e w' ⟨rfl, rfl⟩)) | (go_at_call 90; ((with_reducible refine (FR.out _).mono ?_); rintro e w' ⟨rfl, rfl⟩)) | (go_at_call 90; ((with_reducible refine (FF.out _).mono ?_); rintro e w' ⟨rfl, rfl⟩)))
      go_ret
      exact ⟨ret_bool (by rw [← HT2.out]; rfl), 0, rfl⟩
    · by_cases hl : l = 8205
      · subst hl
        go_enter Try.func70, Try.ntmps70
        go_wp2_with (first | (go_at_call 88; ((with_reducible refine (WR.out _).mono ?_); rintro e w' ⟨rfl, rfl⟩)) | (go_at_call 88; ((with_reducible refine (WF.out _).mono ?_); rintro e w' ⟨rfl, rfl⟩)) | (go_at_call 89; ((with_reducible refine (CR.out _).mono ?_); rintro e w' ⟨rfl, rfl⟩)) | (go_at_call 89; ((with_reducible refine (CF.out _).mono ?_); rintro e w' ⟨rfl, rfl⟩)) | (go_at_call 90; ((with_reducible refine (FR.out _).mono ?_); rintro e w' ⟨rfl, rfl⟩)) | (go_at_call 90; ((with_reducible refine (FF.out _).mono ?_); rintro e w' ⟨rfl, rfl⟩)))
        go_ret
        exact ⟨ret_bool (by rw [← HT2.out, Bool.eq_iff_iff]; simp; omega), 0, rfl⟩
      · have hl1 : ((l : Int) == 8205) = false := by simp; omega
        go_enter Try.func70, Try.ntmps70
        go_wp2_with (first | (go_at_call 88; ((with_reducible refine (WR.out _).mono ?_); rintro e w' ⟨rfl, rfl⟩)) | (go_at_call 88; ((with_reducible refine (WF.out _).mono ?_); rintro e w' ⟨rfl, rfl⟩)) | (go_at_call 89; ((with_reducible refine (CR.out _).mono ?_); rintro e w' ⟨rfl, rfl⟩)) | (go_at_call 89; ((with_reducible refine (CF.out _).mono ?_); rintro e w' ⟨rfl, rfl⟩)) | (go_at_call 90; ((with_reducible refine (FR.out _).mono ?_); rintro e w' ⟨rfl, rfl⟩)) | (go_at_call 90; ((with_reducible refine (FF.out _).mono ?_); rintro e w' ⟨rfl, rfl⟩)))
        go_ret
        exact ⟨ret_bool (by rw [← HT2.out]; simp [hl]), 0, rfl⟩
  · rcases w0' with ⟨rfl, rfl⟩ | rfl | rfl
    all_goals (
      go_enter Try.func70, Try.ntmps70
      cases ff
      · go_wp2_with (first | (go_at_call 88; ((with_reducible refine (WR.out _).mono ?_); rintro e w' ⟨rfl, rfl⟩)) | (go_at_call 88; ((with_reducible refine (WF.out _).mono ?_); rintro e w' ⟨rfl, rfl⟩)) | (go_at_call 89; ((with_reducible refine (CR.out _).mono ?_); rintro e w' ⟨rfl, rfl⟩)) | (go_at_call 89; ((with_reducible refine (CF.out _).mono ?_); rintro e w' ⟨rfl, rfl⟩)) | (go_at_call 90; ((with_reducible refine (FR.out _).mono ?_); rintro e w' ⟨rfl, rfl⟩)) | (go_at_call 90; ((with_reducible refine (FF.out _).mono ?_); rintro e w' ⟨rfl, rfl⟩)))
        go_quiet ((go_at_call 90; exact Calls.quiet_of_same ((FF.out _).mono fun _ _ h => ⟨h.1, h.2.symm⟩)))
        go_wp2
        go_ret
        exact ⟨ret_bool (by rw [← HT2.out]; rfl), _, rfl⟩
      · go_wp2_with (first | (go_at_call 88; ((with_reducible refine (WR.out _).mono ?_); rintro e w' ⟨rfl, rfl⟩)) | (go_at_call 88; ((with_reducible refine (WF.out _).mono ?_); rintro e w' ⟨rfl, rfl⟩)) | (go_at_call 89; ((with_reducible refine (CR.out _).mono ?_); rintro e w' ⟨rfl, rfl⟩)) | (go_at_call 89; ((with_reducible refine (CF.out _).mono ?_); rintro e w' ⟨rfl, rfl⟩)) | (go_at_call 90; ((with_reducible refine (FR.out _).mono ?_); rintro e w' ⟨rfl, rfl⟩)) | (go_at_call 90; ((with_reducible refine (FF.out _).mono ?_); rintro e w' ⟨rfl, rfl⟩)))
        go_quiet ((go_at_call 90; exact Calls.quiet_of_same ((FF.out _).mono fun _ _ h => ⟨h.1, h.2.symm⟩)))
        go_wp2
        go_ret
        exact ⟨ret_bool (by rw [← HT2.out, Bool.eq_iff_iff]; simp; omega), _, rfl⟩)

end Go.Proofs.Ytclblidfamabdaa
