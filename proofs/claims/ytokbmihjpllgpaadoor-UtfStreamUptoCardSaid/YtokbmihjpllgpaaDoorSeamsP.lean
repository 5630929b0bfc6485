/- What does not melt: plain. -/
import Derived.Test.YtokbmihjpllgpaaDoorMoved
set_option linter.unusedVariables false
namespace Go.Proofs.YtokbmihjpllgpaaDoor
open Go.RowKit Go.Shelf Go.Lib Go.BigFrame

theorem melts_rep (a b : ByteArray) : meltsB (repB a).data.toList (repB b).data.toList = false := by
  unfold meltsB
  rw [U.signs_seam]
  show U.signs (textB (runesL a.data.toList) ++ textB (runesL b.data.toList)) = U.signs (textB (runesL a.data.toList)) ++ (U.signs (textB (runesL b.data.toList))).map (U.Sg.on (textB (runesL a.data.toList)).length)
  rw [U.signs, U.signs, U.signs, U.toks_text, U.put_append, ← U.put_on, Nat.zero_add, Nat.zero_add, ← U.toks_textB, U.wsum_toks]
theorem melts_right (a : List UInt8) : meltsB a [] = false := by
  unfold meltsB
  rw [List.append_nil, List.any_eq_false]
  intro x hx
  have := signs_at a x hx
  simp [overSeam]
  omega
theorem melts_left (b : List UInt8) : meltsB [] b = false := by
  unfold meltsB
  rw [List.any_eq_false]
  intro x hx
  simp [overSeam]
theorem eq_cellsS (s z : U.Sg) (w : World) : (Op.equalIn 10000 40 (.agg #[.int .i64 (s.at_ : Int), .int .i64 (s.len : Int), .int .i32 (s.rune : Int), .bool s.bad]) (.agg #[.int .i64 (z.at_ : Int), .int .i64 (z.len : Int), .int .i32 (z.rune : Int), .bool z.bad])).run Tryd.prog w = .ok (decide (s = z)) w := by
  have e : decide (s = z) = (((s.at_ : Int) == (z.at_ : Int)) && ((s.len : Int) == (z.len : Int)) && ((s.rune : Int) == (z.rune : Int)) && (s.bad == z.bad)) := by
    rw [Bool.eq_iff_iff]
    cases s; cases z
    simp only [U.Sg.mk.injEq, decide_eq_true_eq, Bool.and_eq_true, beq_iff_eq, Int.natCast_inj, and_assoc]
  rw [e]
  obtain ⟨a, ha⟩ : ∃ a, ((s.at_ : Int) == (z.at_ : Int)) = a := ⟨_, rfl⟩
  obtain ⟨b, hb⟩ : ∃ a, ((s.len : Int) == (z.len : Int)) = a := ⟨_, rfl⟩
  obtain ⟨c, hc⟩ : ∃ a, ((s.rune : Int) == (z.rune : Int)) = a := ⟨_, rfl⟩
  obtain ⟨d, hd⟩ : ∃ a, (s.bad == z.bad) = a := ⟨_, rfl⟩
  rw [ha, hb, hc, hd]
  rw [show (10000 : Nat) = 9999 + 1 from rfl, run_equalIn_agg w 9999 _ _ _ (by kernel_rfl) (by kernel_rfl)]
  have hu3 : Tryd.prog.underlying 3 = some (.int .i64) := Tryd.underlying3
  have hu4 : Tryd.prog.underlying 4 = some .bool := Tryd.underlying4
  have hu5 : Tryd.prog.underlying 21 = some (.int .i32) := Tryd.underlying21
  cases a <;> cases b <;> cases c <;> cases d <;> simp [Op.eqFields, Program.fieldsOf, Tryd.underlying40, go_sem, ha, hb, hc, hd, hu3, hu4, hu5]
end Go.Proofs.YtokbmihjpllgpaaDoor
