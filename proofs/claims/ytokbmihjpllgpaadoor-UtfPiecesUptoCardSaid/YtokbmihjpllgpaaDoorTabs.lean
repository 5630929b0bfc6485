/- Go's two tables, out of what a row lists. -/
import Derived.Test.YtokbmihjpllgpaaDoorFront
import Derived.Test.YtokbmihjpllgpaaDoorRows
import Derived.Lib.LaidU8
set_option linter.unusedVariables false
namespace Go.Proofs.YtokbmihjpllgpaaDoor
open Go.RowKit Go.Shelf Go.Lib

theorem first_data : Go.Pinned.utf8First = tabData .u8 ((List.range 256).map fun b => (U.FF b : Int)) := by kernel_rfl
theorem gFirst : Tryd.prog.globalNamed "unicode/utf8.first" = some 0 := by kernel_rfl
theorem gAcc : Tryd.prog.globalNamed "unicode/utf8.acceptRanges" = some 1 := by kernel_rfl
theorem gFirstT : (Tryd.prog.globals[0]?).map (·.type) = some 67 := by kernel_rfl
theorem gAccT : (Tryd.prog.globals[1]?).map (·.type) = some 70 := by kernel_rfl
theorem c256 : Tryd.prog.cellsOf 67 = 256 := by kernel_rfl
theorem c2 : Tryd.prog.cellsOf 69 = 2 := by kernel_rfl
theorem c1 : Tryd.prog.cellsOf 5 = 1 := by kernel_rfl

theorem tabs_of_reads {W : World} (h0 : VarReads Tryd.prog W "unicode/utf8.first" Go.Pinned.utf8First) (h1 : VarReads Tryd.prog W "unicode/utf8.acceptRanges" Rows.laid_unicode_utf8_acceptRanges) : Tabs W := by
  have first : ∀ b : Nat, b < 256 → W.cell? ⟨0, b, none⟩ = some (.int .u8 (U.FF b : Int)) := by
    obtain ⟨g, t, cs, fuel, p, hg, hty, hvar, hd⟩ := h0
    obtain rfl := Option.some.inj (gFirst.symm.trans hg)
    obtain rfl := Option.some.inj (gFirstT.symm.trans hty)
    rw [first_data] at hd
    have hc := cells_of_tab Tryd.underlying67 Tryd.underlying5 c1 c256 hd
    intro b hb
    rw [World.var?_cell hg hvar b, ← Array.getElem?_toList, hc]
    simp [hb]
  obtain ⟨g, t, cs, fuel, p, hg, hty, hvar, hd⟩ := h1
  obtain rfl := Option.some.inj (gAcc.symm.trans hg)
  obtain rfl := Option.some.inj (gAccT.symm.trans hty)
  have key : ∀ (i : Nat) (lo hi : Int), i < 16 → (match (Rows.laid_unicode_utf8_acceptRanges : DataW Unit) with | .agg l => l[i]? | _ => none) = some (.agg ([lo, hi].map fun z => .lit (.int .u8 z))) →
      W.cell? ⟨1, i * 2, none⟩ = some (.int .u8 lo) ∧ W.cell? ⟨1, i * 2 + 1, none⟩ = some (.int .u8 hi) := by
    intro i lo hi hi16 hdat
    obtain ⟨fuel', d, q, h2, h3⟩ := array_elem Tryd.underlying70 hd i hi16
    rw [show (match (Rows.laid_unicode_utf8_acceptRanges : DataW Unit) with | .agg l => l[i]? | _ => none) = some d from h2] at hdat
    cases hdat
    rw [c2] at h3
    have hc := ints_of_struct (k := .u8) (zs := [lo, hi]) Tryd.underlying69 (fun j f hj => by
      match j, hj with
      | 0, hj => cases hj; exact ⟨Tryd.underlying5, rfl, c1⟩
      | 1, hj => cases hj; exact ⟨Tryd.underlying5, rfl, c1⟩
      | j + 2, hj => simp at hj) c2 h3
    have e0 := congrArg (·[0]?) hc
    have e1 := congrArg (·[1]?) hc
    simp only [List.getElem?_take, List.getElem?_drop] at e0 e1
    constructor
    · rw [World.var?_cell hg hvar, ← Array.getElem?_toList]
      simpa using e0
    · rw [World.var?_cell hg hvar, ← Array.getElem?_toList]
      simpa using e1
  have k0 := key 0 128 191 (by omega) rfl
  have k1 := key 1 160 191 (by omega) rfl
  have k2 := key 2 128 159 (by omega) rfl
  have k3 := key 3 144 191 (by omega) rfl
  have k4 := key 4 128 143 (by omega) rfl
  exact ⟨first, k0.1, k0.2, k1.1, k1.2, k2.1, k2.2, k3.1, k3.2, k4.1, k4.2⟩
end Go.Proofs.YtokbmihjpllgpaaDoor
