/- strings.Builder: the shelf's contracts, laid at this program. -/
import Derived.Test.YtclblidfamabdaaBdMi
import Derived.Shelf.Strings.BuilderRune
set_option linter.unusedVariables false
namespace Go.Proofs.Ytclblidfamabdaa
open Go.Shelf Go.RowKit
def layB_ren : Go.Shelf.Ren := ⟨fun | 168 => 48 | 169 => 49 | 240 => 72 | 242 => 73 | 276 => 91 | 278 => 92 | n => n, fun | 0 => 0 | 3 => 3 | 4 => 4 | 5 => 5 | 9 => 9 | 20 => 20 | 21 => 21 | 37 => 77 | 46 => 118 | 51 => 116 | 70 => 76 | 72 => 79 | 75 => 81 | 80 => 46 | 127 => 99 | 164 => 114 | n => n, fun | n => n⟩
theorem layWr : Lays.n168 Try.prog layB_ren where
  mixed := by kernel_rfl
  f168 := Try.func48.trans (congrArg some (by kernel_rfl))
  f240 := Try.func72.trans (congrArg some (by kernel_rfl))
  f242 := Try.func73.trans (congrArg some (by kernel_rfl))
  f276 := Try.func91.trans (congrArg some (by kernel_rfl))
  f278 := Try.func92.trans (congrArg some (by kernel_rfl))
  t0 := Try.underlying0
  a0 := Try.isAgg0
  z0 := Try.sizeOf0
  v0 := Try.zeroValue0
  t3 := Try.underlying3
  a3 := Try.isAgg3
  z3 := Try.sizeOf3
  v3 := Try.zeroValue3
  t4 := Try.underlying4
  a4 := Try.isAgg4
  z4 := Try.sizeOf4
  v4 := Try.zeroValue4
  t5 := Try.underlying5
  a5 := Try.isAgg5
  z5 := Try.sizeOf5
  v5 := Try.zeroValue5
  t9 := Try.underlying9
  a9 := Try.isAgg9
  z9 := Try.sizeOf9
  v9 := Try.zeroValue9
  t20 := Try.underlying20
  a20 := Try.isAgg20
  z20 := Try.sizeOf20
  v20 := Try.zeroValue20
  t21 := Try.underlying21
  a21 := Try.isAgg21
  z21 := Try.sizeOf21
  v21 := Try.zeroValue21
  t37 := Try.underlying77
  a37 := Try.isAgg77
  z37 := Try.sizeOf77
  v37 := Try.zeroValue77
  t46 := Try.underlying118
  a46 := Try.isAgg118
  z46 := Try.sizeOf118
  v46 := Try.zeroValue118
  t51 := Try.underlying116
  a51 := Try.isAgg116
  z51 := Try.sizeOf116
  v51 := Try.zeroValue116
  t70 := Try.underlying76
  a70 := Try.isAgg76
  z70 := Try.sizeOf76
  v70 := Try.zeroValue76
  t72 := Try.underlying79
  a72 := Try.isAgg79
  z72 := Try.sizeOf79
  v72 := Try.zeroValue79
  t75 := Try.underlying81
  a75 := Try.isAgg81
  z75 := Try.sizeOf81
  v75 := Try.zeroValue81
  t164 := Try.underlying114
  a164 := Try.isAgg114
  z164 := Try.sizeOf114
  v164 := Try.zeroValue114
theorem layStr : Lays.n169 Try.prog layB_ren where
  mixed := by kernel_rfl
  f169 := Try.func49.trans (congrArg some (by kernel_rfl))
  t0 := Try.underlying0
  a0 := Try.isAgg0
  z0 := Try.sizeOf0
  v0 := Try.zeroValue0
  t3 := Try.underlying3
  a3 := Try.isAgg3
  z3 := Try.sizeOf3
  v3 := Try.zeroValue3
  t9 := Try.underlying9
  a9 := Try.isAgg9
  z9 := Try.sizeOf9
  v9 := Try.zeroValue9
  t37 := Try.underlying77
  a37 := Try.isAgg77
  z37 := Try.sizeOf77
  v37 := Try.zeroValue77
  t70 := Try.underlying76
  a70 := Try.isAgg76
  z70 := Try.sizeOf76
  v70 := Try.zeroValue76
  t72 := Try.underlying79
  a72 := Try.isAgg79
  z72 := Try.sizeOf79
  v72 := Try.zeroValue79
  t127 := Try.underlying99
  a127 := Try.isAgg99
  z127 := Try.sizeOf99
  v127 := Try.zeroValue99
theorem extraB : Builder.Extra Try.prog layB_ren where
  sizeBuilder := by kernel_rfl
  liesBuilder := by kernel_rfl
  t5 := layWr.t5
  a5 := layWr.a5
  z5 := layWr.z5
  v5 := layWr.v5
  infoByte := by kernel_rfl
  cellsByte := by kernel_rfl
  sizeByte := by kernel_rfl
  neB5 := by decide
/-- A builder that holds these bytes. -/
def Bld (B b : Nat) (l : List UInt8) (w : World) : Prop := Lib.IsBuilderF 79 5 B b (Lib.byteCells l) w
theorem writeRune_any (B b : Nat) (l : List UInt8) (r : Int) (hr0 : -2147483648 ≤ r) (hr1 : r ≤ 2147483647) (w : World) (h : Bld B b l w) (hlen : l.length + 4 ≤ 140737488355328) (hB : B ≤ w.heap.size) :
    Calls Try.prog 48 #[.pointer (some ⟨b, 0, none⟩), .int .i32 r] w fun e w' => (∃ v, e = .returned v) ∧ Bld B b (l ++ Lib.encodeRune r) w' ∧ Below B w w' ∧ Lib.OthersKept 5 (some b) w w' := by
  have h1 := Any.Builder_WriteRune_k layWr extraB B b (Lib.byteCells l) r hr0 hr1 w h (by simp [Lib.byteCells]; omega) hB
  refine Calls.mono h1 ?_
  rintro e w' ⟨rfl, h2, h3, h4⟩
  refine ⟨⟨_, rfl⟩, ?_, h3, h4⟩
  have h5 : Lib.BuilderAtF 79 5 B b (.pointer (some ⟨b, 0, none⟩)) (Lib.byteCells (l ++ Lib.encodeRune r)) w' := by
    rw [show Lib.byteCells (l ++ Lib.encodeRune r) = Lib.byteCells l ++ Lib.runeCells r by rw [← Lib.byteCells_encodeRune]; simp [Lib.byteCells]]
    exact h2
  exact .inr h5
theorem bldStr_any (B b : Nat) (l : List UInt8) (w : World) (h : Bld B b l w) (hB : B ≤ w.heap.size) :
    Calls Try.prog 49 #[.pointer (some ⟨b, 0, none⟩)] w fun e w' => e = .returned (.string ⟨l.toArray⟩) ∧ Below B w w' := by
  refine Calls.mono (Any.Builder_String_any_k layStr extraB B b l w h hB) ?_
  rintro e w' ⟨rfl, _, h3, _⟩
  exact ⟨rfl, h3⟩
end Go.Proofs.Ytclblidfamabdaa
