/- The law's 'all': the clusters that cell.Clusters tells, in a slice. -/
import Derived.Test.YtclblidfamabdaaCellK
import Derived.Deep.AppendLies
set_option linter.unusedVariables false
set_option linter.unusedSimpArgs false
namespace Go.Proofs.Ytclblidfamabdaa
open Go.RowKit Go.Shelf Go.Lib Go.BigFrame
attribute [local go_sem] Oper.semAt_some

def cellsC (l : List C.Cl) : List Value := l.flatMap cellC
theorem cellsC_snoc (l : List C.Cl) (x : C.Cl) : cellsC (l ++ [x]) = cellsC l ++ cellC x := by simp [cellsC]
theorem Try.infoCl : (Try.prog.info? 75).map (fun i => (i.zero, i.size, i.bytes)) = some (some (.agg #[.int .i64 0, .int .i64 0, .int .i64 0, .int .i64 0, .int .i64 0]), 5, 40) := by kernel_rfl

end Go.Proofs.Ytclblidfamabdaa
