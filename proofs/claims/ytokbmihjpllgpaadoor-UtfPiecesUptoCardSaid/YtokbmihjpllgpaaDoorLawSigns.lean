/- The law of the signs. -/
import Derived.Test.YtokbmihjpllgpaaDoorHead
set_option linter.unusedVariables false
namespace Go.Proofs.YtokbmihjpllgpaaDoor
open Go.RowKit Go.Shelf Go.Lib Go.BigFrame
attribute [local go_sem] Oper.semAt_some

theorem bst {w a b : World} (h : Below w.heap.size w a) (k : Below a.heap.size a b) : Below w.heap.size w b := h.trans (k.mono h.size)

end Go.Proofs.YtokbmihjpllgpaaDoor
