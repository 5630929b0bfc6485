/- The law of the places. -/
import Derived.Test.YtokbmihjpllgpaaDoorPlaceR
set_option linter.unusedVariables false
namespace Go.Proofs.YtokbmihjpllgpaaDoor
open Go.RowKit Go.Shelf Go.Lib Go.BigFrame
end Go.Proofs.YtokbmihjpllgpaaDoor
