/- ref.one: the ways behind a right second byte. -/
import Derived.Test.YtokbmihjpllgpaaDoorOne
set_option linter.unusedVariables false
namespace Go.Proofs.YtokbmihjpllgpaaDoor
end Go.Proofs.YtokbmihjpllgpaaDoor
