/- The contract of wire.Read: what is read. -/
import Derived.Test.YtbeoegppldjpoaaDoorWireRead
namespace Go.Proofs.YtbeoegppldjpoaaDoor
open Go.RowKit
set_option linter.unusedVariables false
set_option linter.unusedSimpArgs false

end Go.Proofs.YtbeoegppldjpoaaDoor
