/- A row of texts that a call makes itself: one text is appended. -/
import Derived.Test.YtbeoegppldjpoaaDoorProg
import Derived.Test.YtbeoegppldjpoaaDoorRows2
namespace Go.Proofs.YtbeoegppldjpoaaDoor
open Go.RowKit
set_option linter.unusedVariables false
set_option linter.unusedSimpArgs false
theorem infoString : (Tryd.prog.info? 9).map (fun i => (i.zero, i.size, i.bytes)) = some (some (.string ⟨#[]⟩), 1, 16) := by kernel_rfl

end Go.Proofs.YtbeoegppldjpoaaDoor
