/- A row of texts that a call makes itself: one text is appended. -/
import Derived.Test.YtbeoegppldjpoaaProg
import Derived.Test.YtbeoegppldjpoaaRows2
namespace Go.Proofs.Ytbeoegppldjpoaa
open Go.RowKit
set_option linter.unusedVariables false
set_option linter.unusedSimpArgs false
theorem infoString : (Try.prog.info? 9).map (fun i => (i.zero, i.size, i.bytes)) = some (some (.string ⟨#[]⟩), 1, 16) := by kernel_rfl

end Go.Proofs.Ytbeoegppldjpoaa
