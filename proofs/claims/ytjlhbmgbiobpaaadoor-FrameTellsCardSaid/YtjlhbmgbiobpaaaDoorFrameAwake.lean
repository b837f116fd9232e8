/- The chapter's example of layer 4. -/
import Derived.Test.YtjlhbmgbiobpaaaDoorFrame
namespace Go.Proofs.YtjlhbmgbiobpaaaDoor
open Go.RowKit
set_option linter.unusedVariables false
set_option linter.unusedSimpArgs false

theorem wrap_a : wrapB ⟨#[97]⟩ = ⟨#[165, 1, 0, 67, 190, 183, 232, 97, 90]⟩ := by decide +kernel

set_option maxHeartbeats 400000 in
set_option maxRecDepth 100000 in
theorem awake04_calls (w : World) :
    Calls Tryd.prog 5 #[] w fun e w' => e = .returned (.bool true) ∧ Fr [] w w' := by
  go_enter Tryd.func5, Tryd.ntmps5
  go_wp2_with fail
  (with_reducible refine (Wrap_calls _ _ (by decide)).mono ?_)
  rintro e w1 ⟨rfl, hf⟩
  rw [wrap_a]
  go_wp2_with fail
  go_ret
  exact ⟨rfl, hf⟩

end Go.Proofs.YtjlhbmgbiobpaaaDoor
