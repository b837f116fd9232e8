/- awake, for seats without TokenParts. -/
import Derived.Test.YtbfpfmnkmpcgpaaDoorEnc2
import Derived.Test.YtbfpfmnkmpcgpaaDoorShort08
namespace Go.Proofs.YtbfpfmnkmpcgpaaDoor
open Go.RowKit
set_option linter.unusedVariables false
set_option linter.unusedSimpArgs false

theorem enc_foobar : encB ⟨#[102, 111, 111, 98, 97, 114]⟩ = ⟨#[109, 122, 120, 119, 54, 121, 116, 98, 111, 105]⟩ := by
  simp only [encB, encL]
  simp (decide := true) [encL, emitL_step, emitL_end, digC, digs]

set_option maxHeartbeats 400000 in
set_option maxRecDepth 100000 in
theorem awake08_calls (w : World) :
    Calls Tryd.prog 5 #[] w fun e w' => e = .returned (.bool true) ∧ Fr [] w w' := by
  go_enter Tryd.func5, Tryd.ntmps5
  go_wp2_with fail
  (with_reducible refine (Encode_calls _ _ (by decide)).mono ?_)
  rintro e w1 ⟨rfl, hf⟩
  rw [enc_foobar]
  go_wp2_with fail
  go_ret
  exact ⟨rfl, hf⟩

end Go.Proofs.YtbfpfmnkmpcgpaaDoor
