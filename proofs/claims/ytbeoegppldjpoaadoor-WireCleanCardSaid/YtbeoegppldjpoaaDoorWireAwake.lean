/- The example of layer 19. -/
import Derived.Test.YtbeoegppldjpoaaDoorWireBytes2
namespace Go.Proofs.YtbeoegppldjpoaaDoor
open Go.RowKit
set_option linter.unusedVariables false
set_option linter.unusedSimpArgs false

theorem awake19_bytes : wireB ⟨12, 0, ⟨#[120]⟩, ⟨#[97, 64, 98, 46, 99, 100]⟩, ⟨#[]⟩, ⟨#[]⟩, ⟨#[]⟩⟩ = ⟨#[12, 0, 1, 120, 6, 97, 64, 98, 46, 99, 100, 0, 0, 0]⟩ := by
  have h0 : numB 0 = ⟨#[0]⟩ := by rw [numB_small (by decide)]; rfl
  have h12 : numB 12 = ⟨#[12]⟩ := by rw [numB_small (by decide)]; rfl
  have h1 : numB 1 = ⟨#[1]⟩ := by rw [numB_small (by decide)]; rfl
  have h6 : numB 6 = ⟨#[6]⟩ := by rw [numB_small (by decide)]; rfl
  rw [wireB, if_pos (by decide)]
  simp only [rqB, numsB, txtsB, txtB]
  rw [show (12 : Int).toNat = 12 from rfl, show (0 : Int).toNat = 0 from rfl, show (⟨#[]⟩ : ByteArray).size = 0 from rfl, show (⟨#[120]⟩ : ByteArray).size = 1 from rfl, show (⟨#[97, 64, 98, 46, 99, 100]⟩ : ByteArray).size = 6 from rfl, h0, h12, h1, h6]
  rfl
set_option maxHeartbeats 2000000 in
set_option maxRecDepth 100000 in
theorem awake19_calls (w : World) :
    Calls Tryd.prog 5 #[] w fun e w' => e = .returned (.bool true) ∧ Fr [] w w' := by
  have h := awake19_bytes
  have hcall := fun W => WBytes_calls W 12 0 ⟨#[120]⟩ ⟨#[97, 64, 98, 46, 99, 100]⟩ ⟨#[]⟩ ⟨#[]⟩ ⟨#[]⟩ ⟨by decide, by decide, by decide, by decide, by decide⟩
  rw [h] at hcall
  have HC := Lib.hid hcall
  clear h hcall
  go_enter Tryd.func5, Tryd.ntmps5
  go_wp2_with fail
  refine (HC.out _).mono ?_
  rintro e w1 ⟨rfl, hf⟩
  go_wp2_with fail
  go_ret
  exact ⟨rfl, hf⟩

end Go.Proofs.YtbeoegppldjpoaaDoor
