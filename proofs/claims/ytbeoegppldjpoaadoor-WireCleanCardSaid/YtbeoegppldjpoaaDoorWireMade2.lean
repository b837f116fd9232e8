/- The contract of 'made' of the statements of layer 19, at any request of short texts. -/
import Derived.Test.YtbeoegppldjpoaaDoorWireMade
namespace Go.Proofs.YtbeoegppldjpoaaDoor
open Go.RowKit
set_option linter.unusedVariables false
set_option linter.unusedSimpArgs false

theorem made_calls (w : World) (k pu : Int) (so ma ot se pa : ByteArray) (hs : (Rq.mk k pu so ma ot se pa).short 1000) :
    Calls Tryd.prog 6 #[.agg #[.int .i64 k, .int .i64 pu, .string so, .string ma, .string ot, .string se, .string pa]] w fun e w' => e = .returned (rqMade ⟨k, pu, so, ma, ot, se, pa⟩).val ∧ Fr [] w w' := by
  obtain ⟨n, hn, h1, h2⟩ : ∃ n : Nat, 1 + k % 16 = (n : Int) ∧ 1 ≤ n ∧ n ≤ 16 := ⟨(1 + k % 16).toNat, by omega, by omega, by omega⟩
  revert hn
  match n, h1, h2 with
  | 1, _, _ => exact fun hn => made_0 w k pu so ma ot se pa hs (by rw [hn]; rfl)
  | 2, _, _ => exact fun hn => made_1 w k pu so ma ot se pa hs (by rw [hn]; rfl)
  | 3, _, _ => exact fun hn => made_2 w k pu so ma ot se pa hs (by rw [hn]; rfl)
  | 4, _, _ => exact fun hn => made_1 w k pu so ma ot se pa hs (by rw [hn]; rfl)
  | 5, _, _ => exact fun hn => made_1 w k pu so ma ot se pa hs (by rw [hn]; rfl)
  | 6, _, _ => exact fun hn => made_3 w k pu so ma ot se pa hs (by rw [hn]; rfl)
  | 7, _, _ => exact fun hn => made_0 w k pu so ma ot se pa hs (by rw [hn]; rfl)
  | 8, _, _ => exact fun hn => made_4 w k pu so ma ot se pa hs (by rw [hn]; rfl)
  | 9, _, _ => exact fun hn => made_5 w k pu so ma ot se pa hs (by rw [hn]; rfl)
  | 10, _, _ => exact fun hn => made_6 w k pu so ma ot se pa hs (by rw [hn]; rfl)
  | 11, _, _ => exact fun hn => made_4 w k pu so ma ot se pa hs (by rw [hn]; rfl)
  | 12, _, _ => exact fun hn => made_7 w k pu so ma ot se pa hs (by rw [hn]; rfl)
  | 13, _, _ => exact fun hn => made_5 w k pu so ma ot se pa hs (by rw [hn]; rfl)
  | 14, _, _ => exact fun hn => made_8 w k pu so ma ot se pa hs (by rw [hn]; rfl)
  | 15, _, _ => exact fun hn => made_0 w k pu so ma ot se pa hs (by rw [hn]; rfl)
  | 16, _, _ => exact fun hn => made_8 w k pu so ma ot se pa hs (by rw [hn]; rfl)
  | _ + 17, _, h2 => exact absurd h2 (by omega)
end Go.Proofs.YtbeoegppldjpoaaDoor
