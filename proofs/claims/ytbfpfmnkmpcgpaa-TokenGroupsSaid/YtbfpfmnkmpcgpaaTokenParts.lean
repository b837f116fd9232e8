/- The law TokenParts: for any two texts the Go function returns true (its walk). -/
import Derived.Test.YtbfpfmnkmpcgpaaEnc2
import Derived.Test.YtbfpfmnkmpcgpaaShort08
namespace Go.Proofs.Ytbfpfmnkmpcgpaa
open Go.RowKit
set_option linter.unusedVariables false
set_option linter.unusedSimpArgs false

theorem enc_foobar : encB ⟨#[102, 111, 111, 98, 97, 114]⟩ = ⟨#[109, 122, 120, 119, 54, 121, 116, 98, 111, 105]⟩ := by
  simp only [encB, encL]
  simp (decide := true) [encL, emitL_step, emitL_end, digC, digs]

set_option maxHeartbeats 400000 in
set_option maxRecDepth 100000 in
theorem awake08_calls (w : World) :
    Calls Try.prog 8 #[] w fun e w' => e = .returned (.bool true) ∧ Fr [] w w' := by
  go_enter Try.func8, Try.ntmps8
  go_wp2_with fail
  (with_reducible refine (Encode_calls _ _ (by decide)).mono ?_)
  rintro e w1 ⟨rfl, hf⟩
  rw [enc_foobar]
  go_wp2_with fail
  go_ret
  exact ⟨rfl, hf⟩

set_option maxHeartbeats 2000000 in
set_option maxRecDepth 100000 in
theorem TokenParts_walk (w : World) (a : ByteArray) (ha : a.size ≤ 140737488351232) (b : ByteArray) (hb : b.size ≤ 140737488351232) :
    Calls Try.prog 3 #[.string a, .string b] w fun e w' => e = .returned (.bool true) ∧ Fr [] w w' := by
  have hx := shortB_size a 40
  have hy := shortB_size b 40
  go_enter Try.func3, Try.ntmps3
  go_wp2_with fail
  (with_reducible refine (awake08_calls _).mono ?_)
  rintro e w1 ⟨rfl, hf1⟩
  go_wp2_with fail
  (with_reducible refine (short08_calls a 40 40 rfl _ (by omega) (by omega)).mono ?_)
  rintro e w2 ⟨rfl, rfl⟩
  generalize shortB a 40 = x at hx ⊢
  have hq5 : x.size / 5 * 5 ≤ x.size := by omega
  go_wp2_with fail
  have hz : (x.extract 0 (x.size / 5 * 5)).size = x.size / 5 * 5 := by rw [ByteArray.size_extract]; omega
  (with_reducible refine (short08_calls b 40 40 rfl _ (by omega) (by omega)).mono ?_)
  rintro e w2 ⟨rfl, rfl⟩
  generalize shortB b 40 = y at hy ⊢
  generalize x.extract 0 (x.size / 5 * 5) = z at hz ⊢
  have hz40 : z.size ≤ 40 := by omega
  have hz5 : z.size % 5 = 0 := by omega
  clear hz hx hq5 ha hb
  have HE := Lib.hid (encB_app z y hz5)
  have hzl : (encB z).size = z.size / 5 * 8 := by rw [encB_size]; omega
  have hyl := encB_size y
  have hsum : (z ++ y).size = z.size + y.size := ByteArray.size_append
  go_wp2_with fail
  (with_reducible refine (Encode_calls _ _ (by omega)).mono ?_)
  rintro e w2 ⟨rfl, hf2⟩
  have hF2 := hf1.then hf2
  go_wp2_with fail
  (with_reducible refine (Encode_calls _ _ (by omega)).mono ?_)
  rintro e w3 ⟨rfl, hf3⟩
  have hF3 := hF2.then hf3
  go_wp2_with fail
  (with_reducible refine (Encode_calls _ _ (by omega)).mono ?_)
  rintro e w4 ⟨rfl, hf4⟩
  have hF4 := hF3.then hf4
  clear hF2 hF3 hf1 hf2 hf3 hf4 hsum
  have hs2 : ¬ 9223372036854775807 < (encB z).size + (encB y).size := by omega
  have he : ((encB (z ++ y)).toList == (encB z ++ encB y).toList) = true := beq_iff_eq.2 (congrArg _ HE.out)
  go_wp2_with fail
  (with_reducible refine (Encode_calls _ _ (by omega)).mono ?_)
  rintro e w5 ⟨rfl, hf5⟩
  have hF5 := hF4.then hf5
  have hb : (((encB z).size : Int) == (z.size : Int) / 5 * 8) = true := beq_iff_eq.2 (by omega)
  go_wp2_with fail
  go_ret
  exact ⟨rfl, hF5⟩

end Go.Proofs.Ytbfpfmnkmpcgpaa
