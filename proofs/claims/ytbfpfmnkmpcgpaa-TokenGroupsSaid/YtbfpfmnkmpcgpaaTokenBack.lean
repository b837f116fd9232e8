/- The law TokenBack: for any text the Go function returns true (its walk). -/
import Derived.Test.YtbfpfmnkmpcgpaaDec
import Derived.Test.YtbfpfmnkmpcgpaaTokenParts
namespace Go.Proofs.Ytbfpfmnkmpcgpaa
open Go.RowKit
set_option linter.unusedVariables false
set_option linter.unusedSimpArgs false

theorem Decode_enc (w : World) (s : ByteArray) (hs : (encB s).size ≤ 1000000) :
    Calls Try.prog 11 #[.string (encB s)] w fun e w' => e = .returned (.tuple #[.string s, .bool true]) ∧ Fr [] w w' := by
  have := Decode_calls w (encB s) hs
  rw [decB_enc] at this
  exact this
set_option maxHeartbeats 2000000 in
set_option maxRecDepth 100000 in
theorem TokenBack_walk (w : World) (s : ByteArray) (hs : s.size ≤ 140737488351232) :
    Calls Try.prog 4 #[.string s] w fun e w' => e = .returned (.bool true) ∧ Fr [] w w' := by
  have hsh := fun W => short08_calls s 60 60 rfl W (by omega) (by decide)
  have h60 := shortB_size s 60
  generalize shortB s 60 = x at hsh h60
  have hz := encB_size x
  have hE := fun W => Encode_calls W x (by omega)
  have hD := fun W => Decode_enc W x (by omega)
  generalize encB x = d at hz hE hD
  have HC := Lib.hid (And.intro hE hD)
  have hq : ((d.size : Int) == (8 * (x.size : Int) + 4) / 5) = true := beq_iff_eq.2 (by omega)
  clear hE hD hz hs
  go_enter Try.func4, Try.ntmps4
  go_wp2_with fail
  (with_reducible refine (awake08_calls _).mono ?_)
  rintro e w1 ⟨rfl, hf1⟩
  have HF1 := Lib.hid hf1
  clear hf1
  go_wp2_with fail
  (with_reducible refine (hsh _).mono ?_)
  rintro e w2 ⟨rfl, rfl⟩
  clear hsh
  go_wp2_with fail
  (with_reducible refine (HC.out.1 _).mono ?_)
  rintro e w3 ⟨rfl, hf3⟩
  have HF3 := Lib.hid (HF1.out.then hf3)
  clear hf3 HF1
  go_wp2_with fail
  (with_reducible refine (HC.out.2 _).mono ?_)
  rintro e w4 ⟨rfl, hf4⟩
  have HF4 := Lib.hid (HF3.out.then hf4)
  clear hf4 HF3
  go_wp2_with fail
  go_ret
  exact ⟨rfl, HF4.out⟩
end Go.Proofs.Ytbfpfmnkmpcgpaa
