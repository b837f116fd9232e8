/- The law ShaTells: for any texts the Go function returns true (its walk). -/
import Derived.Test.YtlcfambhjclkiaaShaDHex
import Derived.Test.YtlcfambhjclkiaaShort06
namespace Go.Proofs.Ytlcfambhjclkiaa
open Go.RowKit
set_option linter.unusedVariables false
set_option linter.unusedSimpArgs false

set_option maxHeartbeats 4000000 in
set_option maxRecDepth 100000 in
theorem ShaTells_walk (w : World) (a : ByteArray) (ha : a.size ≤ 140737488351232) (b : ByteArray) (hb : b.size ≤ 140737488351232) :
    Calls Try.prog 3 #[.string a, .string b] w fun e w' => e = .returned (.bool true) ∧ Fr [] w w' := by
  have hsa := fun W => short06_calls a 150 150 rfl W (by omega) (by decide)
  have h1 := shortB_size a 150
  generalize shortB a 150 = x at hsa h1
  have hsb := fun W => short06_calls b 150 150 rfl W (by omega) (by decide)
  have h2 := shortB_size b 150
  generalize shortB b 150 = y at hsb h2
  have hL : (x ++ y).size = x.size + y.size := ByteArray.size_append
  have hs1 := fun W b (h : W.heap[b]? = some (.cells #[.string x] 9 (0, 0))) => Sum1 W b x h (by omega)
  have hs2 := fun W b (h : W.heap[b]? = some (.cells #[.string x, .string y] 9 (0, 0))) => Sum2 W b x y h (by omega)
  have hd1 := fun W => DSum_calls W x (by omega)
  have hd2 := fun W => DSum_calls W (x ++ y) (by omega)
  have hh1 := fun W => Hex_calls W x (by omega)
  have hh2 := fun W => DHex_calls W x (by omega)
  generalize shaSum x = d1 at hs1 hd1
  generalize shaSum (x ++ y) = d2 at hs2 hd2
  generalize hexB x = d3 at hh1 hh2
  have HS := Lib.hid (And.intro hs1 (And.intro hs2 (And.intro hd1 (And.intro hd2 (And.intro hh1 hh2)))))
  have hsum : x.size + y.size ≤ 9223372036854775807 := by omega
  clear hs1 hs2 hd1 hd2 hh1 hh2 hL ha hb
  go_enter Try.func3, Try.ntmps3
  go_wp2_with fail
  (with_reducible refine (awake06_calls _).mono ?_)
  rintro e w1 ⟨rfl, hf1⟩
  have HF1 := Lib.hid hf1
  clear hf1
  go_wp2_with fail
  (with_reducible refine (hsa _).mono ?_)
  rintro e w2 ⟨rfl, rfl⟩
  clear hsa
  go_wp2_with fail
  (with_reducible refine (hsb _).mono ?_)
  rintro e w2 ⟨rfl, rfl⟩
  clear hsb
  go_wp2_with fail
  (with_reducible refine (HS.out.1 _ _ (heap_alloc_new _ _)).mono ?_)
  rintro e w3 ⟨rfl, hf3⟩
  have HF3 := Lib.hid ((HF1.out.alloc _).then hf3)
  clear hf3 HF1
  go_wp2_with fail
  (with_reducible refine (HS.out.2.2.1 _).mono ?_)
  rintro e w4 ⟨rfl, hf4⟩
  have HF4 := Lib.hid (HF3.out.then hf4)
  clear hf4 HF3
  go_wp2_with fail
  (with_reducible refine (HS.out.2.1 _ _ (heap_alloc_new _ _)).mono ?_)
  rintro e w5 ⟨rfl, hf5⟩
  have HF5 := Lib.hid ((HF4.out.alloc _).then hf5)
  clear hf5 HF4
  go_wp2_with fail
  (with_reducible refine (HS.out.2.2.2.1 _).mono ?_)
  rintro e w6 ⟨rfl, hf6⟩
  have HF6 := Lib.hid (HF5.out.then hf6)
  clear hf6 HF5
  go_wp2_with fail
  (with_reducible refine (HS.out.2.2.2.2.1 _).mono ?_)
  rintro e w7 ⟨rfl, hf7⟩
  have HF7 := Lib.hid (HF6.out.then hf7)
  clear hf7 HF6
  go_wp2_with fail
  (with_reducible refine (HS.out.2.2.2.2.2 _).mono ?_)
  rintro e w8 ⟨rfl, hf8⟩
  have HF8 := Lib.hid (HF7.out.then hf8)
  clear hf8 HF7
  go_wp2_with fail
  go_ret
  exact ⟨rfl, HF8.out⟩
end Go.Proofs.Ytlcfambhjclkiaa
