/- The law MacTells: for any key and texts the Go function returns true (its walk). -/
import Derived.Test.YtlcfambhjclkiaaDMac
import Derived.Test.YtlcfambhjclkiaaMacNil
namespace Go.Proofs.Ytlcfambhjclkiaa
open Go.RowKit
set_option linter.unusedVariables false
set_option linter.unusedSimpArgs false

set_option maxHeartbeats 4000000 in
set_option maxRecDepth 100000 in
theorem MacTells_walk (w : World) (key : ByteArray) (hkey : key.size ≤ 140737488351232) (a : ByteArray) (ha : a.size ≤ 140737488351232) (b : ByteArray) (hb : b.size ≤ 140737488351232) :
    Calls Try.prog 9 #[.string key, .string a, .string b] w fun e w' => e = .returned (.bool true) ∧ Fr [] w w' := by
  have hsk := fun W => short07_calls key 150 150 rfl W (by omega) (by decide)
  have h0 := shortB_size key 150
  generalize shortB key 150 = k at hsk h0
  have hsa := fun W => short07_calls a 100 100 rfl W (by omega) (by decide)
  have h1 := shortB_size a 100
  generalize shortB a 100 = x at hsa h1
  have hsb := fun W => short07_calls b 100 100 rfl W (by omega) (by decide)
  have h2 := shortB_size b 100
  generalize shortB b 100 = y at hsb h2
  have hL : (x ++ y).size = x.size + y.size := ByteArray.size_append
  have hm1 := fun W b (h : W.heap[b]? = some (.cells #[.string x] 9 (0, 0))) => Mac1 W b k x (by omega) (by omega) h
  have hm2 := fun W b (h : W.heap[b]? = some (.cells #[.string x, .string y] 9 (0, 0))) => Mac2 W b k x y (by omega) (by omega) h
  have hm0 := fun W => Mac0 W k (by omega)
  have hd1 := fun W => DMac_calls W k x (by omega) (by omega)
  have hd2 := fun W => DMac_calls W k (x ++ y) (by omega) (by omega)
  have hd0 := fun W => DMac_calls W k ⟨#[]⟩ (by omega) (by decide)
  generalize macB k x = d1 at hm1 hd1
  generalize macB k (x ++ y) = d2 at hm2 hd2
  generalize macB k ⟨#[]⟩ = d0 at hm0 hd0
  have HM := Lib.hid (And.intro hm1 (And.intro hm2 (And.intro hm0 (And.intro hd1 (And.intro hd2 hd0)))))
  have hsum : x.size + y.size ≤ 9223372036854775807 := by omega
  clear hm1 hm2 hm0 hd1 hd2 hd0 hL ha hb hkey
  go_enter Try.func9, Try.ntmps9
  go_wp2_with fail
  (with_reducible refine (awake07_calls _).mono ?_)
  rintro e w1 ⟨rfl, hf1⟩
  have HF1 := Lib.hid hf1
  clear hf1
  go_wp2_with fail
  (with_reducible refine (hsk _).mono ?_)
  rintro e w2 ⟨rfl, rfl⟩
  clear hsk
  go_wp2_with fail
  (with_reducible refine (hsa _).mono ?_)
  rintro e w2 ⟨rfl, rfl⟩
  clear hsa
  go_wp2_with fail
  (with_reducible refine (hsb _).mono ?_)
  rintro e w2 ⟨rfl, rfl⟩
  clear hsb
  go_wp2_with fail
  (with_reducible refine (HM.out.1 _ _ (heap_alloc_new _ _)).mono ?_)
  rintro e w3 ⟨rfl, hf3⟩
  have HF3 := Lib.hid ((HF1.out.alloc _).then hf3)
  clear hf3 HF1
  go_wp2_with fail
  (with_reducible refine (HM.out.2.2.2.1 _).mono ?_)
  rintro e w4 ⟨rfl, hf4⟩
  have HF4 := Lib.hid (HF3.out.then hf4)
  clear hf4 HF3
  go_wp2_with fail
  (with_reducible refine (HM.out.2.1 _ _ (heap_alloc_new _ _)).mono ?_)
  rintro e w5 ⟨rfl, hf5⟩
  have HF5 := Lib.hid ((HF4.out.alloc _).then hf5)
  clear hf5 HF4
  go_wp2_with fail
  (with_reducible refine (HM.out.2.2.2.2.1 _).mono ?_)
  rintro e w6 ⟨rfl, hf6⟩
  have HF6 := Lib.hid (HF5.out.then hf6)
  clear hf6 HF5
  go_wp2_with fail
  (with_reducible refine (HM.out.2.2.1 _).mono ?_)
  rintro e w7 ⟨rfl, hf7⟩
  have HF7 := Lib.hid (HF6.out.then hf7)
  clear hf7 HF6
  go_wp2_with fail
  (with_reducible refine (HM.out.2.2.2.2.2 _).mono ?_)
  rintro e w8 ⟨rfl, hf8⟩
  have HF8 := Lib.hid (HF7.out.then hf8)
  clear hf8 HF7
  go_wp2_with fail
  go_ret
  exact ⟨rfl, HF8.out⟩
end Go.Proofs.Ytlcfambhjclkiaa
