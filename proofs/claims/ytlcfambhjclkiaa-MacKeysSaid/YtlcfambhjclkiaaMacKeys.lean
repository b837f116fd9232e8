/- The law MacKeys: for any key and text the Go function returns true (its walk). -/
import Derived.Test.YtlcfambhjclkiaaMac2
import Derived.Test.YtlcfambhjclkiaaZeros
namespace Go.Proofs.Ytlcfambhjclkiaa
open Go.RowKit
set_option linter.unusedVariables false
set_option linter.unusedSimpArgs false

theorem macLay_zero (k : ByteArray) (h : k.size ≤ 63) : macLay (k ++ ⟨#[0]⟩) = macLay k := by
  have e1 : (k ++ ⟨#[0]⟩ : ByteArray).size = k.size + 1 := by rw [ByteArray.size_append]; rfl
  have h1 : macKey (k ++ ⟨#[0]⟩) = k ++ ⟨#[0]⟩ := if_neg (by rw [e1]; omega)
  have h2 : macKey k = k := if_neg (by omega)
  rw [macLay, macLay, h1, h2, e1, bapp_assoc, show (⟨#[0]⟩ : ByteArray) = lB [0] from rfl, lB_app, show 64 - k.size = (64 - (k.size + 1)) + 1 from by omega, List.replicate_succ]
  rfl
theorem macLay_long (k : ByteArray) (h : 64 < k.size) : macLay (shaSum k) = macLay k := by
  have h1 : macKey (shaSum k) = shaSum k := if_neg (by rw [shaSum_size]; decide)
  have h2 : macKey k = shaSum k := if_pos h
  rw [macLay, macLay, h1, h2]
theorem macB_lay {k1 k2 : ByteArray} (h : macLay k1 = macLay k2) (rest : ByteArray) : macB k1 rest = macB k2 rest := by simp only [macB, macSide, h]

set_option maxHeartbeats 4000000 in
set_option maxRecDepth 100000 in
theorem MacKeys_walk (w : World) (key : ByteArray) (hkey : key.size ≤ 140737488351232) (s : ByteArray) (hs : s.size ≤ 140737488351232) :
    Calls Try.prog 10 #[.string key, .string s] w fun e w' => e = .returned (.bool true) ∧ Fr [] w w' := by
  have hsk := fun W => short07_calls key 63 63 rfl W (by omega) (by decide)
  have h63 := shortB_size key 63
  generalize shortB key 63 = k at hsk h63
  have hss := fun W => short07_calls s 60 60 rfl W (by omega) (by decide)
  have h60 := shortB_size s 60
  generalize shortB s 60 = x at hss h60
  have hzs := zerosB_size 70
  have hmk := fun W => run_zeros W 70 (mi := 70) (by rfl) (by decide)
  have hcv : ∀ W : World, (convert 27 9 (.slice (some ⟨W.heap.size, 0, none⟩) 70 70)).run Try.prog (W.alloc (.cells (Lib.strCells (zerosB 70)).toArray 5)) = .ok (.string (zerosB 70)) (W.alloc (.cells (Lib.strCells (zerosB 70)).toArray 5)) :=
    fun W => run_toString Try.underlying27 Try.underlying5 Try.underlying9 hzs.symm (RdV.new _ _ _ rfl (by simp)) (by rintro ad ⟨⟩; rfl)
  generalize zerosB 70 = Z at hzs hmk hcv
  have hL : (k ++ Z).size = k.size + Z.size := ByteArray.size_append
  have e1 := macB_lay (macLay_zero k h63) x
  have e2 := macB_lay (macLay_long (k ++ Z) (by omega)) x
  have hm1 := fun W b h => Mac1 W b (k ++ ⟨#[0]⟩) x (by rw [ByteArray.size_append]; show _ + 1 ≤ _; omega) (by omega) h
  have hm2 := fun W b h => Mac1 W b k x (by omega) (by omega) h
  have hm3 := fun W b h => Mac1 W b (k ++ Z) x (by omega) (by omega) h
  have hm4 := fun W b h => Mac1 W b (shaSum (k ++ Z)) x (by rw [shaSum_size]; decide) (by omega) h
  have hs1 := fun W b (h : W.heap[b]? = some (.cells #[.string (k ++ Z)] 9 (0, 0))) => Sum1 W b (k ++ Z) h (by omega)
  have hD := macB_size k x
  rw [e1] at hm1
  rw [e2] at hm4
  generalize macB k x = D1 at hm1 hm2 hD
  generalize macB (k ++ Z) x = D2 at hm3 hm4
  generalize shaSum (k ++ Z) = sh at hm4 hs1
  have HM := Lib.hid (And.intro hm1 (And.intro hm2 (And.intro hm3 (And.intro hm4 hs1))))
  have HD := Lib.hid hD
  clear e1 e2 hm1 hm2 hm3 hm4 hs1 hD hkey hs hL
  have hk70 : k.size + Z.size ≤ 9223372036854775807 := by omega
  have hk1 : k.size + (⟨#[0]⟩ : ByteArray).size ≤ 9223372036854775807 := by show k.size + 1 ≤ _; omega
  have HZ := Lib.hid hzs
  clear hzs
  go_enter Try.func10, Try.ntmps10
  go_wp2_with fail
  (with_reducible refine (awake07_calls _).mono ?_)
  rintro e w1 ⟨rfl, hf1⟩
  have HF1 := Lib.hid hf1
  clear hf1
  go_wp2_with fail
  (with_reducible refine (hsk _).mono ?_)
  rintro e w2 ⟨rfl, rfl⟩
  clear hsk
  go_wp2_with fail
  (with_reducible refine (hss _).mono ?_)
  rintro e w2 ⟨rfl, rfl⟩
  clear hss
  go_wp2_with fail
  (with_reducible refine (HM.out.1 _ _ (heap_alloc2_new _ _ _)).mono ?_)
  rintro e w3 ⟨rfl, hf3⟩
  have HF3 := Lib.hid (((HF1.out.alloc _).alloc _).then hf3)
  clear hf3 HF1 hmk hcv hk70 hk1
  go_wp2_with fail
  (with_reducible refine (HM.out.2.1 _ _ (heap_alloc_new _ _)).mono ?_)
  rintro e w4 ⟨rfl, hf4⟩
  have HF4 := Lib.hid ((HF3.out.alloc _).then hf4)
  clear hf4 HF3
  go_wp2_with fail
  (with_reducible refine (HM.out.2.2.1 _ _ (heap_alloc_new _ _)).mono ?_)
  rintro e w5 ⟨rfl, hf5⟩
  have HF5 := Lib.hid ((HF4.out.alloc _).then hf5)
  clear hf5 HF4
  go_wp2_with fail
  (with_reducible refine (HM.out.2.2.2.2 _ _ (heap_alloc_new _ _)).mono ?_)
  rintro e w6 ⟨rfl, hf6⟩
  have HF6 := Lib.hid ((HF5.out.alloc _).then hf6)
  clear hf6 HF5
  go_wp2_with fail
  (with_reducible refine (HM.out.2.2.2.1 _ _ (heap_alloc_new _ _)).mono ?_)
  rintro e w7 ⟨rfl, hf7⟩
  have HF7 := Lib.hid ((HF6.out.alloc _).then hf7)
  clear hf7 HF6
  go_wp2_with fail
  (with_reducible refine (HM.out.2.1 _ _ (heap_alloc_new _ _)).mono ?_)
  rintro e w8 ⟨rfl, hf8⟩
  have HF8 := Lib.hid ((HF7.out.alloc _).then hf8)
  have hd : ((D1.size : Int) == 32) = true := beq_iff_eq.2 (by have := HD.out; omega)
  clear hf8 HF7
  go_wp2_with fail
  go_ret
  exact ⟨rfl, HF8.out⟩
end Go.Proofs.Ytlcfambhjclkiaa
