/- Contracts of the document's layer 7: lay, Mac. -/
import Derived.Test.YtlcfambhjclkiaaShaDSum
import Derived.Test.YtlcfambhjclkiaaMac2
import Derived.Test.YtlcfambhjclkiaaBBL
namespace Go.Proofs.Ytlcfambhjclkiaa
open Go.RowKit
set_option linter.unusedVariables false
set_option linter.unusedSimpArgs false

theorem ba_get (s : ByteArray) (i : Nat) (hi : i < s.size) : s.data.toList[i]'(by rw [Array.length_toList]; exact hi) = s[i] := rfl
theorem macLay_get (key : ByteArray) (i : Nat) (hi : i < 64) : (macLay key).data.toList[i]? = some (if h : i < (macKey key).size then (macKey key)[i] else 0) := by
  have hl : (macKey key).data.toList.length = (macKey key).size := by rw [Array.length_toList]; rfl
  have h64 := macKey_size key
  rw [macLay, ByteArray.data_append, Array.toList_append]
  by_cases h : i < (macKey key).size
  · rw [dif_pos h, List.getElem?_append_left (by omega), List.getElem?_eq_getElem (by omega)]; rfl
  · rw [dif_neg h, List.getElem?_append_right (by omega), lB_list, List.getElem?_replicate, if_pos (by omega)]
theorem xorLay_get (key : ByteArray) (c i : Nat) (hi : i < 64) (hl : (xorL c (macLay key).data.toList).length = 64) : (xorL c (macLay key).data.toList)[i]'(by omega) = UInt8.ofNat ((if h : i < (macKey key).size then (macKey key)[i] else 0).toNat ^^^ c) := by
  have h1 : (xorL c (macLay key).data.toList)[i]? = some (UInt8.ofNat ((if h : i < (macKey key).size then (macKey key)[i] else 0).toNat ^^^ c)) := by
    rw [xorL, List.getElem?_map, macLay_get key i hi]; rfl
  rw [List.getElem?_eq_getElem (by omega)] at h1
  injection h1
set_option maxHeartbeats 4000000 in
set_option maxRecDepth 100000 in
theorem DLay_calls (w : World) (key : ByteArray) (hk : key.size ≤ 1000) (c : Nat) {ci : Int} (hci : ci = c) (hc : c < 256) :
    Calls Try.prog 46 #[.string key, .int .u8 ci] w fun e w' => e = .returned (.string (xorB c (macLay key))) ∧ Fr [] w w' := by
  subst hci
  have hxl : (xorL c (macLay key).data.toList).length = 64 := by rw [xorL_len, Array.length_toList]; exact macLay_size key
  have HXL := Lib.hid hxl
  have hxg : 64 ≤ (xorL c (macLay key).data.toList).length := Nat.le_of_eq hxl.symm
  have HBY0 := fun i hi => xorLay_get key c i hi hxl
  have hres : xorB c (macLay key) = lB (xorL c (macLay key).data.toList) := rfl
  rw [hres]
  have HKK : Hid (macKey key = if 64 < key.size then shaSum key else key) := Lib.hid rfl
  have hk64 := macKey_size key
  generalize hKK : macKey key = K at HBY0 HKK hk64
  have HBY : Hid (∀ i (hi : i < 64), (xorL c (macLay key).data.toList)[i]'(Nat.lt_of_lt_of_le hi hxg) = UInt8.ofNat ((if h : i < K.size then K[i] else 0).toNat ^^^ c)) := Lib.hid HBY0
  have HKG : Hid (∀ i (h : i < K.size), UInt8.ofNat ((if h : i < K.size then K[i] else 0).toNat ^^^ c) = UInt8.ofNat ((K[i]).toNat ^^^ c)) := Lib.hid (fun i h => by rw [dif_pos h])
  have HKN : Hid (∀ i, i < 64 → ¬ i < K.size → UInt8.ofNat ((if h : i < K.size then K[i] else 0).toNat ^^^ c) = UInt8.ofNat (UInt8.toNat 0 ^^^ c)) := Lib.hid (fun i _ h => by rw [dif_neg h])
  clear HBY0 hres hKK hxl
  by_cases h64 : 64 < key.size
  · have hKe : shaSum key = K := by rw [HKK.out, if_pos h64]
    have HD := Lib.hid (fun W => DSum_calls W key (by omega))
    rw [hKe] at HD
    clear hKe HKK
    have h64' : (64 : Int) < (key.size : Int) := by omega
    go_enter Try.func46, Try.ntmps46
    go_wp2_with fail
    (with_reducible refine (HD.out _).mono ?_)
    rintro e w1 ⟨rfl, hf1⟩
    have HF := Lib.hid hf1
    clear hf1 HD h64 h64'
    have hmk := fun W => run_zeros W 64 (mi := 64) (by rfl) (by decide)
    go_wp2_with fail
    have h0 := BBN.make HF.out 64
    rw [← fillL_zero (xorL c (macLay key).data.toList) 64] at h0
    generalize w1.alloc (.cells (Lib.strCells (zerosB 64)).toArray 5) = W0 at h0 ⊢
    generalize w1.heap.size = g at h0 ⊢
    have H0 := Lib.hid h0
    clear h0 hmk
    go_loopw [6] (fun v6 wr => ∃ i : Nat, v6 = .int .i64 i ∧ i ≤ 64 ∧ Hid (BBN w wr g (fillL (xorL c (macLay key).data.toList) 64 i))) (fun v6 _ => 64 - (intOf v6).toNat)
    case atStart => exact ⟨0, rfl, by decide, H0⟩
    case round =>
      clear H0
      obtain ⟨i, rfl, hi, H⟩ := hrel
      by_cases hlt : i < 64
      · have hget := fillL_get _ 64 i HXL.out hlt
        have hset := fillL_set _ 64 i HXL.out hlt
        have HV := Lib.hid (HBY.out i hlt)
        rw [HV.out] at hset
        have hlen := fillL_len _ 64 i HXL.out hi
        have c0 := H.out.bb.cellL hget
        have z0 := H.out.bb.frozenL i
        have hi0 : (0 : Int) ≤ (i : Int) := by omega
        have hi1 : (i : Int) < 64 := by omega
        by_cases hk : i < K.size
        · have hkk : (i : Int) < (K.size : Int) := by omega
          have hb := HKG.out i hk
          have hc1 := (K[i]).toNat_lt
          have hx := u8_xor_nat (K[i]).toNat c hc1 hc
          have hd : (UInt8.ofNat ((K[i]).toNat ^^^ c)).toNat = (K[i]).toNat ^^^ c := by rw [UInt8.toNat_ofNat']; exact Nat.mod_eq_of_lt (xor8 hc1 hc)
          rw [← hd] at hx
          rw [hb] at hset
          have hs1 := H.out.set i K[i]
          have hc2 : ((fillL (xorL c (macLay key).data.toList) 64 i).set i K[i])[i]? = some K[i] := List.getElem?_set_self (by rw [hlen]; exact hlt)
          have c1 := hs1.bb.cellL hc2
          have z1 := hs1.bb.frozenL i
          have hs2 := hs1.set i (UInt8.ofNat ((K[i]).toNat ^^^ c))
          rw [List.set_set, hset] at hs2
          have HS2 := Lib.hid hs2
          generalize UInt8.ofNat ((K[i]).toNat ^^^ c) = d at hx HS2
          clear hget hset hb hd hs1 hc2 hs2 hlen HV
          go_wp2_with fail
          exact ⟨⟨i + 1, by go_num, by omega, HS2⟩, by simp only [intOf]; omega⟩
        · have hkk : ¬ (i : Int) < (K.size : Int) := by omega
          have hb := HKN.out i hlt hk
          have hx := u8_xor_nat 0 c (by decide) hc
          have hd : (UInt8.ofNat (0 ^^^ c)).toNat = 0 ^^^ c := by rw [UInt8.toNat_ofNat']; exact Nat.mod_eq_of_lt (xor8 (by decide) hc)
          rw [← hd] at hx
          rw [hb] at hset
          have hs2 := H.out.set i (UInt8.ofNat (0 ^^^ c))
          rw [show (UInt8.toNat 0) = 0 from rfl] at hset c0
          rw [hset] at hs2
          have HS2 := Lib.hid hs2
          generalize UInt8.ofNat (0 ^^^ c) = d at hx HS2
          rw [show (((0 : Nat)) : Int) = 0 from rfl] at hx c0
          clear hget hset hb hd hs2 hlen HV
          go_wp2_with fail
          exact ⟨⟨i + 1, by go_num, by omega, HS2⟩, by simp only [intOf]; omega⟩
      · obtain rfl : i = 64 := by omega
        rw [fillL_all _ 64 HXL.out] at H
        have hcv := H.out.text (n := 64) (c := 64) HXL.out.symm
        go_wp2_with fail
        go_ret
        exact ⟨rfl, H.out.fr⟩
  · obtain rfl : key = K := by rw [HKK.out, if_neg h64]
    clear HKK
    have h64' : ¬ (64 : Int) < (key.size : Int) := by omega
    have HF := Lib.hid (Fr.refl [] w)
    go_enter Try.func46, Try.ntmps46
    have hmk := fun W => run_zeros W 64 (mi := 64) (by rfl) (by decide)
    go_wp2_with fail
    have h0 := BBN.make HF.out 64
    rw [← fillL_zero (xorL c (macLay key).data.toList) 64] at h0
    generalize w.alloc (.cells (Lib.strCells (zerosB 64)).toArray 5) = W0 at h0 ⊢
    generalize w.heap.size = g at h0 ⊢
    have H0 := Lib.hid h0
    clear h0 hmk
    go_loopw [6] (fun v6 wr => ∃ i : Nat, v6 = .int .i64 i ∧ i ≤ 64 ∧ Hid (BBN w wr g (fillL (xorL c (macLay key).data.toList) 64 i))) (fun v6 _ => 64 - (intOf v6).toNat)
    case atStart => exact ⟨0, rfl, by decide, H0⟩
    case round =>
      clear H0
      obtain ⟨i, rfl, hi, H⟩ := hrel
      by_cases hlt : i < 64
      · have hget := fillL_get _ 64 i HXL.out hlt
        have hset := fillL_set _ 64 i HXL.out hlt
        have HV := Lib.hid (HBY.out i hlt)
        rw [HV.out] at hset
        have hlen := fillL_len _ 64 i HXL.out hi
        have c0 := H.out.bb.cellL hget
        have z0 := H.out.bb.frozenL i
        have hi0 : (0 : Int) ≤ (i : Int) := by omega
        have hi1 : (i : Int) < 64 := by omega
        by_cases hk : i < key.size
        · have hkk : (i : Int) < (key.size : Int) := by omega
          have hb := HKG.out i hk
          have hc1 := (key[i]).toNat_lt
          have hx := u8_xor_nat (key[i]).toNat c hc1 hc
          have hd : (UInt8.ofNat ((key[i]).toNat ^^^ c)).toNat = (key[i]).toNat ^^^ c := by rw [UInt8.toNat_ofNat']; exact Nat.mod_eq_of_lt (xor8 hc1 hc)
          rw [← hd] at hx
          rw [hb] at hset
          have hs1 := H.out.set i key[i]
          have hc2 : ((fillL (xorL c (macLay key).data.toList) 64 i).set i key[i])[i]? = some key[i] := List.getElem?_set_self (by rw [hlen]; exact hlt)
          have c1 := hs1.bb.cellL hc2
          have z1 := hs1.bb.frozenL i
          have hs2 := hs1.set i (UInt8.ofNat ((key[i]).toNat ^^^ c))
          rw [List.set_set, hset] at hs2
          have HS2 := Lib.hid hs2
          generalize UInt8.ofNat ((key[i]).toNat ^^^ c) = d at hx HS2
          clear hget hset hb hd hs1 hc2 hs2 hlen HV
          go_wp2_with fail
          exact ⟨⟨i + 1, by go_num, by omega, HS2⟩, by simp only [intOf]; omega⟩
        · have hkk : ¬ (i : Int) < (key.size : Int) := by omega
          have hb := HKN.out i hlt hk
          have hx := u8_xor_nat 0 c (by decide) hc
          have hd : (UInt8.ofNat (0 ^^^ c)).toNat = 0 ^^^ c := by rw [UInt8.toNat_ofNat']; exact Nat.mod_eq_of_lt (xor8 (by decide) hc)
          rw [← hd] at hx
          rw [hb] at hset
          have hs2 := H.out.set i (UInt8.ofNat (0 ^^^ c))
          rw [show (UInt8.toNat 0) = 0 from rfl] at hset c0
          rw [hset] at hs2
          have HS2 := Lib.hid hs2
          generalize UInt8.ofNat (0 ^^^ c) = d at hx HS2
          rw [show (((0 : Nat)) : Int) = 0 from rfl] at hx c0
          clear hget hset hb hd hs2 hlen HV
          go_wp2_with fail
          exact ⟨⟨i + 1, by go_num, by omega, HS2⟩, by simp only [intOf]; omega⟩
      · obtain rfl : i = 64 := by omega
        rw [fillL_all _ 64 HXL.out] at H
        have hcv := H.out.text (n := 64) (c := 64) HXL.out.symm
        go_wp2_with fail
        go_ret
        exact ⟨rfl, H.out.fr⟩
theorem macSide_eq (key : ByteArray) (c : Nat) (rest : ByteArray) : shaSum (xorB c (macLay key) ++ rest) = macSide key c rest := rfl
set_option maxHeartbeats 1000000 in
set_option maxRecDepth 100000 in
theorem DMac_calls (w : World) (key s : ByteArray) (hk : key.size ≤ 1000) (hs : s.size ≤ 100000) :
    Calls Try.prog 25 #[.string key, .string s] w fun e w' => e = .returned (.string (macB key s)) ∧ Fr [] w w' := by
  have hl1 := fun W => DLay_calls W key hk 92 (show (92 : Int) = ((92 : Nat) : Int) from rfl) (by decide)
  have hl2 := fun W => DLay_calls W key hk 54 (show (54 : Int) = ((54 : Nat) : Int) from rfl) (by decide)
  have h1 : (xorB 92 (macLay key)).size = 64 := by rw [xorB_size, macLay_size]
  have h2 : (xorB 54 (macLay key)).size = 64 := by rw [xorB_size, macLay_size]
  have hL : (xorB 54 (macLay key) ++ s).size = (xorB 54 (macLay key)).size + s.size := ByteArray.size_append
  have hd := fun W => DSum_calls W (xorB 54 (macLay key) ++ s) (by omega)
  rw [macSide_eq] at hd
  have h3 := macSide_size key 54 s
  have hL2 : (xorB 92 (macLay key) ++ macSide key 54 s).size = (xorB 92 (macLay key)).size + (macSide key 54 s).size := ByteArray.size_append
  have hd2 := fun W => DSum_calls W (xorB 92 (macLay key) ++ macSide key 54 s) (by omega)
  rw [macSide_eq, show macSide key 92 (macSide key 54 s) = macB key s from rfl] at hd2
  generalize macSide key 54 s = D1 at hd h3 hd2
  generalize xorB 92 (macLay key) = X1 at hl1 h1 hd2
  generalize xorB 54 (macLay key) = X2 at hl2 h2 hd
  generalize macB key s = D2 at hd2 ⊢
  have HC := Lib.hid (And.intro hl1 (And.intro hl2 (And.intro hd hd2)))
  have hs1 : X2.size + s.size ≤ 9223372036854775807 := by omega
  have hs2 : X1.size + D1.size ≤ 9223372036854775807 := by omega
  clear hl1 hl2 hd hd2 hL hL2 h1 h2 h3
  go_enter Try.func25, Try.ntmps25
  go_wp2_with fail
  (with_reducible refine (HC.out.1 _).mono ?_)
  rintro e w1 ⟨rfl, hf1⟩
  have HF1 := Lib.hid hf1
  clear hf1
  go_wp2_with fail
  (with_reducible refine (HC.out.2.1 _).mono ?_)
  rintro e w2 ⟨rfl, hf2⟩
  have HF2 := Lib.hid (HF1.out.then hf2)
  clear hf2 HF1
  go_wp2_with fail
  (with_reducible refine (HC.out.2.2.1 _).mono ?_)
  rintro e w3 ⟨rfl, hf3⟩
  have HF3 := Lib.hid (HF2.out.then hf3)
  clear hf3 HF2
  go_wp2_with fail
  (with_reducible refine (HC.out.2.2.2 _).mono ?_)
  rintro e w4 ⟨rfl, hf4⟩
  have HF4 := Lib.hid (HF3.out.then hf4)
  clear hf4 HF3
  go_wp2_with fail
  go_ret
  exact ⟨rfl, HF4.out⟩
end Go.Proofs.Ytlcfambhjclkiaa
