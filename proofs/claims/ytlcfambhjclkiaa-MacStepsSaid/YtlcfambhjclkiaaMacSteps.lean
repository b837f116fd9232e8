/- The law MacSteps: for any texts and rounds the Go function returns true (its walk). -/
import Derived.Test.YtlcfambhjclkiaaMacCounts
import Derived.Test.YtlcfambhjclkiaaDMac
namespace Go.Proofs.Ytlcfambhjclkiaa
open Go.RowKit
set_option linter.unusedVariables false
set_option linter.unusedSimpArgs false

theorem DeriveI (W : World) (key salt : ByteArray) (hk : key.size ≤ 1000) (hs : salt.size ≤ 1000) (r : Nat) {ri : Int} (hri : ri = r) (hr : r ≤ 20) :
    Calls Try.prog 27 #[.pointer none, .string key, .string salt, .int .i64 ri] W
      fun e w' => e = .returned (.string (deriveB key salt r)) ∧ Fr [] W w' := by
  subst hri
  exact DeriveN W key salt hk hs r hr
theorem step_xor (key salt : ByteArray) (n : Nat) (i : Nat) (h1 : i < (deriveB key salt (n + 1)).size) (h2 : i < (deriveB key salt (n + 1 + 1)).size) (h3 : i < (dvU key salt (n + 1)).size) :
    (deriveB key salt (n + 1))[i].toNat ^^^ (deriveB key salt (n + 1 + 1))[i].toNat = (dvU key salt (n + 1))[i].toNat := by
  have e1 : deriveB key salt (n + 1) = lB (dvO key salt n) := if_neg (by omega)
  have e2 : deriveB key salt (n + 1 + 1) = lB (xor2 (dvO key salt n) (dvU key salt (n + 1)).data.toList) := if_neg (by omega)
  have ha := dvO_len key salt n
  have hb := dvU_len key salt (n + 1)
  have hi : i < 32 := by rw [dvU_size] at h3; exact h3
  have g : ∀ (l m : List UInt8) (B : ByteArray), m = l → B = lB m → (hh : i < B.size) → (hl : i < l.length) → B[i] = l[i] := by
    rintro l m B rfl rfl hh hl; rfl
  rw [g _ _ _ rfl e1 h1 (by omega), g _ _ _ rfl e2 h2 (by rw [xor2_len (by omega)]; omega)]
  have hx : (xor2 (dvO key salt n) (dvU key salt (n + 1)).data.toList)[i]'(by rw [xor2_len (by omega)]; omega) = UInt8.ofNat (((dvO key salt n)[i]'(by omega)).toNat ^^^ ((dvU key salt (n + 1))[i]).toNat) := by
    simp only [xor2, List.getElem_zipWith]; rfl
  rw [hx]
  have c1 := ((dvO key salt n)[i]'(by omega)).toNat_lt
  have c2 := ((dvU key salt (n + 1))[i]).toNat_lt
  rw [UInt8.toNat_ofNat', Nat.mod_eq_of_lt (xor8 c1 c2), ← Nat.xor_assoc, Nat.xor_self, Nat.zero_xor]

set_option maxHeartbeats 4000000 in
set_option maxRecDepth 100000 in
theorem MacSteps_walk (w : World) (s : ByteArray) (hs : s.size ≤ 140737488351232) (t : ByteArray) (ht : t.size ≤ 140737488351232) (q : Int) (hq : Bd .i64 q) :
    Calls Try.prog 12 #[.string s, .string t, .int .i64 q] w fun e w' => e = .returned (.bool true) ∧ Fr [] w w' := by
  have hss := fun W => short07_calls s 80 80 rfl W (by omega) (by decide)
  have h80 := shortB_size s 80
  generalize shortB s 80 = x at hss h80
  have hst := fun W => short07_calls t 40 40 rfl W (by omega) (by decide)
  have h40 := shortB_size t 40
  generalize shortB t 40 = y at hst h40
  have hqb := hq.i64
  have hT := Int.tmod_lt_of_pos q (show (0 : Int) < 5 by decide)
  have hT' := Int.lt_tmod_of_pos q (show (0 : Int) < 5 by decide)
  generalize hTT : q.tmod 5 = T at hT hT'
  obtain ⟨r, hr, hr5⟩ : ∃ r : Nat, (T + 5) % 5 = (r : Int) ∧ r < 5 := ⟨((T + 5) % 5).toNat, by omega, by omega⟩
  obtain ⟨n, hn⟩ : ∃ n : Nat, n = r + 1 := ⟨_, rfl⟩
  have hn5 : n ≤ 5 := by omega
  have hni : (1 : Int) + (r : Int) = (n : Int) := by omega
  have hyf : (y ++ dvFirst).size = y.size + 4 := ByteArray.size_append
  have HD0 : Hid (∀ W, Calls Try.prog 25 #[.string x, .string (y ++ ⟨#[0, 0, 0, 1]⟩)] W fun e w' => e = .returned (.string (dvU x y 0)) ∧ Fr [] W w') := Lib.hid (fun W => DMac_calls W x (y ++ dvFirst) (by omega) (by omega))
  have HDS : Hid (∀ W i, Calls Try.prog 25 #[.string x, .string (dvU x y i)] W fun e w' => e = .returned (.string (dvU x y (i + 1))) ∧ Fr [] W w') := Lib.hid (fun W i => DMac_calls W x (dvU x y i) (by omega) (by rw [dvU_size]; decide))
  have HA := Lib.hid (fun W => DeriveI W x y (by omega) (by omega) n rfl (by omega))
  have HB := Lib.hid (fun W => DeriveI W x y (by omega) (by omega) (n + 1) (ri := (n : Int) + 1) (by omega) (by omega))
  have HX : Hid (∀ i (h1 : i < (deriveB x y n).size) (h2 : i < (deriveB x y (n + 1)).size) (h3 : i < (dvU x y n).size), (deriveB x y n)[i].toNat ^^^ (deriveB x y (n + 1))[i].toNat = (dvU x y n)[i].toNat) := Lib.hid (by
    subst hn
    exact step_xor x y r)
  have hza := deriveB_size x y n (by omega)
  have hzb := deriveB_size x y (n + 1) (by omega)
  have hzu := dvU_size x y n
  have HZ := Lib.hid (And.intro hza (And.intro hzb hzu))
  have hsum : y.size + (⟨#[0, 0, 0, 1]⟩ : ByteArray).size ≤ 9223372036854775807 := by show y.size + 4 ≤ _; omega
  clear hza hzb hzu hyf hn hr5 hs ht
  go_enter Try.func12, Try.ntmps12
  go_wp2_with fail
  (with_reducible refine (awake07_calls _).mono ?_)
  rintro e w1 ⟨rfl, hf1⟩
  have HF1 := Lib.hid hf1
  clear hf1
  go_wp2_with fail
  (with_reducible refine (hss _).mono ?_)
  rintro e w2 ⟨rfl, rfl⟩
  clear hss
  go_wp2_with fail
  (with_reducible refine (hst _).mono ?_)
  rintro e w2 ⟨rfl, rfl⟩
  clear hst
  go_wp2_with fail
  (try rw [hr])
  (try rw [hni])
  clear hr hTT hT hT' hni
  (with_reducible refine (HD0.out _).mono ?_)
  rintro e w3 ⟨rfl, hf3⟩
  have HF3 := Lib.hid (HF1.out.then hf3)
  clear hf3 HF1 HD0 hsum
  go_wp2_with fail
  go_loopw [9, 10] (fun v9 v10 wr => ∃ i : Nat, v10 = .int .i64 i ∧ i ≤ n ∧ v9 = .string (dvU x y i) ∧ Hid (Fr [] w wr)) (fun _ v10 _ => n - (intOf v10).toNat)
  case atStart => exact ⟨0, rfl, Nat.zero_le _, rfl, HF3⟩
  case round =>
    clear HF3
    obtain ⟨i, rfl, hi, rfl, H⟩ := hrel
    by_cases hlt : i < n
    · go_wp2_with fail
      (with_reducible refine (HDS.out _ _).mono ?_)
      rintro e w4 ⟨rfl, hf4⟩
      have HF4 := Lib.hid (H.out.then hf4)
      clear hf4 H
      go_wp2_with fail
      exact ⟨⟨i + 1, by go_num, by omega, rfl, HF4⟩, by simp only [intOf]; omega⟩
    · obtain rfl : i = n := by omega
      clear HDS hlt hi
      generalize deriveB x y i = A at HA HX HZ
      generalize deriveB x y (i + 1) = B at HB HX HZ
      generalize dvU x y i = U at HX HZ ⊢
      go_wp2_with fail
      (with_reducible refine (HA.out _).mono ?_)
      rintro e w4 ⟨rfl, hf4⟩
      have HF4 := Lib.hid (H.out.then hf4)
      clear hf4 H HA
      go_wp2_with fail
      (with_reducible refine (HB.out _).mono ?_)
      rintro e w5 ⟨rfl, hf5⟩
      have HF5 := Lib.hid (HF4.out.then hf5)
      have h1 : ((A.size : Int) != 32) = false := bne_eq_false_iff_eq.2 (by have := HZ.out.1; omega)
      have h2 : ((B.size : Int) != 32) = false := bne_eq_false_iff_eq.2 (by have := HZ.out.2.1; omega)
      clear hf5 HF4 HB
      go_wp2_with fail
      clear h1 h2
      go_loopw [13] (fun v13 wr => ∃ j : Nat, v13 = .int .i64 j ∧ j ≤ 32 ∧ Hid (Fr [] w wr)) (fun v13 _ => 32 - (intOf v13).toNat)
      case atStart => exact ⟨0, rfl, Nat.zero_le _, HF5⟩
      case round =>
        clear HF5
        obtain ⟨j, rfl, hj, H⟩ := hrel
        by_cases hlt : j < 32
        · have k1 : j < A.size := by rw [HZ.out.1]; exact hlt
          have k2 : j < B.size := by rw [HZ.out.2.1]; exact hlt
          have k3 : j < U.size := by rw [HZ.out.2.2]; exact hlt
          have i0 : (0 : Int) ≤ (j : Int) := by omega
          have i1 : (j : Int) < A.size := by omega
          have i2 : (j : Int) < B.size := by omega
          have i3 : (j : Int) < U.size := by omega
          have hx := u8_xor_nat (A[j]).toNat (B[j]).toNat (A[j]).toNat_lt (B[j]).toNat_lt
          rw [HX.out j k1 k2 k3] at hx
          go_wp2_with fail
          go_quiet (fail)
          go_wp2_with fail
          exact ⟨⟨j + 1, by go_num, by omega, Lib.hid (H.out.drewN _)⟩, by simp only [intOf]; omega⟩
        · go_wp2_with fail
          go_ret
          exact ⟨rfl, H.out⟩
end Go.Proofs.Ytlcfambhjclkiaa
