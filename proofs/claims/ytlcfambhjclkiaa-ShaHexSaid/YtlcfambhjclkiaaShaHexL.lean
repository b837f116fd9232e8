/- The law ShaHex: for any text the Go function returns true (its walk). -/
import Derived.Test.YtlcfambhjclkiaaShaHex
import Derived.Test.YtlcfambhjclkiaaShort06
namespace Go.Proofs.Ytlcfambhjclkiaa
open Go.RowKit
set_option linter.unusedVariables false
set_option linter.unusedSimpArgs false

theorem index_str (h : ByteArray) (j : Nat) (hj : j < h.size) (c : UInt8) (hc : h[j] = c) {ji : Int} (hji : ji = j) (w : World) : (Instr.index 9 (.string h) (.int .i64 ji)).run Try.prog w = .ok (.int .u8 (c.toNat : Int)) w := by
  subst hji hc
  have h0 : (0 : Int) ≤ (j : Int) := by omega
  have h1 : (j : Int) < h.size := by omega
  go_simp
theorem hex_code : ∀ x, x < 16 → (x < 10 → (hexDig.getD x 0).toNat = 48 + x) ∧ (10 ≤ x → (hexDig.getD x 0).toNat = 87 + x) := by decide
theorem hexL_get : ∀ (l : List UInt8) (i : Nat), i < l.length → (hexL l)[2 * i]? = some (hexDig.getD ((l.getD i 0).toNat / 16) 0) ∧ (hexL l)[2 * i + 1]? = some (hexDig.getD ((l.getD i 0).toNat % 16) 0)
  | [], i, h => absurd h (by simp)
  | c :: l, 0, _ => ⟨rfl, rfl⟩
  | c :: l, i + 1, h => by
    have := hexL_get l i (by simpa using h)
    rw [hexL, List.flatMap_cons, ← hexL]
    have e1 : 2 * (i + 1) = 2 + 2 * i := by omega
    rw [e1, List.getElem?_append_right (by simp), show 2 + 2 * i + 1 = 2 + (2 * i + 1) from by omega, List.getElem?_append_right (by simp)]
    simpa using this
theorem hexB_size (s : ByteArray) : (hexB s).size = 2 * s.size := by
  rw [hexB_eq, lB_size, hexL_len, Array.length_toList]; rfl
theorem hexB_get (s : ByteArray) (i : Nat) (hi : i < s.size) : ∃ (h1 : 2 * i < (hexB s).size) (h2 : 2 * i + 1 < (hexB s).size), (hexB s)[2 * i] = hexDig.getD ((s[i]).toNat / 16) 0 ∧ (hexB s)[2 * i + 1] = hexDig.getD ((s[i]).toNat % 16) 0 := by
  have hz := hexB_size s
  refine ⟨by omega, by omega, ?_⟩
  have hl : i < s.data.toList.length := by rw [Array.length_toList]; exact hi
  have hg : s.data.toList.getD i 0 = s[i] := by rw [List.getD_eq_getElem?_getD, List.getElem?_eq_getElem hl]; rfl
  have h := hexL_get s.data.toList i hl
  rw [hg] at h
  have hb : ∀ j (hj : j < (hexB s).size) v, (hexL s.data.toList)[j]? = some v → (hexB s)[j] = v := fun j hj v hv => by
    have hjl : j < (hexL s.data.toList).length := by rw [hexL_len, Array.length_toList]; rw [hz] at hj; exact hj
    rw [List.getElem?_eq_getElem hjl] at hv
    injection hv
  exact ⟨hb _ _ _ h.1, hb _ _ _ h.2⟩

set_option maxHeartbeats 4000000 in
set_option maxRecDepth 100000 in
theorem ShaHex_walk (w : World) (s : ByteArray) (hs : s.size ≤ 140737488351232) :
    Calls Try.prog 6 #[.string s] w fun e w' => e = .returned (.bool true) ∧ Fr [] w w' := by
  have hsh := fun W => short06_calls s 100 100 rfl W (by omega) (by decide)
  have h100 := shortB_size s 100
  generalize shortB s 100 = x at hsh h100
  have hhz := hexB_size x
  have HG := Lib.hid (hexB_get x)
  have HC := Lib.hid (fun W => Hex_calls W x (by omega))
  generalize hexB x = h at HG HC hhz
  go_enter Try.func6, Try.ntmps6
  go_wp2_with fail
  (with_reducible refine (awake06_calls _).mono ?_)
  rintro e w1 ⟨rfl, hf1⟩
  have HF1 := Lib.hid hf1
  clear hf1
  go_wp2_with fail
  (with_reducible refine (hsh _).mono ?_)
  rintro e w2 ⟨rfl, rfl⟩
  clear hsh
  go_wp2_with fail
  (with_reducible refine (HC.out _).mono ?_)
  rintro e w2 ⟨rfl, hf2⟩
  have HF2 := Lib.hid (HF1.out.then hf2)
  clear hf2 HF1 HC
  have hq : ((h.size : Int) == 2 * (x.size : Int)) = true := beq_iff_eq.2 (by omega)
  go_wp2_with fail
  clear hq
  go_loop [5, 6, 7, 8] (fun v5 v6 v7 v8 => ∃ i : Nat, v5 = .int .i64 i ∧ i ≤ x.size) (fun v5 _ _ _ => x.size - (intOf v5).toNat)
  case atStart => exact ⟨0, rfl, Nat.zero_le _⟩
  case round =>
    obtain ⟨i, rfl, hi⟩ := hrel
    by_cases hlt : i < x.size
    · obtain ⟨h1, h2, g1, g2⟩ := HG.out i hlt
      have hc := (x[i]).toNat_lt
      obtain ⟨p, q, hp, hq, hpq, hp16, hq16⟩ : ∃ p q : Nat, (x[i]).toNat / 16 = p ∧ (x[i]).toNat % 16 = q ∧ (x[i]).toNat = 16 * p + q ∧ p < 16 ∧ q < 16 := ⟨_, _, rfl, rfl, by omega, by omega, by omega⟩
      rw [hp] at g1
      rw [hq] at g2
      have k1 := hex_code p hp16
      have k2 := hex_code q hq16
      have hx1 := index_str h (2 * i) h1 _ g1 (show (2 : Int) * (i : Int) = ((2 * i : Nat) : Int) from by omega)
      have hx2 := index_str h (2 * i + 1) h2 _ g2 (show (2 : Int) * (i : Int) + 1 = ((2 * i + 1 : Nat) : Int) from by omega)
      generalize hexDig.getD p 0 = d1 at g1 k1 hx1
      generalize hexDig.getD q 0 = d2 at g2 k2 hx2
      have hu1 := d1.toNat_lt
      have hu2 := d2.toNat_lt
      have HX := Lib.hid (And.intro hx1 hx2)
      have hne : ((16 * (p : Int) + (q : Int)) == ((x[i]).toNat : Int)) = true := beq_iff_eq.2 (by omega)
      have HNE := Lib.hid hne
      have HPQ := Lib.hid hpq
      clear g1 g2 hp hq hne hpq hx1 hx2 h1 h2
      go_wp2_with fail
      go_loop [6, 7, 8] (fun v6 v7 v8 => (v7 = .int .i64 0 ∧ v6 = .int .i64 0) ∨ (v7 = .int .i64 1 ∧ v6 = .int .i64 (p : Int)) ∨ (v7 = .int .i64 2 ∧ v6 = .int .i64 (16 * (p : Int) + (q : Int)))) (fun _ v7 _ => 2 - (intOf v7).toNat)
      case atStart => exact .inl ⟨rfl, rfl⟩
      case round =>
        rcases hrel with ⟨rfl, rfl⟩ | ⟨rfl, rfl⟩ | ⟨rfl, rfl⟩
        · have hx := HX.out.1
          by_cases hd : p < 10
          · have E := Lib.hid (k1.1 hd)
            have b1 : (48 : Int) ≤ (d1.toNat : Int) := by have := E.out; omega
            have b2 : (d1.toNat : Int) ≤ 57 := by have := E.out; omega
            clear k1 k2 hd
            go_wp2_with fail
            exact ⟨.inr (.inl ⟨rfl, by rw [show ((d1.toNat : Int) - 48) = (p : Int) from by have := E.out; omega]⟩), by simp [intOf]⟩
          · have E := Lib.hid (k1.2 (by omega))
            have b1 : (97 : Int) ≤ (d1.toNat : Int) := by have := E.out; omega
            have b2 : (d1.toNat : Int) ≤ 102 := by have := E.out; omega
            have b3 : decide ((d1.toNat : Int) ≤ 57) = false := decide_eq_false (by omega)
            clear k1 k2 hd
            go_wp2_with fail
            exact ⟨.inr (.inl ⟨rfl, by rw [show ((d1.toNat : Int) - 97 + 10) = (p : Int) from by have := E.out; omega]⟩), by simp [intOf]⟩
        · have hx := HX.out.2
          by_cases hd : q < 10
          · have E := Lib.hid (k2.1 hd)
            have b1 : (48 : Int) ≤ (d2.toNat : Int) := by have := E.out; omega
            have b2 : (d2.toNat : Int) ≤ 57 := by have := E.out; omega
            clear k1 k2 hd
            go_wp2_with fail
            exact ⟨.inr (.inr ⟨rfl, by rw [show 16 * (p : Int) + ((d2.toNat : Int) - 48) = 16 * (p : Int) + (q : Int) from by have := E.out; omega]⟩), by simp [intOf]⟩
          · have E := Lib.hid (k2.2 (by omega))
            have b1 : (97 : Int) ≤ (d2.toNat : Int) := by have := E.out; omega
            have b2 : (d2.toNat : Int) ≤ 102 := by have := E.out; omega
            have b3 : decide ((d2.toNat : Int) ≤ 57) = false := decide_eq_false (by omega)
            clear k1 k2 hd
            go_wp2_with fail
            exact ⟨.inr (.inr ⟨rfl, by rw [show 16 * (p : Int) + ((d2.toNat : Int) - 97) + 10 = 16 * (p : Int) + (q : Int) from by have := E.out; omega]⟩), by simp [intOf]⟩
        · clear k1 k2
          have hne := HNE.out
          go_wp2_with fail
          exact ⟨⟨i + 1, by go_num, by omega⟩, by simp only [intOf]; omega⟩
    · go_wp2_with fail
      go_ret
      exact ⟨rfl, HF2.out⟩
end Go.Proofs.Ytlcfambhjclkiaa
