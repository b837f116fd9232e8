/- What the document's Decode lays bit by bit (plain Lean), and the contract of value. -/
import Derived.Test.YtbfpfmnkmpcgpaaDoorRefEnc
import Derived.Test.YtbfpfmnkmpcgpaaDoorBBD
namespace Go.Proofs.YtbfpfmnkmpcgpaaDoor
open Go.RowKit
set_option linter.unusedVariables false
set_option linter.unusedSimpArgs false

def valI (c : UInt8) : Int := match digV c with | some d => (d : Int) | none => -1
set_option maxRecDepth 100000 in
theorem value_calls (w : World) (c : UInt8) :
    Calls Tryd.prog 42 #[.int .u8 (c.toNat : Int)] w fun e w' => e = .returned (.int .i64 (valI c)) ∧ Fr [] w w' := by
  have HY : Hid (∀ i, i < 32 → digC i = c → valI c = (i : Int)) := Lib.hid (fun i hi h => by
    unfold valI
    rw [← h, digV_digC, Nat.mod_eq_of_lt hi])
  have HN : Hid ((∀ i, i < 32 → digC i ≠ c) → valI c = -1) := Lib.hid (fun h => by
    unfold valI
    cases hd : digV c with
    | none => rfl
    | some d => exact absurd (digV_some hd).2 (h d (digV_some hd).1))
  generalize valI c = V at HY HN ⊢
  go_enter Tryd.func42, Tryd.ntmps42
  go_wp2_with fail
  go_loop [3] (fun v3 => ∃ i : Nat, v3 = .int .i64 i ∧ i ≤ 32 ∧ Hid (∀ k, k < i → digC k ≠ c)) (fun v3 => 32 - (intOf v3).toNat)
  case atStart => exact ⟨0, rfl, by omega, Lib.hid (fun k h => absurd h (by omega))⟩
  case round =>
    obtain ⟨i, rfl, hi, H⟩ := hrel
    by_cases hlt : i < 32
    · have hi0 : (0 : Int) ≤ (i : Int) := by omega
      have hi1 : (i : Int) < 32 := by omega
      have hx := index_dig i hlt
      by_cases he : digC i = c
      · have hV := HY.out i hlt he
        rw [he] at hx
        subst hV
        clear he
        go_wp2_with fail
        go_ret
        exact ⟨rfl, Fr.refl _ _⟩
      · have hq : (((digC i).toNat : Int) == (c.toNat : Int)) = false := beq_eq_false_iff_ne.2 (fun e => he (UInt8.toNat_inj.1 (by omega)))
        have H2 : Hid (∀ k, k < i + 1 → digC k ≠ c) := Lib.hid (fun k hk => by
          by_cases h : k = i
          · subst h; exact he
          · exact H.out k (by omega))
        clear he
        generalize (digC i).toNat = D at hx hq
        go_wp2_with fail
        exact ⟨⟨i + 1, by go_num, by omega, H2⟩, by simp only [intOf]; omega⟩
    · obtain rfl : i = 32 := by omega
      have hV := HN.out H.out
      subst hV
      go_wp2_with fail
      go_ret
      exact ⟨rfl, Fr.refl _ _⟩

def tk (f : Nat → Nat) (P p : Nat) : Nat := if p < P then f p else 0
def byteF (f : Nat → Nat) (P j : Nat) : Nat := 128 * tk f P (8 * j) + 64 * tk f P (8 * j + 1) + 32 * tk f P (8 * j + 2) + 16 * tk f P (8 * j + 3) + 8 * tk f P (8 * j + 4) + 4 * tk f P (8 * j + 5) + 2 * tk f P (8 * j + 6) + tk f P (8 * j + 7)
def rowF (f : Nat → Nat) (m P : Nat) : List UInt8 := (List.range m).map fun j => UInt8.ofNat (byteF f P j)
theorem rowF_len (f : Nat → Nat) (m P : Nat) : (rowF f m P).length = m := by simp [rowF]
theorem tk_succ (f : Nat → Nat) (P p : Nat) : tk f (P + 1) p = tk f P p + if p = P then f P else 0 := by
  unfold tk
  by_cases h1 : p < P
  · rw [if_pos (by omega), if_pos h1, if_neg (by omega)]; omega
  · by_cases h2 : p = P
    · subst h2; rw [if_pos (by omega), if_neg h1, if_pos rfl]; omega
    · rw [if_neg (by omega), if_neg h1, if_neg h2]
theorem byteF_here (f : Nat → Nat) (P : Nat) : byteF f (P + 1) (P / 8) = byteF f P (P / 8) + f P * 2 ^ (7 - P % 8) := by
  obtain ⟨j, e, rfl, he⟩ : ∃ j e, P = 8 * j + e ∧ e < 8 := ⟨P / 8, P % 8, by omega, by omega⟩
  rw [show (8 * j + e) / 8 = j by omega, show (8 * j + e) % 8 = e by omega]
  unfold byteF
  simp only [tk_succ]
  have h : e = 0 ∨ e = 1 ∨ e = 2 ∨ e = 3 ∨ e = 4 ∨ e = 5 ∨ e = 6 ∨ e = 7 := by omega
  rcases h with rfl | rfl | rfl | rfl | rfl | rfl | rfl | rfl <;> simp <;> omega
theorem byteF_else (f : Nat → Nat) (P j : Nat) (h : j ≠ P / 8) : byteF f (P + 1) j = byteF f P j := by
  unfold byteF
  simp only [tk_succ]
  rw [if_neg (by omega), if_neg (by omega), if_neg (by omega), if_neg (by omega), if_neg (by omega), if_neg (by omega), if_neg (by omega), if_neg (by omega)]
  rfl
theorem byteF_lt (f : Nat → Nat) (hf : ∀ p, f p < 2) (P j : Nat) : byteF f P j < 256 := by
  have h : ∀ p, tk f P p ≤ 1 := fun p => by unfold tk; split; · have := hf p; omega
                                            · omega
  have h0 := h (8 * j)
  have h1 := h (8 * j + 1)
  have h2 := h (8 * j + 2)
  have h3 := h (8 * j + 3)
  have h4 := h (8 * j + 4)
  have h5 := h (8 * j + 5)
  have h6 := h (8 * j + 6)
  have h7 := h (8 * j + 7)
  unfold byteF
  omega
theorem rowF_zero (f : Nat → Nat) (m : Nat) : rowF f m 0 = List.replicate m 0 := by
  apply List.ext_getElem (by simp [rowF])
  intro j h1 h2
  simp [rowF, byteF, tk]
theorem rowF_get (f : Nat → Nat) (m P j : Nat) (h : j < m) : (rowF f m P)[j]? = some (UInt8.ofNat (byteF f P j)) := by
  simp [rowF, h]
theorem rowF_set (f : Nat → Nat) (m P : Nat) (h : P / 8 < m) : (rowF f m P).set (P / 8) (UInt8.ofNat (byteF f P (P / 8) + f P * 2 ^ (7 - P % 8))) = rowF f m (P + 1) := by
  apply List.ext_getElem (by simp [rowF])
  intro j h1 h2
  rw [List.getElem_set]
  by_cases hj : P / 8 = j
  · subst hj
    rw [if_pos rfl]
    simp only [rowF, List.getElem_map, List.getElem_range, byteF_here]
  · rw [if_neg hj]
    simp only [rowF, List.getElem_map, List.getElem_range, byteF_else f P j (fun e => hj e.symm)]
theorem rowF_skip (f : Nat → Nat) (m P : Nat) (h : m ≤ P / 8 ∨ f P = 0) : rowF f m P = rowF f m (P + 1) := by
  apply List.ext_getElem (by simp [rowF])
  intro j h1 h2
  have hj : j < m := by simpa [rowF] using h1
  simp only [rowF, List.getElem_map, List.getElem_range]
  by_cases hj2 : j = P / 8
  · rcases h with h | h
    · omega
    · rw [hj2, byteF_here, h]; simp
  · rw [byteF_else f P j hj2]
/-- The bits of the digits. -/
def dgN (s : ByteArray) (q : Nat) : Nat := (digV (s.data.toList.getD q 0)).getD 0
def fS (s : ByteArray) (p : Nat) : Nat := dgN s (p / 5) / 2 ^ (4 - p % 5) % 2
theorem fS_lt (s : ByteArray) (p : Nat) : fS s p < 2 := Nat.mod_lt _ (by decide)
def decT (s : ByteArray) : ByteArray := bL (rowF (fS s) (s.size * 5 / 8) (5 * s.size))
theorem decT_size (s : ByteArray) : (decT s).size = s.size * 5 / 8 := by rw [decT, bL_size, rowF_len]
theorem fS_enc (t : ByteArray) (p : Nat) (h : p < 8 * t.size) : fS (encB t) p = bitN t p := by
  have hz := encB_size t
  have hq : p / 5 < (encB t).size := by omega
  have hat := encB_at t (p / 5) hq
  have hd : dgN (encB t) (p / 5) = v5 (bitN t) (5 * (p / 5)) := by
    unfold dgN
    rw [List.getD_eq_getElem?_getD, List.getElem?_eq_getElem (by rw [Array.length_toList]; exact hq)]
    show (digV ((encB t)[p / 5])).getD 0 = _
    rw [hat, digV_digC, Nat.mod_eq_of_lt (v5_lt _ _)]
    rfl
  unfold fS
  rw [hd]
  obtain ⟨q, k, rfl, hk⟩ : ∃ q k, p = 5 * q + k ∧ k < 5 := ⟨p / 5, p % 5, by omega, by omega⟩
  rw [show (5 * q + k) / 5 = q by omega, show (5 * q + k) % 5 = k by omega]
  have h0 := bitN_lt t (5 * q)
  have h1 := bitN_lt t (5 * q + 1)
  have h2 := bitN_lt t (5 * q + 2)
  have h3 := bitN_lt t (5 * q + 3)
  have h4 := bitN_lt t (5 * q + 4)
  unfold v5
  have e : k = 0 ∨ k = 1 ∨ k = 2 ∨ k = 3 ∨ k = 4 := by omega
  rcases e with rfl | rfl | rfl | rfl | rfl <;> simp only [Nat.reduceSub, Nat.reducePow, Nat.add_zero] <;> omega
theorem byte_bits (c : Nat) (h : c < 256) : 128 * (c / 128 % 2) + 64 * (c / 64 % 2) + 32 * (c / 32 % 2) + 16 * (c / 16 % 2) + 8 * (c / 8 % 2) + 4 * (c / 4 % 2) + 2 * (c / 2 % 2) + c % 2 = c := by omega
set_option maxHeartbeats 1000000 in
theorem decT_list (t : ByteArray) (hz : (encB t).size = (8 * t.size + 4) / 5) : rowF (fS (encB t)) t.size (5 * (encB t).size) = t.data.toList := by
  have hfs := fS_enc t
  generalize fS (encB t) = f at hfs ⊢
  generalize (encB t).size = n at hz ⊢
  apply List.ext_getElem (by rw [rowF_len, Array.length_toList]; rfl)
  intro j h1 h2
  have hj : j < t.size := by rwa [rowF_len] at h1
  simp only [rowF, List.getElem_map, List.getElem_range]
  have htk : ∀ k, k < 8 → tk f (5 * n) (8 * j + k) = (t[j]).toNat / 2 ^ (7 - k) % 2 := by
    intro k hk
    unfold tk
    rw [if_pos (by omega), hfs _ (by omega), bitN_on t _ (by omega)]
    simp only [show (8 * j + k) / 8 = j by omega, show (8 * j + k) % 8 = k by omega]
  have h0 := htk 0 (by omega)
  have h1 := htk 1 (by omega)
  have h2 := htk 2 (by omega)
  have h3 := htk 3 (by omega)
  have h4 := htk 4 (by omega)
  have h5 := htk 5 (by omega)
  have h6 := htk 6 (by omega)
  have h7 := htk 7 (by omega)
  simp only [Nat.reduceSub, Nat.reducePow, Nat.add_zero, Nat.div_one] at h0 h1 h2 h3 h4 h5 h6 h7
  unfold byteF
  rw [h0, h1, h2, h3, h4, h5, h6, h7]
  show _ = t[j]
  apply UInt8.toNat_inj.1
  have := (t[j]).toNat_lt
  rw [byte_bits _ this, UInt8.toNat_ofNat']
  exact Nat.mod_eq_of_lt this
theorem decT_enc (t : ByteArray) : decT (encB t) = t := by
  have hz := encB_size t
  have hm : (encB t).size * 5 / 8 = t.size := by omega
  have key : rowF (fS (encB t)) t.size (5 * (encB t).size) = t.data.toList := decT_list t hz
  unfold decT
  rw [hm, key]
  apply ByteArray.ext
  simp [bL]
/-- What comes back: the laid text, if it is coded as s. -/
theorem decB_T (s : ByteArray) : decB s = if encB (decT s) = s then some (decT s) else none := by
  by_cases h : encB (decT s) = s
  · rw [if_pos h]
    exact (decB_iff _ _).2 h
  · rw [if_neg h]
    cases hd : decB s with
    | none => rfl
    | some t =>
      have e := encB_dec hd
      rw [← e, decT_enc] at h
      exact absurd rfl h
theorem decB_bad (s : ByteArray) (i : Nat) (hi : i < s.size) (h : digV s[i] = none) : decB s = none := by
  cases hd : decB s with
  | none => rfl
  | some t =>
    have e := encB_dec hd
    subst e
    rw [encB_at t i hi, digV_digC] at h
    cases h
end Go.Proofs.YtbfpfmnkmpcgpaaDoor
