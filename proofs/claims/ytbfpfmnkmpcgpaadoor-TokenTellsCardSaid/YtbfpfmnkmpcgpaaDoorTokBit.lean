/- What the document codes: each digit is of five bits (plain Lean). -/
import Derived.Test.YtbfpfmnkmpcgpaaDoorTokDec
namespace Go.Proofs.YtbfpfmnkmpcgpaaDoor
set_option linter.unusedVariables false
set_option linter.unusedSimpArgs false

def bitL (l : List UInt8) (i : Nat) : Nat := (l.getD (i / 8) 0).toNat / 2 ^ (7 - i % 8) % 2
/-- The bits: n of b, then the list's. -/
def stB (b n : Nat) (l : List UInt8) (p : Nat) : Nat := if p < n then b / 2 ^ (n - 1 - p) % 2 else bitL l (p - n)
def v5 (f : Nat → Nat) (p : Nat) : Nat := 16 * f p + 8 * f (p + 1) + 4 * f (p + 2) + 2 * f (p + 3) + f (p + 4)
theorem stB_cons (b n : Nat) (c : UInt8) (l : List UInt8) (p : Nat) : stB b n (c :: l) p = stB (b * 256 + c.toNat) (n + 8) l p := by
  have hc := c.toNat_lt
  unfold stB
  by_cases h1 : p < n
  · rw [if_pos h1, if_pos (by omega)]
    have e : n + 8 - 1 - p = (n - 1 - p) + 8 := by omega
    rw [e, Nat.pow_add, Nat.mul_comm (2 ^ (n - 1 - p)), ← Nat.div_div_eq_div_mul, show (b * 256 + c.toNat) / 2 ^ 8 = b by omega]
  · rw [if_neg h1]
    by_cases h2 : p < n + 8
    · rw [if_pos h2]
      obtain ⟨k, rfl⟩ : ∃ k, p = n + k := ⟨p - n, by omega⟩
      have hk : k < 8 := by omega
      unfold bitL
      rw [show n + k - n = k by omega, show k / 8 = 0 by omega, show k % 8 = k by omega, show n + 8 - 1 - (n + k) = 7 - k by omega]
      show c.toNat / _ % 2 = _
      have e : k = 0 ∨ k = 1 ∨ k = 2 ∨ k = 3 ∨ k = 4 ∨ k = 5 ∨ k = 6 ∨ k = 7 := by omega
      rcases e with rfl | rfl | rfl | rfl | rfl | rfl | rfl | rfl <;> simp only [Nat.reduceSub, Nat.reducePow] <;> omega
    · rw [if_neg h2]
      unfold bitL
      rw [show (p - n) / 8 = (p - (n + 8)) / 8 + 1 by omega, show (p - n) % 8 = (p - (n + 8)) % 8 by omega]
      rfl
theorem stB_tail (v m q : Nat) (l : List UInt8) (h : q ≤ m) (p : Nat) : stB v m l (p + q) = stB (v % 2 ^ (m - q)) (m - q) l p := by
  unfold stB
  by_cases h1 : p < m - q
  · rw [if_pos (by omega), if_pos h1, show m - 1 - (p + q) = m - q - 1 - p by omega]
    generalize m - q = M at h1
    have e : 2 ^ M = 2 ^ (M - 1 - p) * 2 ^ (p + 1) := by rw [← Nat.pow_add]; congr 1; omega
    rw [e, Nat.mod_mul_right_div_self, Nat.mod_mod_of_dvd]
    exact ⟨2 ^ p, by rw [Nat.pow_succ, Nat.mul_comm]⟩
  · rw [if_neg (by omega), if_neg h1]
    congr 1
    omega
theorem emitL_at (v : Nat) : ∀ (m j : Nat) (h : j < (emitL v m).length), (emitL v m)[j] = digC (v / 2 ^ (m - 5 - 5 * j)) := by
  intro m
  induction m using Nat.strongRecOn with
  | _ m ih =>
    intro j h
    have hl := emitL_length v m
    have h5 : 5 ≤ m := by omega
    have e := emitL_step (v := v) h5
    cases j with
    | zero => simp only [e, List.getElem_cons_zero, Nat.mul_zero, Nat.sub_zero]
    | succ j =>
      simp only [e, List.getElem_cons_succ]
      rw [ih (m - 5) (by omega) j]
      congr 3
      omega
theorem digC_five (v m : Nat) (l : List UInt8) (j : Nat) (h : 5 * j + 5 ≤ m) : digC (v / 2 ^ (m - 5 - 5 * j)) = digC (v5 (stB v m l) (5 * j)) := by
  apply digC_congr
  obtain ⟨k, hk⟩ : ∃ k, m - 5 - 5 * j = k := ⟨_, rfl⟩
  have hf : ∀ i, i < 5 → stB v m l (5 * j + i) = v / 2 ^ k / 2 ^ (4 - i) % 2 := by
    intro i hi
    unfold stB
    rw [if_pos (by omega), Nat.div_div_eq_div_mul, ← Nat.pow_add]
    congr 3
    omega
  have h0 := hf 0 (by omega)
  have h1 := hf 1 (by omega)
  have h2 := hf 2 (by omega)
  have h3 := hf 3 (by omega)
  have h4 := hf 4 (by omega)
  rw [hk]
  generalize v / 2 ^ k = y at *
  simp only [Nat.reduceSub, Nat.reducePow, Nat.add_zero] at h0 h1 h2 h3 h4
  unfold v5
  rw [h0, h1, h2, h3, h4]
  omega
theorem encL_at : ∀ (l : List UInt8) (b n : Nat), n < 5 → ∀ (j : Nat) (h : j < (encL b n l).length), (encL b n l)[j] = digC (v5 (stB b n l) (5 * j)) := by
  intro l
  induction l with
  | nil =>
    intro b n hn j h
    by_cases h0 : 0 < n
    · have e : encL b n [] = emitL (b * 2 ^ (5 - n)) 5 := by rw [encL, if_pos h0]
      have hl := emitL_length (b * 2 ^ (5 - n)) 5
      have hj : j = 0 := by rw [e] at h; omega
      subst hj
      simp only [e]
      rw [emitL_at, digC_five _ 5 [] 0 (by omega)]
      congr 1
      have hf : ∀ p, p < 5 → stB (b * 2 ^ (5 - n)) 5 [] p = stB b n [] p := by
        intro p hp
        have hz : ∀ i, bitL [] i = 0 := by intro i; simp [bitL]
        unfold stB
        simp only [hz]
        rw [if_pos hp]
        have en : n = 1 ∨ n = 2 ∨ n = 3 ∨ n = 4 := by omega
        have ep : p = 0 ∨ p = 1 ∨ p = 2 ∨ p = 3 ∨ p = 4 := by omega
        rcases en with rfl | rfl | rfl | rfl <;> rcases ep with rfl | rfl | rfl | rfl | rfl <;> simp <;> omega
      unfold v5
      rw [hf _ (by omega), hf _ (by omega), hf _ (by omega), hf _ (by omega), hf _ (by omega)]
    · have e : encL b n [] = [] := by rw [encL, if_neg h0]
      rw [e] at h
      cases h
  | cons c l ih =>
    intro b n hn j h
    have est : stB b n (c :: l) = stB (b * 256 + c.toNat) (n + 8) l := funext (stB_cons b n c l)
    rw [est]
    generalize hv : b * 256 + c.toNat = v
    have e : encL b n (c :: l) = emitL v (n + 8) ++ encL (v % 2 ^ ((n + 8) % 5)) ((n + 8) % 5) l := by rw [encL, hv]
    have hl := emitL_length v (n + 8)
    simp only [e]
    by_cases hj : j < (emitL v (n + 8)).length
    · rw [List.getElem_append_left hj, emitL_at, digC_five _ _ l j (by omega)]
    · rw [List.getElem_append_right (by omega), ih _ _ (Nat.mod_lt _ (by decide))]
      congr 1
      have hq : n + 8 - 5 * ((n + 8) / 5) = (n + 8) % 5 := by omega
      have hf : ∀ p, stB (v % 2 ^ ((n + 8) % 5)) ((n + 8) % 5) l p = stB v (n + 8) l (p + 5 * ((n + 8) / 5)) := by
        intro p
        rw [stB_tail v (n + 8) (5 * ((n + 8) / 5)) l (by omega) p, hq]
      have hp : 5 * (j - (emitL v (n + 8)).length) + 5 * ((n + 8) / 5) = 5 * j := by omega
      unfold v5
      simp only [hf]
      rw [show ∀ a, 5 * (j - (emitL v (n + 8)).length) + a + 5 * ((n + 8) / 5) = 5 * j + a from fun a => by omega, show 5 * (j - (emitL v (n + 8)).length) + 2 + 5 * ((n + 8) / 5) = 5 * j + 2 by omega, show 5 * (j - (emitL v (n + 8)).length) + 3 + 5 * ((n + 8) / 5) = 5 * j + 3 by omega, show 5 * (j - (emitL v (n + 8)).length) + 4 + 5 * ((n + 8) / 5) = 5 * j + 4 by omega, hp]
/-- A text's bit. -/
def bitN (s : ByteArray) (i : Nat) : Nat := bitL s.data.toList i
theorem encB_at (s : ByteArray) (j : Nat) (h : j < (encB s).size) : (encB s)[j] = digC (v5 (bitN s) (5 * j)) := by
  have e : stB 0 0 s.data.toList = bitN s := by
    funext p
    simp [stB, bitN]
  rw [← e]
  exact encL_at s.data.toList 0 0 (by decide) j (by simpa [encB, ByteArray.size] using h)
theorem bitN_lt (s : ByteArray) (i : Nat) : bitN s i < 2 := Nat.mod_lt _ (by decide)
theorem v5_lt (s : ByteArray) (p : Nat) : v5 (bitN s) p < 32 := by
  have h0 := bitN_lt s p
  have h1 := bitN_lt s (p + 1)
  have h2 := bitN_lt s (p + 2)
  have h3 := bitN_lt s (p + 3)
  have h4 := bitN_lt s (p + 4)
  unfold v5
  omega
end Go.Proofs.YtbfpfmnkmpcgpaaDoor
