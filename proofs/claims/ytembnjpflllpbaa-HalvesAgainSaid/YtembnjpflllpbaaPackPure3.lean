/- Plain words on how numbers, texts and rows are read. No program in sight. -/
import Derived.Test.YtembnjpflllpbaaPackPure2
namespace Go.Proofs.Ytembnjpflllpbaa

/-- The number that bytes begin with, from its i-th byte on, and its length. -/
def numAt : Nat → Nat → List UInt8 → Option (Nat × Nat)
  | _, _, [] => none
  | i, acc, b :: l =>
    if 10 ≤ i then none
    else if i = 9 ∧ 1 < b.toNat then none
    else if 128 ≤ b.toNat then numAt (i + 1) (acc + b.toNat % 128 * 128 ^ i) l
    else if b.toNat = 0 ∧ 0 < i then none
    else some (acc + b.toNat % 128 * 128 ^ i, i + 1)

theorem numAt_wrote (k : Nat) : ∀ (m i acc : Nat) (t : List UInt8), m < 128 ^ k → (0 < i → 0 < m) → m * 128 ^ i < 18446744073709551616 → i < 10 → numAt i acc (numL m ++ t) = some (acc + m * 128 ^ i, i + (numL m).length) := by
  induction k with
  | zero =>
    intro m i acc t hm hi hb h10
    have hm : m = 0 := by simpa using hm
    subst hm
    rw [numL_small (by decide)]
    have h0 : i = 0 := by
      rcases Nat.eq_zero_or_pos i with h | h
      · exact h
      · exact absurd (hi h) (by decide)
    subst h0
    rfl
  | succ k ih =>
    intro m i acc t hm hi hb h10
    have h64 : (18446744073709551616 : Nat) = 2 * 128 ^ 9 := by decide
    by_cases hs : m < 128
    · rw [numL_small hs]
      have hb1 : (UInt8.ofNat m).toNat = m := by rw [UInt8.toNat_ofNat']; omega
      simp only [List.cons_append, List.nil_append, numAt, hb1]
      rw [if_neg (by omega)]
      have h9 : ¬ (i = 9 ∧ 1 < m) := by
        rintro ⟨rfl, h⟩
        rw [h64] at hb
        have := Nat.mul_le_mul_right (128 ^ 9) (show 2 ≤ m from h)
        omega
      rw [if_neg h9, if_neg (by omega), if_neg (by rintro ⟨h1, h2⟩; have := hi h2; omega)]
      simp only [List.length_cons, List.length_nil, Nat.mod_eq_of_lt hs]
    · rw [numL_big hs]
      have hb1 : (UInt8.ofNat (m % 128 + 128)).toNat = m % 128 + 128 := by rw [UInt8.toNat_ofNat']; omega
      have hq : m / 128 * 128 ^ (i + 1) + m % 128 * 128 ^ i = m * 128 ^ i := by
        rw [Nat.pow_succ, Nat.mul_comm (128 ^ i) 128, ← Nat.mul_assoc, ← Nat.add_mul]
        congr 1
        omega
      have h9 : i ≠ 9 := by
        rintro rfl
        rw [h64] at hb
        have := Nat.mul_le_mul_right (128 ^ 9) (show 2 ≤ m from by omega)
        omega
      simp only [List.cons_append, numAt, hb1]
      rw [if_neg (by omega), if_neg (by rintro ⟨h, _⟩; exact h9 h), if_pos (by omega)]
      rw [ih (m / 128) (i + 1) _ t (by rw [Nat.pow_succ] at hm; exact Nat.div_lt_of_lt_mul (by omega)) (by intro _; omega) (by omega) (by omega)]
      simp only [List.length_cons]
      congr 2
      · rw [show (m % 128 + 128) % 128 = m % 128 from by omega]
        omega
      · omega
/-- What was read is just a number's bytes. -/
theorem numAt_read : ∀ (l : List UInt8) (i acc n k : Nat), numAt i acc l = some (n, k) → ∃ m, l = numL m ++ l.drop (k - i) ∧ n = acc + m * 128 ^ i ∧ k = i + (numL m).length ∧ (0 < i → 0 < m) ∧ m * 128 ^ i < 18446744073709551616
  | [], i, acc, n, k, h => by simp [numAt] at h
  | b :: l, i, acc, n, k, h => by
    have hb := b.toNat_lt
    have hbb : UInt8.ofNat b.toNat = b := by simp
    have h64 : (18446744073709551616 : Nat) = 2 * 128 ^ 9 := by decide
    simp only [numAt] at h
    by_cases h10 : 10 ≤ i
    · rw [if_pos h10] at h; cases h
    rw [if_neg h10] at h
    by_cases h9 : i = 9 ∧ 1 < b.toNat
    · rw [if_pos h9] at h; cases h
    rw [if_neg h9] at h
    have hp : 128 ^ i ≤ 128 ^ 9 := Nat.pow_le_pow_right (by decide) (by omega)
    by_cases hbig : 128 ≤ b.toNat
    · rw [if_pos hbig] at h
      obtain ⟨m, h1, h2, h3, h4, h5⟩ := numAt_read l (i + 1) _ n k h
      have hm : 0 < m := h4 (by omega)
      have hq : (m * 128 + b.toNat % 128) * 128 ^ i = m * 128 ^ (i + 1) + b.toNat % 128 * 128 ^ i := by
        rw [Nat.pow_succ, Nat.add_mul, Nat.mul_assoc, Nat.mul_comm 128 (128 ^ i)]
      refine ⟨m * 128 + b.toNat % 128, ?_, by rw [hq]; omega, ?_, fun _ => by omega, ?_⟩
      · rw [numL_big (by omega), show (m * 128 + b.toNat % 128) % 128 + 128 = b.toNat from by omega, show (m * 128 + b.toNat % 128) / 128 = m from by omega, hbb]
        rw [show k - i = (k - (i + 1)) + 1 from by omega]
        simp only [List.drop_succ_cons, List.cons_append]
        rw [← h1]
      · rw [numL_big (by omega), show (m * 128 + b.toNat % 128) / 128 = m from by omega, List.length_cons]
        omega
      · -- the whole fits, as its highest byte does
        have h8 : i + 1 ≤ 9 := by
          rcases Nat.lt_or_ge i 9 with h | h
          · omega
          · exact absurd ⟨by omega, by omega⟩ h9
        have hd : 128 ^ (i + 1) ∣ 18446744073709551616 := by
          rw [h64]
          exact Nat.dvd_trans (Nat.pow_dvd_pow 128 h8) (Nat.dvd_mul_left _ _)
        obtain ⟨c, hc⟩ := hd
        have hpos : 0 < 128 ^ (i + 1) := Nat.pos_of_ne_zero (by simp)
        have hmc : m < c := by
          rw [hc, Nat.mul_comm] at h5
          exact Nat.lt_of_mul_lt_mul_left h5
        have h6 : (m + 1) * 128 ^ (i + 1) ≤ c * 128 ^ (i + 1) := Nat.mul_le_mul_right _ hmc
        have h7 : b.toNat % 128 * 128 ^ i < 128 ^ (i + 1) := by
          rw [Nat.pow_succ, Nat.mul_comm (128 ^ i)]
          exact Nat.mul_lt_mul_of_pos_right (Nat.mod_lt _ (by decide)) (Nat.pos_of_ne_zero (by simp))
        rw [hq, hc, Nat.mul_comm _ c]
        rw [Nat.add_mul] at h6
        omega
    · rw [if_neg hbig] at h
      by_cases h0 : b.toNat = 0 ∧ 0 < i
      · rw [if_pos h0] at h; cases h
      rw [if_neg h0] at h
      injection h with h
      injection h with h1 h2
      subst h1 h2
      refine ⟨b.toNat, ?_, by rw [Nat.mod_eq_of_lt (by omega)], ?_, fun hi => ?_, ?_⟩
      · rw [numL_small (by omega), hbb, show i + 1 - i = 1 from by omega]
        rfl
      · rw [numL_small (by omega)]
        rfl
      · rcases Nat.eq_zero_or_pos b.toNat with h | h
        · exact absurd ⟨h, hi⟩ h0
        · exact h
      · rcases Nat.lt_or_ge i 9 with h | h
        · have h3 : 128 ^ i ≤ 128 ^ 8 := Nat.pow_le_pow_right (by decide) (by omega)
          have h4 : b.toNat * 128 ^ i ≤ 127 * 128 ^ 8 := Nat.mul_le_mul (by omega) h3
          exact Nat.lt_of_le_of_lt h4 (by decide)
        · have h5 : i = 9 := by omega
          subst h5
          have h6 : b.toNat ≤ 1 := by
            rcases Nat.lt_or_ge 1 b.toNat with h | h
            · exact absurd ⟨rfl, h⟩ h9
            · exact h
          have h4 : b.toNat * 128 ^ 9 ≤ 1 * 128 ^ 9 := Nat.mul_le_mul_right _ h6
          exact Nat.lt_of_le_of_lt h4 (by decide)

/-! ### Reading: none: nothing is good any more -/
def rest (s : ByteArray) (k : Nat) : ByteArray := s.extract k s.size
def pNum (st : Option ByteArray) (most : Nat) : Nat × Option ByteArray :=
  match st with
  | none => (0, none)
  | some s => match numAt 0 0 s.data.toList with
    | none => (0, none)
    | some (n, k) => if n ≤ most then (n, some (rest s k)) else (0, none)
def pText (st : Option ByteArray) (most : Int) : ByteArray × Option ByteArray :=
  if most < 0 then (⟨#[]⟩, none) else
  match pNum st most.toNat with
  | (_, none) => (⟨#[]⟩, none)
  | (n, some s) => if s.size < n then (⟨#[]⟩, none) else (s.extract 0 n, some (rest s n))
/-- So many texts, one by one, behind those that were read. -/
def pTexts (most : Int) : Nat → List ByteArray → Option ByteArray → List ByteArray × Option ByteArray
  | 0, acc, st => (acc, st)
  | n + 1, acc, st => match pText st most with
    | (_, none) => ([], none)
    | (x, some s) => pTexts most n (acc ++ [x]) (some s)
def pRow (st : Option ByteArray) (many most : Int) : List ByteArray × Option ByteArray :=
  if many < 0 then ([], none) else
  match pNum st many.toNat with
  | (_, none) => ([], none)
  | (n, some s) => pTexts most n [] (some s)

end Go.Proofs.Ytembnjpflllpbaa
