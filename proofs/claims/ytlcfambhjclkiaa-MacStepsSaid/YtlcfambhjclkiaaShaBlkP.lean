/- The plain side of the document's block: its words and its two choices are the program's. -/
import Derived.Test.YtlcfambhjclkiaaShaDoc
import Derived.Test.YtlcfambhjclkiaaShaIn
namespace Go.Proofs.Ytlcfambhjclkiaa
set_option linter.unusedVariables false
set_option linter.unusedSimpArgs false

theorem ch_or {e f g : Nat} (he : e < 4294967296) (hf : f < 4294967296) (hg : g < 4294967296) : (e &&& f) ||| ((e ^^^ 4294967295) &&& g) = shaCh e f g := by
  rw [shaCh]
  apply Nat.eq_of_testBit_eq
  intro i
  by_cases hi : i < 32
  · have hm : (4294967295 : Nat).testBit i = true := by
      have := Nat.testBit_two_pow_sub_one 32 i
      rw [show (2 : Nat) ^ 32 - 1 = 4294967295 from rfl] at this
      rw [this]; exact decide_eq_true hi
    simp only [Nat.testBit_or, Nat.testBit_and, Nat.testBit_xor, hm]
    cases e.testBit i <;> cases f.testBit i <;> cases g.testBit i <;> rfl
  · have h32 : (4294967296 : Nat) ≤ 2 ^ i := by
      have := Nat.pow_le_pow_right (n := 2) (by decide) (show 32 ≤ i by omega)
      exact this
    have hE := Nat.testBit_lt_two_pow (Nat.lt_of_lt_of_le he h32)
    have hF := Nat.testBit_lt_two_pow (Nat.lt_of_lt_of_le hf h32)
    have hG := Nat.testBit_lt_two_pow (Nat.lt_of_lt_of_le hg h32)
    simp only [Nat.testBit_or, Nat.testBit_and, Nat.testBit_xor, hE, hF, hG]
    simp
theorem maj_or (a b c : Nat) : (a &&& b) ||| (a &&& c) ||| (b &&& c) = shaMaj a b c := by
  rw [shaMaj]
  apply Nat.eq_of_testBit_eq
  intro i
  simp only [Nat.testBit_or, Nat.testBit_and]
  cases a.testBit i <;> cases b.testBit i <;> cases c.testBit i <;> rfl

/-- A word of the document: four bytes, the first one on top. -/
def bkWord (s : List UInt8) (i : Nat) : Nat := (s.getD (4 * i) 0).toNat * 16777216 + (s.getD (4 * i + 1) 0).toNat * 65536 + (s.getD (4 * i + 2) 0).toNat * 256 + (s.getD (4 * i + 3) 0).toNat
/-- The document's words, i of them done. -/
def bkW (s : List UInt8) : Nat → List Nat
  | 0 => List.replicate 64 0
  | i + 1 => if i < 16 then (bkW s i).set i (bkWord s i) else shaE (bkW s i) i
theorem bkW_len (s : List UInt8) : ∀ i, (bkW s i).length = 64
  | 0 => by rw [bkW, List.length_replicate]
  | i + 1 => by
    rw [bkW]
    by_cases h : i < 16
    · rw [if_pos h, List.length_set]; exact bkW_len s i
    · rw [if_neg h, shaE, List.length_set]; exact bkW_len s i
theorem or256 (x b : Nat) (hb : b < 256) : x * 256 ||| b = x * 256 + b := by
  have := Nat.two_pow_add_eq_or_of_lt (i := 8) (b := b) hb x
  rw [show (2 : Nat) ^ 8 = 256 from rfl, Nat.mul_comm] at this
  exact this.symm
theorem step256 (x b M : Nat) (hb : b < 256) (hx : x < 16777216) : x * 256 % 4294967296 ||| b = x * 256 + b := by
  rw [Nat.mod_eq_of_lt (by omega), or256 _ _ hb]
theorem bkW_zero (s : List UInt8) : ∀ i j, i ≤ 16 → i ≤ j → (bkW s i).getD j 0 = 0
  | 0, j, _, _ => by
    rw [bkW, List.getD_eq_getElem?_getD, List.getElem?_replicate]
    by_cases h : j < 64
    · rw [if_pos h]; rfl
    · rw [if_neg h]; rfl
  | i + 1, j, h, hj => by
    have ih := bkW_zero s i j (by omega) (by omega)
    rw [List.getD_eq_getElem?_getD] at ih
    rw [bkW, if_pos (by omega), List.getD_eq_getElem?_getD, List.getElem?_set_ne (by omega)]
    exact ih
theorem set_getD (l : List Nat) (k v : Nat) (hk : k < l.length) : (l.set k v).getD k 0 = v := by
  rw [List.getD_eq_getElem?_getD, List.getElem?_set_self hk]; rfl
theorem bkW_bytes (s : List UInt8) : ∀ k, k ≤ 16 → shaBs s (4 * k) = bkW s k
  | 0, _ => by rw [bkW]; rfl
  | k + 1, h => by
    have ih := bkW_bytes s k (by omega)
    have hz := bkW_zero s k k (by omega) (Nat.le_refl _)
    have hl : k < (bkW s k).length := by rw [bkW_len]; omega
    rw [show 4 * (k + 1) = 4 * k + 1 + 1 + 1 + 1 from by omega, shaBs, shaBs, shaBs, shaBs, ih, bkW, if_pos (by omega)]
    simp only [shaB]
    rw [show 4 * k / 4 = k from by omega, show (4 * k + 1) / 4 = k from by omega, show (4 * k + 1 + 1) / 4 = k from by omega, show (4 * k + 1 + 1 + 1) / 4 = k from by omega]
    have b0 := (s.getD (4 * k) 0).toNat_lt
    have b1 := (s.getD (4 * k + 1) 0).toNat_lt
    have b2 := (s.getD (4 * k + 2) 0).toNat_lt
    have b3 := (s.getD (4 * k + 3) 0).toNat_lt
    rw [set_getD _ _ _ (by simpa using hl), set_getD _ _ _ (by simpa using hl), set_getD _ _ _ (by simpa using hl), hz]
    simp only [List.set_set]
    congr 1
    rw [bkWord]
    generalize (s.getD (4 * k) 0).toNat = c0 at b0 ⊢
    generalize (s.getD (4 * k + 1) 0).toNat = c1 at b1 ⊢
    rw [show 4 * k + 1 + 1 = 4 * k + 2 from rfl, show 4 * k + 2 + 1 = 4 * k + 3 from rfl]
    generalize (s.getD (4 * k + 2) 0).toNat = c2 at b2 ⊢
    generalize (s.getD (4 * k + 3) 0).toNat = c3 at b3 ⊢
    rw [step256 0 c0 0 (by omega) (by omega), step256 _ c1 0 (by omega) (by omega), step256 _ c2 0 (by omega) (by omega), step256 _ c3 0 (by omega) (by omega)]
    omega
theorem bkW_more (s : List UInt8) : ∀ n, bkW s (16 + n) = shaEs (bkW s 16) n
  | 0 => by rw [shaEs]
  | n + 1 => by
    rw [show 16 + (n + 1) = (16 + n) + 1 from by omega, bkW, if_neg (by omega), shaEs, bkW_more s n]
    first | rfl | rw [Nat.add_comm]
theorem bkW_all (s : List UInt8) : bkW s 64 = shaWs s := by
  rw [show 64 = 16 + 48 from rfl, bkW_more, shaWs, ← bkW_bytes s 16 (Nat.le_refl _)]
theorem bkWord_lt (s : List UInt8) (i : Nat) : bkWord s i < 4294967296 := by
  have b0 := (s.getD (4 * i) 0).toNat_lt
  have b1 := (s.getD (4 * i + 1) 0).toNat_lt
  have b2 := (s.getD (4 * i + 2) 0).toNat_lt
  have b3 := (s.getD (4 * i + 3) 0).toNat_lt
  rw [bkWord]; omega
end Go.Proofs.Ytlcfambhjclkiaa
