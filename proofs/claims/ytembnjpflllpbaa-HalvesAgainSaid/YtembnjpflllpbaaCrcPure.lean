/- The sum of layer 1 (crc), plain Lean: half a byte at a time by a table, and bit by bit: the same. -/
import Derived.Test.YtembnjpflllpbaaRows2
namespace Go.Proofs.Ytembnjpflllpbaa
set_option linter.unusedVariables false

def crcTab : List Nat := [0, 498536548, 997073096, 651767980, 1994146192, 1802195444, 1303535960, 1342533948, 3988292384, 4027552580, 3604390888, 3412177804, 2607071920, 2262029012, 2685067896, 3183342108]
def crcT (k : Nat) : Nat := crcTab.getD k 0
/-- Half a byte goes in. -/
def crcHalf (r b : Nat) : Nat := crcT ((r ^^^ b) % 16) ^^^ r / 16
def crcIn (r c : Nat) : Nat := crcHalf (crcHalf r c) (c / 16)
def crcL (r : Nat) (l : List UInt8) : Nat := l.foldl (fun r c => crcIn r c.toNat) r
theorem crcL_nil (r : Nat) : crcL r [] = r := rfl
theorem crcL_cons (r : Nat) (c : UInt8) (l : List UInt8) : crcL r (c :: l) = crcL (crcIn r c.toNat) l := rfl
theorem crcT_lt (k : Nat) : crcT k < 4294967296 := by
  unfold crcT
  by_cases h : k < 16
  · have : ∀ k, k < 16 → crcTab.getD k 0 < 4294967296 := by decide
    exact this k h
  · rw [List.getD_eq_getElem?_getD, List.getElem?_eq_none (by show 16 ≤ k; omega)]
    decide
theorem xor_lt32 {a b : Nat} (ha : a < 4294967296) (hb : b < 4294967296) : a ^^^ b < 4294967296 := Nat.xor_lt_two_pow (n := 32) ha hb
theorem crcHalf_lt {r : Nat} (b : Nat) (hr : r < 4294967296) : crcHalf r b < 4294967296 := xor_lt32 (crcT_lt _) (by omega)
theorem crcIn_lt {r : Nat} (c : Nat) (hr : r < 4294967296) : crcIn r c < 4294967296 := crcHalf_lt _ (crcHalf_lt _ hr)
theorem crcL_lt : ∀ (l : List UInt8) (r : Nat), r < 4294967296 → crcL r l < 4294967296 := by
  intro l
  induction l with
  | nil => intro r h; exact h
  | cons c l ih => intro r h; exact ih _ (crcIn_lt _ h)
def crcExt (r : Nat) (s : ByteArray) : Nat := crcL (r ^^^ 4294967295) s.data.toList ^^^ 4294967295
theorem crcExt_lt {r : Nat} (s : ByteArray) (h : r < 4294967296) : crcExt r s < 4294967296 := xor_lt32 (crcL_lt _ _ (xor_lt32 h (by decide))) (by decide)
def crcSum (s : ByteArray) : Nat := crcExt 0 s
theorem crcSum_lt (s : ByteArray) : crcSum s < 4294967296 := crcExt_lt s (by decide)
/-- A sum's bytes, the lowest first. -/
def bytes4 (n : Nat) : ByteArray := ⟨#[UInt8.ofNat n, UInt8.ofNat (n / 256), UInt8.ofNat (n / 65536), UInt8.ofNat (n / 16777216)]⟩
theorem bytes4_size (n : Nat) : (bytes4 n).size = 4 := rfl
def sealB (s : ByteArray) : ByteArray := s ++ bytes4 (crcSum s)
theorem sealB_size (s : ByteArray) : (sealB s).size = s.size + 4 := by rw [sealB, ByteArray.size_append, bytes4_size]

/-! ### bit by bit -/
def crcStep (r : Nat) : Nat := if r % 2 = 1 then r / 2 ^^^ 3988292384 else r / 2
def crcSteps : Nat → Nat → Nat
  | 0, r => r
  | n + 1, r => crcSteps n (crcStep r)
theorem xor_half (a b : Nat) : (a ^^^ b) / 2 = a / 2 ^^^ b / 2 := by
  apply Nat.eq_of_testBit_eq
  intro i
  simp [Nat.testBit_xor, Nat.testBit_div_two]
theorem xor_16 (a b : Nat) : (a ^^^ b) / 16 = a / 16 ^^^ b / 16 := by
  apply Nat.eq_of_testBit_eq
  intro i
  have : ∀ x : Nat, (x / 16).testBit i = x.testBit (i + 4) := fun x => by
    rw [show x / 16 = x / 2 ^ 4 from rfl, Nat.testBit_div_two_pow]
  simp [Nat.testBit_xor, this]
theorem xor_par (a b : Nat) : (a ^^^ b) % 2 = (a % 2 + b % 2) % 2 := by
  have h : ∀ x : Nat, x % 2 = if x.testBit 0 then 1 else 0 := fun x => by
    rw [Nat.testBit_zero]
    by_cases h : x % 2 = 1
    · simp [h]
    · simp [h]; omega
  rw [h a, h b, h (a ^^^ b), Nat.testBit_xor]
  cases a.testBit 0 <;> cases b.testBit 0 <;> rfl
theorem crcStep_xor (a b : Nat) : crcStep (a ^^^ b) = crcStep a ^^^ crcStep b := by
  have hp := xor_par a b
  unfold crcStep
  rw [xor_half]
  have ha : a % 2 = 0 ∨ a % 2 = 1 := by omega
  have hb : b % 2 = 0 ∨ b % 2 = 1 := by omega
  rcases ha with ha | ha <;> rcases hb with hb | hb
  · rw [if_neg (by omega), if_neg (by omega), if_neg (by omega)]
  · rw [if_pos (by omega), if_neg (by omega), if_pos (by omega), Nat.xor_assoc]
  · rw [if_pos (by omega), if_pos (by omega), if_neg (by omega), Nat.xor_assoc, Nat.xor_assoc, Nat.xor_comm (b / 2)]
  · rw [if_neg (by omega), if_pos (by omega), if_pos (by omega), Nat.xor_assoc, Nat.xor_comm 3988292384 (b / 2 ^^^ 3988292384), Nat.xor_assoc (b / 2), Nat.xor_self, Nat.xor_zero]
theorem crcSteps_xor : ∀ (n a b : Nat), crcSteps n (a ^^^ b) = crcSteps n a ^^^ crcSteps n b := by
  intro n
  induction n with
  | zero => intro a b; rfl
  | succ n ih => intro a b; rw [crcSteps, crcStep_xor, ih]; rfl
theorem crcStep_two (m : Nat) : crcStep (2 * m) = m := by
  unfold crcStep
  rw [if_neg (by omega)]
  omega
theorem steps4_16 (q : Nat) : crcSteps 4 (16 * q) = q := by
  simp only [crcSteps]
  rw [show 16 * q = 2 * (2 * (2 * (2 * q))) from by omega, crcStep_two, crcStep_two, crcStep_two, crcStep_two]
theorem low_high (x : Nat) : x = (16 * (x / 16)) ^^^ (x % 16) := by
  apply Nat.eq_of_testBit_eq
  intro i
  rw [Nat.testBit_xor, show 16 * (x / 16) = 2 ^ 4 * (x / 2 ^ 4) from rfl, show x % 16 = x % 2 ^ 4 from rfl, Nat.testBit_two_pow_mul, Nat.testBit_mod_two_pow, Nat.testBit_div_two_pow]
  by_cases h : i < 4
  · simp [h, show ¬ 4 ≤ i from by omega]
  · have h4 : 4 ≤ i := by omega
    simp [h, h4, show i - 4 + 4 = i from by omega]
theorem steps4_low : ∀ k, k < 16 → crcSteps 4 k = crcT k := by decide
theorem steps4 (x : Nat) : crcSteps 4 x = crcT (x % 16) ^^^ x / 16 := by
  conv => lhs; rw [low_high x]
  rw [crcSteps_xor, steps4_16, steps4_low _ (Nat.mod_lt _ (by decide)), Nat.xor_comm]
theorem steps_add : ∀ (n m x : Nat), crcSteps (n + m) x = crcSteps m (crcSteps n x) := by
  intro n
  induction n with
  | zero => intro m x; rw [Nat.zero_add]; rfl
  | succ n ih => intro m x; rw [show n + 1 + m = (n + m) + 1 from by omega, crcSteps, ih]; rfl
/-- A byte at once is eight bits, one by one. -/
theorem crcIn_steps (r c : Nat) (hc : c < 256) : crcSteps 8 (r ^^^ c) = crcIn r c := by
  have h1 : crcSteps 4 (r ^^^ c) = crcHalf r c ^^^ c / 16 := by rw [steps4, xor_16, ← Nat.xor_assoc]; rfl
  rw [show (8 : Nat) = 4 + 4 from rfl, steps_add, h1, steps4, xor_16, show c / 16 / 16 = 0 from by omega, Nat.xor_zero]
  rfl

end Go.Proofs.Ytembnjpflllpbaa
