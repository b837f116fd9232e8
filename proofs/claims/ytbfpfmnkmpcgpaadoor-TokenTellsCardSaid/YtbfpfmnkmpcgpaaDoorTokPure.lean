/- What the coding of texts in digits of five bits computes: plain Lean. -/
import Derived.Test.YtbfpfmnkmpcgpaaDoorBase
namespace Go.Proofs.YtbfpfmnkmpcgpaaDoor
set_option linter.unusedVariables false

def digs : ByteArray := ⟨#[97, 98, 99, 100, 101, 102, 103, 104, 105, 106, 107, 108, 109, 110, 111, 112, 113, 114, 115, 116, 117, 118, 119, 120, 121, 122, 50, 51, 52, 53, 54, 55]⟩
/-- The digit of the lowest five bits. -/
def digC (v : Nat) : UInt8 := digs[v % 32]'(by have : digs.size = 32 := rfl; omega)
/-- The digits of the highest bits of v, of m bits. -/
def emitL (v m : Nat) : List UInt8 := if h : 5 ≤ m then digC (v / 2 ^ (m - 5)) :: emitL v (m - 5) else []
termination_by m
def encL : Nat → Nat → List UInt8 → List UInt8
  | b, n, [] => if 0 < n then emitL (b * 2 ^ (5 - n)) 5 else []
  | b, n, c :: l => emitL (b * 256 + c.toNat) (n + 8) ++ encL ((b * 256 + c.toNat) % 2 ^ ((n + 8) % 5)) ((n + 8) % 5) l
def encB (s : ByteArray) : ByteArray := ⟨(encL 0 0 s.data.toList).toArray⟩
theorem emitL_step {v m : Nat} (h : 5 ≤ m) : emitL v m = digC (v / 2 ^ (m - 5)) :: emitL v (m - 5) := by rw [emitL, dif_pos h]
theorem emitL_end {v m : Nat} (h : m < 5) : emitL v m = [] := by rw [emitL, dif_neg (by omega)]
theorem emitL_length (v : Nat) (m : Nat) : (emitL v m).length = m / 5 := by
  induction m using Nat.strongRecOn with
  | _ m ih =>
    by_cases h : 5 ≤ m
    · rw [emitL_step h, List.length_cons, ih (m - 5) (by omega)]
      omega
    · rw [emitL_end (by omega)]
      simp
      omega
/-- Behind whole groups all begins anew. -/
theorem encL_app : ∀ (x y : List UInt8) (b n : Nat), b < 2 ^ n → n < 5 → (n + 8 * x.length) % 5 = 0 → encL b n (x ++ y) = encL b n x ++ encL 0 0 y := by
  intro x
  induction x with
  | nil =>
    intro y b n hb hn hm
    have : n = 0 := by simp at hm; omega
    subst this
    have : b = 0 := by omega
    subst this
    simp [encL]
  | cons c x ih =>
    intro y b n hb hn hm
    rw [List.cons_append, encL, encL, List.append_assoc]
    congr 1
    exact ih y _ _ (Nat.mod_lt _ (Nat.two_pow_pos _)) (Nat.mod_lt _ (by decide)) (by rw [List.length_cons] at hm; omega)
theorem encL_length : ∀ (x : List UInt8) (b n : Nat), n < 5 → (encL b n x).length = (n + 8 * x.length + 4) / 5 := by
  intro x
  induction x with
  | nil =>
    intro b n hn
    rw [encL]
    by_cases h : 0 < n
    · rw [if_pos h, emitL_length]
      simp
      omega
    · rw [if_neg h]
      simp
      omega
  | cons c x ih =>
    intro b n hn
    rw [encL, List.length_append, emitL_length, ih _ _ (Nat.mod_lt _ (by decide)), List.length_cons]
    omega
theorem encB_size (s : ByteArray) : (encB s).size = (8 * s.size + 4) / 5 := by
  show (encL 0 0 s.data.toList).toArray.size = _
  rw [List.size_toArray, encL_length _ _ _ (by decide), Array.length_toList]
  show (0 + 8 * s.size + 4) / 5 = _
  omega
theorem encB_app (x y : ByteArray) (h : x.size % 5 = 0) : encB (x ++ y) = encB x ++ encB y := by
  apply ByteArray.ext
  apply Array.toList_inj.1
  simp only [encB, ByteArray.data_append, Array.toList_append]
  exact encL_app _ _ 0 0 (by decide) (by decide) (by rw [Array.length_toList]; show (0 + 8 * x.size) % 5 = 0; omega)

end Go.Proofs.YtbfpfmnkmpcgpaaDoor
