/- Records of layer 4 (frame): what they are, plain Lean. -/
import Derived.Test.YtembnjpflllpbaaCrcPure
import Derived.Test.YtembnjpflllpbaaApp
namespace Go.Proofs.Ytembnjpflllpbaa
set_option linter.unusedVariables false

def fsize (n : Int) : Int := if 1 ≤ n ∧ n ≤ 32768 then n + 8 else 0
theorem fsize_in {n : Int} (h1 : 1 ≤ n) (h2 : n ≤ 32768) : fsize n = n + 8 := if_pos ⟨h1, h2⟩
theorem fsize_out {n : Int} (h : n < 1 ∨ 32768 < n) : fsize n = 0 := if_neg (by omega)
/-- A byte of a text. -/
def bAt (s : ByteArray) (i : Nat) : Nat := (s.data.toList.getD i 0).toNat
theorem bAt_eq {s : ByteArray} {i : Nat} (h : i < s.size) : bAt s i = (s[i]).toNat := by
  unfold bAt
  rw [List.getD_eq_getElem?_getD, List.getElem?_eq_getElem (by rw [Array.length_toList]; exact h)]
  rfl
theorem bAt_lt (s : ByteArray) (i : Nat) : bAt s i < 256 := UInt8.toNat_lt _
def headB (n : Nat) : ByteArray := ⟨#[165, UInt8.ofNat n, UInt8.ofNat (n / 256)]⟩
theorem headB_size (n : Nat) : (headB n).size = 3 := rfl
def endB : ByteArray := ⟨#[90]⟩
theorem endB_size : endB.size = 1 := rfl
/-- A text's record. -/
def wrapB (s : ByteArray) : ByteArray := if 1 ≤ s.size ∧ s.size ≤ 32768 then headB s.size ++ (bytes4 (crcSum s) ++ s) ++ endB else ⟨#[]⟩
theorem wrapB_in {s : ByteArray} (h1 : 1 ≤ s.size) (h2 : s.size ≤ 32768) : wrapB s = headB s.size ++ (bytes4 (crcSum s) ++ s) ++ endB := if_pos ⟨h1, h2⟩
theorem wrapB_out {s : ByteArray} (h : s.size = 0 ∨ 32768 < s.size) : wrapB s = ⟨#[]⟩ := if_neg (by omega)
theorem wrapB_size (s : ByteArray) : ((wrapB s).size : Int) = fsize s.size := by
  by_cases h : 1 ≤ s.size ∧ s.size ≤ 32768
  · rw [wrapB_in h.1 h.2, fsize_in (by omega) (by omega)]
    simp only [ByteArray.size_append, headB_size, bytes4_size, endB_size]
    omega
  · rw [wrapB_out (by omega), fsize_out (by omega)]
    rfl
theorem wrapB_le (s : ByteArray) : (wrapB s).size ≤ s.size + 8 := by
  have := wrapB_size s
  unfold fsize at this
  split at this <;> omega
/-- The length that a record's head tells. -/
def lenB (s : ByteArray) : Nat := bAt s 1 + 256 * bAt s 2
/-- A record stands at a text's beginning. -/
def OkB (s : ByteArray) : Prop := 7 ≤ s.size ∧ bAt s 0 = 165 ∧ 1 ≤ lenB s ∧ lenB s ≤ 32768 ∧ lenB s + 8 ≤ s.size ∧ bAt s (lenB s + 7) = 90 ∧ s.extract 3 7 = bytes4 (crcSum (s.extract 7 (7 + lenB s)))
instance (s : ByteArray) : Decidable (OkB s) := by unfold OkB; infer_instance
def nextB (s : ByteArray) : Option (ByteArray × Nat) := if OkB s then some (s.extract 7 (7 + lenB s), lenB s + 8) else none
theorem nextB_some {s : ByteArray} (h : OkB s) : nextB s = some (s.extract 7 (7 + lenB s), lenB s + 8) := if_pos h
theorem nextB_none {s : ByteArray} (h : ¬ OkB s) : nextB s = none := if_neg h
theorem nextB_le {s t : ByteArray} {k : Nat} (h : nextB s = some (t, k)) : 9 ≤ k ∧ k ≤ s.size ∧ t.size + 8 = k := by
  by_cases ho : OkB s
  · rw [nextB_some ho] at h
    injection h with h
    injection h with h1 h2
    obtain ⟨a, b, c, d, e, f, g⟩ := ho
    subst h1 h2
    rw [ByteArray.size_extract]
    omega
  · rw [nextB_none ho] at h
    cases h
/-- The records from a place on, and where each ends. -/
def scanAt (s : ByteArray) (at' : Nat) : List (ByteArray × Nat) :=
  match h : nextB (s.extract at' s.size) with
  | none => []
  | some (t, k) => (t, at' + k) :: scanAt s (at' + k)
termination_by s.size - at'
decreasing_by
  have := nextB_le h
  rw [ByteArray.size_extract] at this
  omega
theorem scanAt_none {s : ByteArray} {a : Nat} (h : nextB (s.extract a s.size) = none) : scanAt s a = [] := by
  rw [scanAt]
  split
  · rfl
  · rename_i h2
    rw [h] at h2
    cases h2
theorem scanAt_some {s t : ByteArray} {a k : Nat} (h : nextB (s.extract a s.size) = some (t, k)) : scanAt s a = (t, a + k) :: scanAt s (a + k) := by
  rw [scanAt]
  split
  · rename_i h2
    rw [h] at h2
    cases h2
  · rename_i h2
    rw [h] at h2
    injection h2 with h2
    injection h2 with h3 h4
    subst h3 h4
    rfl
def textsB (s : ByteArray) : List ByteArray := (scanAt s 0).map (·.1)
def lastOf : List (ByteArray × Nat) → Nat := List.foldl (fun _ x => x.2) 0
def endOf (s : ByteArray) : Nat := lastOf (scanAt s 0)
theorem lastOf_snoc (l : List (ByteArray × Nat)) (x : ByteArray × Nat) : lastOf (l ++ [x]) = x.2 := by simp [lastOf]
def allB : List ByteArray → ByteArray
  | [] => ⟨#[]⟩
  | s :: l => wrapB s ++ allB l
theorem allB_app : ∀ (a b : List ByteArray), allB (a ++ b) = allB a ++ allB b := by
  intro a
  induction a with
  | nil => intro b; rw [List.nil_append, allB, nil_bapp]
  | cons s l ih => intro b; rw [List.cons_append, allB, allB, ih, bapp_assoc]
theorem allB_le : ∀ (l : List ByteArray) {m : Nat}, (∀ x, x ∈ l → x.size ≤ m) → (allB l).size ≤ l.length * (m + 8) := by
  intro l
  induction l with
  | nil => intro m _; exact Nat.zero_le _
  | cons s l ih =>
    intro m h
    have h1 := wrapB_le s
    have h2 := h s (by simp)
    have h3 := ih (fun x hx => h x (by simp [hx]))
    rw [allB, ByteArray.size_append, List.length_cons, Nat.add_mul]
    omega
theorem nat_join8 (a b : Nat) (ha : a < 256) : a ||| b * 256 = a + 256 * b := by
  rw [Nat.or_comm, Nat.mul_comm b 256, show (256 : Nat) = 2 ^ 8 from rfl, ← Nat.two_pow_add_eq_or_of_lt ha]
  omega

end Go.Proofs.Ytembnjpflllpbaa
