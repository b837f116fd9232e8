/- Contracts of pack's reader: Read, Num, Text, Row. -/
import Derived.Test.YtbeoegppldjpoaaDoorPackR
import Derived.Test.YtbeoegppldjpoaaDoorStrs
namespace Go.Proofs.YtbeoegppldjpoaaDoor
open Go.RowKit
set_option linter.unusedVariables false
set_option linter.unusedSimpArgs false

theorem z0 : (0 : Int) = ((0 : Nat) : Int) := rfl
theorem pNum_none (most : Nat) : pNum none most = (0, none) := rfl
theorem pNum_bad {s : ByteArray} {most : Nat} (h : numAt 0 0 s.data.toList = none) : pNum (some s) most = (0, none) := by simp only [pNum, h]
theorem pNum_ok {s : ByteArray} {most n k : Nat} (h : numAt 0 0 s.data.toList = some (n, k)) (hm : n ≤ most) : pNum (some s) most = (n, some (rest s k)) := by simp only [pNum, h]; rw [if_pos hm]
theorem pNum_over {s : ByteArray} {most n k : Nat} (h : numAt 0 0 s.data.toList = some (n, k)) (hm : ¬ n ≤ most) : pNum (some s) most = (0, none) := by simp only [pNum, h]; rw [if_neg hm]

theorem pNum_lt (st : Option ByteArray) (most : Nat) : (pNum st most).1 ≤ most := by
  cases st with
  | none => exact Nat.zero_le _
  | some s =>
    cases h : numAt 0 0 s.data.toList with
    | none => rw [pNum_bad h]; exact Nat.zero_le _
    | some p =>
      by_cases hm : p.1 ≤ most
      · rw [pNum_ok (n := p.1) (k := p.2) h hm]; exact hm
      · rw [pNum_over (n := p.1) (k := p.2) h hm]; exact Nat.zero_le _
theorem rest_size (s : ByteArray) (k : Nat) : (rest s k).size ≤ s.size := by simp only [rest, ByteArray.size_extract]; omega
theorem pNum_size (st : Option ByteArray) (most : Nat) : ((pNum st most).2.getD ⟨#[]⟩).size ≤ (st.getD ⟨#[]⟩).size := by
  cases st with
  | none => exact Nat.le_refl _
  | some s =>
    cases h : numAt 0 0 s.data.toList with
    | none => rw [pNum_bad h]; exact Nat.zero_le _
    | some p =>
      by_cases hm : p.1 ≤ most
      · rw [pNum_ok (n := p.1) (k := p.2) h hm]; exact rest_size _ _
      · rw [pNum_over (n := p.1) (k := p.2) h hm]; exact Nat.zero_le _

theorem pText_size (st : Option ByteArray) (most : Int) : ((pText st most).2.getD ⟨#[]⟩).size ≤ (st.getD ⟨#[]⟩).size := by
  have h := pNum_size st most.toNat
  unfold pText
  split
  · exact Nat.zero_le _
  · generalize pNum st most.toNat = p at h
    obtain ⟨n, st1⟩ := p
    cases st1 with
    | none => exact Nat.zero_le _
    | some s =>
      simp only
      split
      · exact Nat.zero_le _
      · exact Nat.le_trans (rest_size _ _) h
theorem pText_dec {s x : ByteArray} {most : Int} {st : Option ByteArray} (h : pText (some s) most = (x, st)) : (st.getD ⟨#[]⟩).size + 1 ≤ s.size ∨ ((st.getD ⟨#[]⟩).size = 0 ∧ st = none) := by
  cases st with
  | none => exact .inr ⟨rfl, rfl⟩
  | some s' =>
    left
    unfold pText at h
    split at h
    · cases h
    · cases hn : numAt 0 0 s.data.toList with
      | none =>
        rw [pNum_bad hn] at h
        cases h
      | some p =>
        obtain ⟨n, k⟩ := p
        obtain ⟨m, h1, h2, h3, h4, h5⟩ := numAt_read _ _ _ _ _ hn
        have hk : k ≤ s.size := by
          have := congrArg List.length h1
          rw [List.length_append, toL_length] at this
          omega
        have hk0 : 0 < k := by have := numB_pos m; rw [numB_length] at this; omega
        by_cases hm : n ≤ most.toNat
        · rw [pNum_ok hn hm] at h
          simp only at h
          split at h
          · cases h
          · injection h with _ h
            injection h with h
            subst h
            have h6 := rest_size (rest s k) n
            have h7 : (rest s k).size = s.size - k := by simp only [rest, ByteArray.size_extract]; omega
            simp only [Option.getD_some]
            omega
        · rw [pNum_over hn hm] at h
          cases h
theorem pTexts_some (most : Int) (n : Nat) (acc : List ByteArray) (st : Option ByteArray) {x s : ByteArray} (h : pText st most = (x, some s)) : pTexts most (n + 1) acc st = pTexts most n (acc ++ [x]) (some s) := by
  rw [pTexts, h]
theorem pTexts_none (most : Int) (n : Nat) (acc : List ByteArray) (st : Option ByteArray) {x : ByteArray} (h : pText st most = (x, none)) : pTexts most (n + 1) acc st = ([], none) := by
  rw [pTexts, h]

end Go.Proofs.YtbeoegppldjpoaaDoor
