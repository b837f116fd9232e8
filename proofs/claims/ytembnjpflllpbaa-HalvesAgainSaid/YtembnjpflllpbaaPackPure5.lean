/- What pack's reader reads, was written so: pure laws (taken out of PackOnce, EvRead and EvPure). -/
import Derived.Test.YtembnjpflllpbaaPackR2
import Derived.Test.YtembnjpflllpbaaPackPure2
import Derived.Test.YtembnjpflllpbaaPackPure4
namespace Go.Proofs.Ytembnjpflllpbaa
open Go.RowKit
set_option linter.unusedVariables false
set_option linter.unusedSimpArgs false

theorem pNum_cases (s : ByteArray) (most : Nat) : (pNum (some s) most).1 = 0 ∧ (pNum (some s) most).2 = none ∨ ∃ n k, pNum (some s) most = (n, some (rest s k)) ∧ n ≤ most ∧ s = numB n ++ rest s k ∧ n < 18446744073709551616 := by
  cases h : numAt 0 0 s.data.toList with
  | none => left; rw [pNum_bad h]; exact ⟨rfl, rfl⟩
  | some p =>
    obtain ⟨n, k⟩ := p
    by_cases hm : n ≤ most
    · right
      refine ⟨n, k, pNum_ok h hm, hm, ?_, ?_⟩
      · obtain ⟨m, h1, h2, h3, h4, h5⟩ := numAt_read _ _ _ _ _ h
        have hmn : m = n := by rw [h2]; simp
        subst hmn
        rw [Nat.zero_add] at h3
        rw [Nat.sub_zero] at h1
        apply eq_of_toL
        rw [toL_app, numB_toL]
        refine h1.trans ?_
        congr 1
        simp only [rest, ByteArray.data_extract, Array.toList_extract, List.extract_eq_take_drop]
        rw [List.take_of_length_le (by rw [List.length_drop, toL_length]; omega)]
      · obtain ⟨m, h1, h2, h3, h4, h5⟩ := numAt_read _ _ _ _ _ h
        omega
    · left; rw [pNum_over h hm]; exact ⟨rfl, rfl⟩

theorem pNum_back {s t : ByteArray} {most : Nat} (h : (pNum (some s) most).2 = some t) : s = numB (pNum (some s) most).1 ++ t := by
  rcases pNum_cases s most with ⟨_, h2⟩ | ⟨n, k, h1, h2, h3, h4⟩
  · rw [h2] at h
    cases h
  · rw [h1] at h ⊢
    injection h with h
    rw [← h]
    exact h3
theorem pNum_nil (most : Nat) : pNum none most = (0, none) := rfl
theorem pText_nil (most : Int) : pText none most = (⟨#[]⟩, none) := by
  unfold pText
  split
  · rfl
  · rfl
theorem pText_back {s t : ByteArray} {most : Int} (h : (pText (some s) most).2 = some t) : s = txtB (pText (some s) most).1 ++ t := by
  have hc := pNum_cases s most.toNat
  unfold pText at h ⊢
  split at h
  · cases h
  · next hm =>
    rw [if_neg hm]
    rcases hc with ⟨_, h2⟩ | ⟨n, k, h1, h2, h3, h4⟩
    · generalize pNum (some s) most.toNat = p at *
      obtain ⟨a, b⟩ := p
      simp only at h2
      subst h2
      cases h
    · rw [h1] at h ⊢
      simp only at h ⊢
      split at h
      · cases h
      · next hn =>
        rw [if_neg hn]
        injection h with h
        simp only
        have hsz : ((rest s k).extract 0 n).size = n := by rw [ByteArray.size_extract]; omega
        rw [← h, txtB, hsz, app_assoc, rest, rest, extract_app]
        exact h3
theorem pText_fst (st : Option ByteArray) (most : Int) : (pText st most).1.size ≤ most.toNat := by
  have h := pNum_lt st most.toNat
  unfold pText
  split
  · exact Nat.zero_le _
  · split
    · exact Nat.zero_le _
    · next n s he =>
      rw [he] at h
      split
      · exact Nat.zero_le _
      · simp only [ByteArray.size_extract]
        simp only at h
        omega

end Go.Proofs.Ytembnjpflllpbaa
