/- Contracts of pack's reader: Read, Num, Text, Row. -/
import Derived.Test.YtembnjpflllpbaaPackR
import Derived.Test.YtembnjpflllpbaaStrs
namespace Go.Proofs.Ytembnjpflllpbaa
open Go.RowKit
set_option linter.unusedVariables false
set_option linter.unusedSimpArgs false

set_option maxHeartbeats 400000 in
set_option maxRecDepth 100000 in
theorem pack_Read_calls (w : World) (s : ByteArray) :
    Calls Try.prog 50 #[.string s] w fun e w' => ∃ b, e = .returned (.pointer (some ⟨b, 0, none⟩)) ∧ w.heap.size ≤ b ∧ RS 113 w' b (some s) ∧ Fr [] w w' := by
  go_enter Try.func50, Try.ntmps50
  go_wp2
  go_ret
  refine ⟨_, rfl, ?_, RS.new 113 _ s ?_, ?_⟩
  · simp
  · simp
  · first | exact (Fr.refl _ _).alloc _ | exact ((Fr.refl _ _).alloc _).alloc _

theorem z0 : (0 : Int) = ((0 : Nat) : Int) := rfl
theorem pNum_none (most : Nat) : pNum none most = (0, none) := rfl
theorem pNum_bad {s : ByteArray} {most : Nat} (h : numAt 0 0 s.data.toList = none) : pNum (some s) most = (0, none) := by simp only [pNum, h]
theorem pNum_ok {s : ByteArray} {most n k : Nat} (h : numAt 0 0 s.data.toList = some (n, k)) (hm : n ≤ most) : pNum (some s) most = (n, some (rest s k)) := by simp only [pNum, h]; rw [if_pos hm]
theorem pNum_over {s : ByteArray} {most n k : Nat} (h : numAt 0 0 s.data.toList = some (n, k)) (hm : ¬ n ≤ most) : pNum (some s) most = (0, none) := by simp only [pNum, h]; rw [if_neg hm]

set_option maxHeartbeats 1000000 in
set_option maxRecDepth 100000 in
theorem R_Num_calls (w : World) (b : Nat) (st : Option ByteArray) (most : Int) (h0 : 0 ≤ most) (h1 : most < 18446744073709551616) (h : RS 113 w b st) (hs : (st.getD ⟨#[]⟩).size ≤ 140737488355328) :
    Calls Try.prog 51 #[.pointer (some ⟨b, 0, none⟩), .int .u64 most] w fun e w' => e = .returned (.int .u64 (pNum st most.toNat).1) ∧ RS 113 w' b (pNum st most.toNat).2 ∧ Fr [b] w w' := by
  cases st with
  | none =>
    go_enter Try.func51, Try.ntmps51
    go_wp2_with fail
    (with_reducible refine (R_Rest_calls _ b _ h).mono ?_)
    rintro e w1 ⟨rfl, rfl⟩
    go_wp2_with fail
    (with_reducible refine (number_calls _ ⟨#[]⟩ (by decide)).mono ?_)
    rintro e w1 ⟨⟨n, k, rfl, hn, hk, hks, hor⟩, rfl⟩
    have hk0 : k = 0 := by
      rcases hor with ⟨_, h⟩ | ⟨h, _⟩
      · exact h
      · cases h
    subst hk0
    clear hor
    go_wp2_with fail
    (with_reducible refine (R_take_calls _ b none 0 z0 false h (by decide) (by decide)).mono ?_)
    rintro e w1 ⟨rfl, h2, hf2⟩
    go_wp2
    go_ret
    exact ⟨rfl, h2, hf2⟩
  | some s =>
    have hs0 := hs
    simp only [Option.getD_some] at hs
    go_enter Try.func51, Try.ntmps51
    go_wp2_with fail
    (with_reducible refine (R_Rest_calls _ b _ h).mono ?_)
    rintro e w1 ⟨rfl, rfl⟩
    go_wp2_with fail
    (with_reducible refine (number_calls _ s hs).mono ?_)
    rintro e w1 ⟨⟨n, k, rfl, hn, hk, hks, hor⟩, rfl⟩
    rcases hor with ⟨hno', rfl⟩ | ⟨hyes', hk0⟩
    · have hno : numAt 0 0 s.data.toList = none := hno'
      clear hno'
      have HP := Lib.hid (pNum_bad (most := most.toNat) hno)
      clear hno
      go_wp2_with fail
      (with_reducible refine (R_take_calls _ b (some s) 0 z0 false h (by decide) hs0).mono ?_)
      rintro e w1 ⟨rfl, h2, hf2⟩
      go_wp2
      go_ret
      rw [HP.out]
      exact ⟨rfl, h2, hf2⟩
    · have hyes : numAt 0 0 s.data.toList = some (n, k) := hyes'
      clear hyes'
      by_cases hm : (n : Int) ≤ most
      · have HP := Lib.hid (pNum_ok (most := most.toNat) hyes (by omega))
        have ht : pTake (some s) k true = ((s.extract 0 k, true), some (rest s k)) := by
          have hks : k ≤ s.size := hks
          simp only [pTake]
          rw [if_neg (by simp; omega)]
        have HT := Lib.hid ht
        clear hyes ht
        go_wp2_with fail
        (with_reducible refine (R_take_calls _ b (some s) k rfl true h (by omega) hs0).mono ?_)
        rw [HT.out]
        rintro e w1 ⟨rfl, h2, hf2⟩
        go_wp2
        go_ret
        rw [HP.out]
        exact ⟨rfl, h2, hf2⟩
      · have HP := Lib.hid (pNum_over (most := most.toNat) hyes (by omega))
        have hm2 : decide ((n : Int) ≤ most) = false := decide_eq_false hm
        clear hyes
        go_wp2_with fail
        (with_reducible refine (R_take_calls _ b (some s) k rfl false h (by omega) hs0).mono ?_)
        rintro e w1 ⟨rfl, h2, hf2⟩
        go_wp2
        go_ret
        rw [HP.out]
        exact ⟨rfl, h2, hf2⟩

theorem pNum_lt (st : Option ByteArray) (most : Nat) : (pNum st most).1 ≤ most := by
  cases st with
  | none => exact Nat.zero_le _
  | some s =>
    cases h : numAt 0 0 s.data.toList with
    | none => rw [pNum_bad h]; exact Nat.zero_le _
    | some p =>
      by_cases hm : p.1 ≤ most
      · rw [pNum_ok (n := p.1) (k := p.2) h hm]; exact hm
      · rw [pNum_over (n := p.1) (k := p.2) h hm]; exact Nat.zero_le _
theorem rest_size (s : ByteArray) (k : Nat) : (rest s k).size ≤ s.size := by simp only [rest, ByteArray.size_extract]; omega
theorem pNum_size (st : Option ByteArray) (most : Nat) : ((pNum st most).2.getD ⟨#[]⟩).size ≤ (st.getD ⟨#[]⟩).size := by
  cases st with
  | none => exact Nat.le_refl _
  | some s =>
    cases h : numAt 0 0 s.data.toList with
    | none => rw [pNum_bad h]; exact Nat.zero_le _
    | some p =>
      by_cases hm : p.1 ≤ most
      · rw [pNum_ok (n := p.1) (k := p.2) h hm]; exact rest_size _ _
      · rw [pNum_over (n := p.1) (k := p.2) h hm]; exact Nat.zero_le _

set_option maxHeartbeats 1000000 in
set_option maxRecDepth 100000 in
theorem R_Text_calls (w : World) (b : Nat) (st : Option ByteArray) (most : Int) (h0 : -9223372036854775808 ≤ most) (h1 : most ≤ 9223372036854775807) (h : RS 113 w b st) (hs : (st.getD ⟨#[]⟩).size ≤ 140737488355328) :
    Calls Try.prog 52 #[.pointer (some ⟨b, 0, none⟩), .int .i64 most] w fun e w' => e = .returned (.string (pText st most).1) ∧ RS 113 w' b (pText st most).2 ∧ Fr [b] w w' := by
  by_cases hneg : most < 0
  · have HT : pText st most = (⟨#[]⟩, none) := by rw [pText, if_pos hneg]
    rw [HT]
    clear HT
    have hd : decide (0 ≤ most) = false := decide_eq_false (by omega)
    go_enter Try.func52, Try.ntmps52
    go_wp2_with fail
    (with_reducible refine (R_Num_calls _ b st 0 (by decide) (by decide) h hs).mono ?_)
    rintro e w1 ⟨rfl, h2, hf2⟩
    have hp := pNum_lt st (0 : Int).toNat
    have hz := pNum_size st (0 : Int).toNat
    generalize pNum st (0 : Int).toNat = p at h2 hp hz
    obtain ⟨n, st1⟩ := p
    obtain rfl : n = 0 := by simpa using hp
    simp only at h2 hz
    go_wp2_with fail
    (with_reducible refine (R_take_calls _ b st1 0 z0 false h2 (by omega) (by omega)).mono ?_)
    rintro e w2 ⟨rfl, h3, hf3⟩
    have hpt : pTake st1 0 false = ((⟨#[]⟩, false), none) := by
      cases st1 with
      | none => rfl
      | some s => simp [pTake]
    rw [hpt] at h3 ⊢
    clear hpt
    go_wp2
    go_ret
    exact ⟨rfl, h3, hf2.trans hf3 (fun k hk => .inl hk)⟩
  · have hp := pNum_lt st most.toNat
    have hz := pNum_size st most.toNat
    have hT : pText st most = (match pNum st most.toNat with
      | (_, none) => (⟨#[]⟩, none)
      | (n, some s) => if s.size < n then (⟨#[]⟩, none) else (s.extract 0 n, some (rest s n))) := by rw [pText, if_neg hneg]; rfl
    have HT := Lib.hid hT
    clear hT
    have hmax : (if most < 0 then (0 : Int) else most) = most := if_neg hneg
    go_enter Try.func52, Try.ntmps52
    go_wp2_with fail
    (with_reducible refine (R_Num_calls _ b st most (by omega) (by omega) h hs).mono ?_)
    rintro e w1 ⟨rfl, h2, hf2⟩
    generalize hpp : pNum st most.toNat = p at h2 hp hz
    obtain ⟨n, st1⟩ := p
    have HPP := Lib.hid hpp
    clear hpp
    simp only at h2 hp hz
    go_wp2_with fail
    (with_reducible refine (R_take_calls _ b st1 n rfl true h2 (by omega) (by omega)).mono ?_)
    rintro e w2 ⟨rfl, h3, hf3⟩
    go_wp2
    go_ret
    have hF := hf2.trans hf3 (fun k hk => .inl hk)
    rw [HT.out, HPP.out]
    clear HPP
    cases st1 with
    | none => exact ⟨rfl, h3, hF⟩
    | some s =>
      by_cases hlt : s.size < n
      · simp only [pTake, hlt] at h3 ⊢
        simp at h3 ⊢
        exact ⟨h3, hF⟩
      · simp only [pTake, hlt] at h3 ⊢
        simp at h3 ⊢
        exact ⟨h3, hF⟩

theorem pText_size (st : Option ByteArray) (most : Int) : ((pText st most).2.getD ⟨#[]⟩).size ≤ (st.getD ⟨#[]⟩).size := by
  have h := pNum_size st most.toNat
  unfold pText
  split
  · exact Nat.zero_le _
  · generalize pNum st most.toNat = p at h
    obtain ⟨n, st1⟩ := p
    cases st1 with
    | none => exact Nat.zero_le _
    | some s =>
      simp only
      split
      · exact Nat.zero_le _
      · exact Nat.le_trans (rest_size _ _) h
theorem pText_dec {s x : ByteArray} {most : Int} {st : Option ByteArray} (h : pText (some s) most = (x, st)) : (st.getD ⟨#[]⟩).size + 1 ≤ s.size ∨ ((st.getD ⟨#[]⟩).size = 0 ∧ st = none) := by
  cases st with
  | none => exact .inr ⟨rfl, rfl⟩
  | some s' =>
    left
    unfold pText at h
    split at h
    · cases h
    · cases hn : numAt 0 0 s.data.toList with
      | none =>
        rw [pNum_bad hn] at h
        cases h
      | some p =>
        obtain ⟨n, k⟩ := p
        obtain ⟨m, h1, h2, h3, h4, h5⟩ := numAt_read _ _ _ _ _ hn
        have hk : k ≤ s.size := by
          have := congrArg List.length h1
          rw [List.length_append, toL_length] at this
          omega
        have hk0 : 0 < k := by have := numB_pos m; rw [numB_length] at this; omega
        by_cases hm : n ≤ most.toNat
        · rw [pNum_ok hn hm] at h
          simp only at h
          split at h
          · cases h
          · injection h with _ h
            injection h with h
            subst h
            have h6 := rest_size (rest s k) n
            have h7 : (rest s k).size = s.size - k := by simp only [rest, ByteArray.size_extract]; omega
            simp only [Option.getD_some]
            omega
        · rw [pNum_over hn hm] at h
          cases h
theorem pTexts_some (most : Int) (n : Nat) (acc : List ByteArray) (st : Option ByteArray) {x s : ByteArray} (h : pText st most = (x, some s)) : pTexts most (n + 1) acc st = pTexts most n (acc ++ [x]) (some s) := by
  rw [pTexts, h]
theorem pTexts_none (most : Int) (n : Nat) (acc : List ByteArray) (st : Option ByteArray) {x : ByteArray} (h : pText st most = (x, none)) : pTexts most (n + 1) acc st = ([], none) := by
  rw [pTexts, h]

end Go.Proofs.Ytembnjpflllpbaa
