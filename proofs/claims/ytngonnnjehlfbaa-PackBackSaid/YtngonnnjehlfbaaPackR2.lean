/- Contracts of pack's reader: Read, Num, Text, Row. -/
import Derived.Test.YtngonnnjehlfbaaPackR
import Derived.Test.YtngonnnjehlfbaaStrs
namespace Go.Proofs.Ytngonnnjehlfbaa
open Go.RowKit
set_option linter.unusedVariables false
set_option linter.unusedSimpArgs false

set_option maxHeartbeats 400000 in
set_option maxRecDepth 100000 in
theorem pack_Read_calls (w : World) (s : ByteArray) :
    Calls Try.prog 37 #[.string s] w fun e w' => ∃ b, e = .returned (.pointer (some ⟨b, 0, none⟩)) ∧ w.heap.size ≤ b ∧ RS 91 w' b (some s) ∧ Fr [] w w' := by
  go_enter Try.func37, Try.ntmps37
  go_wp2
  go_ret
  refine ⟨_, rfl, ?_, RS.new 91 _ s ?_, ?_⟩
  · simp
  · simp
  · first | exact (Fr.refl _ _).alloc _ | exact ((Fr.refl _ _).alloc _).alloc _

theorem z0 : (0 : Int) = ((0 : Nat) : Int) := rfl
theorem pNum_none (most : Nat) : pNum none most = (0, none) := rfl
theorem pNum_bad {s : ByteArray} {most : Nat} (h : numAt 0 0 s.data.toList = none) : pNum (some s) most = (0, none) := by simp only [pNum, h]
theorem pNum_ok {s : ByteArray} {most n k : Nat} (h : numAt 0 0 s.data.toList = some (n, k)) (hm : n ≤ most) : pNum (some s) most = (n, some (rest s k)) := by simp only [pNum, h]; rw [if_pos hm]
theorem pNum_over {s : ByteArray} {most n k : Nat} (h : numAt 0 0 s.data.toList = some (n, k)) (hm : ¬ n ≤ most) : pNum (some s) most = (0, none) := by simp only [pNum, h]; rw [if_neg hm]

set_option maxHeartbeats 1000000 in
set_option maxRecDepth 100000 in
theorem R_Num_calls (w : World) (b : Nat) (st : Option ByteArray) (most : Int) (h0 : 0 ≤ most) (h1 : most < 18446744073709551616) (h : RS 91 w b st) (hs : (st.getD ⟨#[]⟩).size ≤ 140737488355328) :
    Calls Try.prog 38 #[.pointer (some ⟨b, 0, none⟩), .int .u64 most] w fun e w' => e = .returned (.int .u64 (pNum st most.toNat).1) ∧ RS 91 w' b (pNum st most.toNat).2 ∧ Fr [b] w w' := by
  cases st with
  | none =>
    go_enter Try.func38, Try.ntmps38
    go_wp2_with fail
    (with_reducible refine (R_Rest_calls _ b _ h).mono ?_)
    rintro e w1 ⟨rfl, rfl⟩
    go_wp2_with fail
    (with_reducible refine (number_calls _ ⟨#[]⟩ (by decide)).mono ?_)
    rintro e w1 ⟨⟨n, k, rfl, hn, hk, hks, hor⟩, rfl⟩
    have hk0 : k = 0 := by
      rcases hor with ⟨_, h⟩ | ⟨h, _⟩
      · exact h
      · cases h
    subst hk0
    clear hor
    go_wp2_with fail
    (with_reducible refine (R_take_calls _ b none 0 z0 false h (by decide) (by decide)).mono ?_)
    rintro e w1 ⟨rfl, h2, hf2⟩
    go_wp2
    go_ret
    exact ⟨rfl, h2, hf2⟩
  | some s =>
    have hs0 := hs
    simp only [Option.getD_some] at hs
    go_enter Try.func38, Try.ntmps38
    go_wp2_with fail
    (with_reducible refine (R_Rest_calls _ b _ h).mono ?_)
    rintro e w1 ⟨rfl, rfl⟩
    go_wp2_with fail
    (with_reducible refine (number_calls _ s hs).mono ?_)
    rintro e w1 ⟨⟨n, k, rfl, hn, hk, hks, hor⟩, rfl⟩
    rcases hor with ⟨hno', rfl⟩ | ⟨hyes', hk0⟩
    · have hno : numAt 0 0 s.data.toList = none := hno'
      clear hno'
      have HP := Lib.hid (pNum_bad (most := most.toNat) hno)
      clear hno
      go_wp2_with fail
      (with_reducible refine (R_take_calls _ b (some s) 0 z0 false h (by decide) hs0).mono ?_)
      rintro e w1 ⟨rfl, h2, hf2⟩
      go_wp2
      go_ret
      rw [HP.out]
      exact ⟨rfl, h2, hf2⟩
    · have hyes : numAt 0 0 s.data.toList = some (n, k) := hyes'
      clear hyes'
      by_cases hm : (n : Int) ≤ most
      · have HP := Lib.hid (pNum_ok (most := most.toNat) hyes (by omega))
        have ht : pTake (some s) k true = ((s.extract 0 k, true), some (rest s k)) := by
          have hks : k ≤ s.size := hks
          simp only [pTake]
          rw [if_neg (by simp; omega)]
        have HT := Lib.hid ht
        clear hyes ht
        go_wp2_with fail
        (with_reducible refine (R_take_calls _ b (some s) k rfl true h (by omega) hs0).mono ?_)
        rw [HT.out]
        rintro e w1 ⟨rfl, h2, hf2⟩
        go_wp2
        go_ret
        rw [HP.out]
        exact ⟨rfl, h2, hf2⟩
      · have HP := Lib.hid (pNum_over (most := most.toNat) hyes (by omega))
        have hm2 : decide ((n : Int) ≤ most) = false := decide_eq_false hm
        clear hyes
        go_wp2_with fail
        (with_reducible refine (R_take_calls _ b (some s) k rfl false h (by omega) hs0).mono ?_)
        rintro e w1 ⟨rfl, h2, hf2⟩
        go_wp2
        go_ret
        rw [HP.out]
        exact ⟨rfl, h2, hf2⟩

theorem pNum_lt (st : Option ByteArray) (most : Nat) : (pNum st most).1 ≤ most := by
  cases st with
  | none => exact Nat.zero_le _
  | some s =>
    cases h : numAt 0 0 s.data.toList with
    | none => rw [pNum_bad h]; exact Nat.zero_le _
    | some p =>
      by_cases hm : p.1 ≤ most
      · rw [pNum_ok (n := p.1) (k := p.2) h hm]; exact hm
      · rw [pNum_over (n := p.1) (k := p.2) h hm]; exact Nat.zero_le _
theorem rest_size (s : ByteArray) (k : Nat) : (rest s k).size ≤ s.size := by simp only [rest, ByteArray.size_extract]; omega
theorem pNum_size (st : Option ByteArray) (most : Nat) : ((pNum st most).2.getD ⟨#[]⟩).size ≤ (st.getD ⟨#[]⟩).size := by
  cases st with
  | none => exact Nat.le_refl _
  | some s =>
    cases h : numAt 0 0 s.data.toList with
    | none => rw [pNum_bad h]; exact Nat.zero_le _
    | some p =>
      by_cases hm : p.1 ≤ most
      · rw [pNum_ok (n := p.1) (k := p.2) h hm]; exact rest_size _ _
      · rw [pNum_over (n := p.1) (k := p.2) h hm]; exact Nat.zero_le _

set_option maxHeartbeats 1000000 in
set_option maxRecDepth 100000 in
theorem R_Text_calls (w : World) (b : Nat) (st : Option ByteArray) (most : Int) (h0 : -9223372036854775808 ≤ most) (h1 : most ≤ 9223372036854775807) (h : RS 91 w b st) (hs : (st.getD ⟨#[]⟩).size ≤ 140737488355328) :
    Calls Try.prog 41 #[.pointer (some ⟨b, 0, none⟩), .int .i64 most] w fun e w' => e = .returned (.string (pText st most).1) ∧ RS 91 w' b (pText st most).2 ∧ Fr [b] w w' := by
  by_cases hneg : most < 0
  · have HT : pText st most = (⟨#[]⟩, none) := by rw [pText, if_pos hneg]
    rw [HT]
    clear HT
    have hd : decide (0 ≤ most) = false := decide_eq_false (by omega)
    go_enter Try.func41, Try.ntmps41
    go_wp2_with fail
    (with_reducible refine (R_Num_calls _ b st 0 (by decide) (by decide) h hs).mono ?_)
    rintro e w1 ⟨rfl, h2, hf2⟩
    have hp := pNum_lt st (0 : Int).toNat
    have hz := pNum_size st (0 : Int).toNat
    generalize pNum st (0 : Int).toNat = p at h2 hp hz
    obtain ⟨n, st1⟩ := p
    obtain rfl : n = 0 := by simpa using hp
    simp only at h2 hz
    go_wp2_with fail
    (with_reducible refine (R_take_calls _ b st1 0 z0 false h2 (by omega) (by omega)).mono ?_)
    rintro e w2 ⟨rfl, h3, hf3⟩
    have hpt : pTake st1 0 false = ((⟨#[]⟩, false), none) := by
      cases st1 with
      | none => rfl
      | some s => simp [pTake]
    rw [hpt] at h3 ⊢
    clear hpt
    go_wp2
    go_ret
    exact ⟨rfl, h3, hf2.trans hf3 (fun k hk => .inl hk)⟩
  · have hp := pNum_lt st most.toNat
    have hz := pNum_size st most.toNat
    have hT : pText st most = (match pNum st most.toNat with
      | (_, none) => (⟨#[]⟩, none)
      | (n, some s) => if s.size < n then (⟨#[]⟩, none) else (s.extract 0 n, some (rest s n))) := by rw [pText, if_neg hneg]; rfl
    have HT := Lib.hid hT
    clear hT
    have hmax : (if most < 0 then (0 : Int) else most) = most := if_neg hneg
    go_enter Try.func41, Try.ntmps41
    go_wp2_with fail
    (with_reducible refine (R_Num_calls _ b st most (by omega) (by omega) h hs).mono ?_)
    rintro e w1 ⟨rfl, h2, hf2⟩
    generalize hpp : pNum st most.toNat = p at h2 hp hz
    obtain ⟨n, st1⟩ := p
    have HPP := Lib.hid hpp
    clear hpp
    simp only at h2 hp hz
    go_wp2_with fail
    (with_reducible refine (R_take_calls _ b st1 n rfl true h2 (by omega) (by omega)).mono ?_)
    rintro e w2 ⟨rfl, h3, hf3⟩
    go_wp2
    go_ret
    have hF := hf2.trans hf3 (fun k hk => .inl hk)
    rw [HT.out, HPP.out]
    clear HPP
    cases st1 with
    | none => exact ⟨rfl, h3, hF⟩
    | some s =>
      by_cases hlt : s.size < n
      · simp only [pTake, hlt] at h3 ⊢
        simp at h3 ⊢
        exact ⟨h3, hF⟩
      · simp only [pTake, hlt] at h3 ⊢
        simp at h3 ⊢
        exact ⟨h3, hF⟩

theorem pText_size (st : Option ByteArray) (most : Int) : ((pText st most).2.getD ⟨#[]⟩).size ≤ (st.getD ⟨#[]⟩).size := by
  have h := pNum_size st most.toNat
  unfold pText
  split
  · exact Nat.zero_le _
  · generalize pNum st most.toNat = p at h
    obtain ⟨n, st1⟩ := p
    cases st1 with
    | none => exact Nat.zero_le _
    | some s =>
      simp only
      split
      · exact Nat.zero_le _
      · exact Nat.le_trans (rest_size _ _) h
theorem pText_dec {s x : ByteArray} {most : Int} {st : Option ByteArray} (h : pText (some s) most = (x, st)) : (st.getD ⟨#[]⟩).size + 1 ≤ s.size ∨ ((st.getD ⟨#[]⟩).size = 0 ∧ st = none) := by
  cases st with
  | none => exact .inr ⟨rfl, rfl⟩
  | some s' =>
    left
    unfold pText at h
    split at h
    · cases h
    · cases hn : numAt 0 0 s.data.toList with
      | none =>
        rw [pNum_bad hn] at h
        cases h
      | some p =>
        obtain ⟨n, k⟩ := p
        obtain ⟨m, h1, h2, h3, h4, h5⟩ := numAt_read _ _ _ _ _ hn
        have hk : k ≤ s.size := by
          have := congrArg List.length h1
          rw [List.length_append, toL_length] at this
          omega
        have hk0 : 0 < k := by have := numB_pos m; rw [numB_length] at this; omega
        by_cases hm : n ≤ most.toNat
        · rw [pNum_ok hn hm] at h
          simp only at h
          split at h
          · cases h
          · injection h with _ h
            injection h with h
            subst h
            have h6 := rest_size (rest s k) n
            have h7 : (rest s k).size = s.size - k := by simp only [rest, ByteArray.size_extract]; omega
            simp only [Option.getD_some]
            omega
        · rw [pNum_over hn hm] at h
          cases h
theorem pTexts_some (most : Int) (n : Nat) (acc : List ByteArray) (st : Option ByteArray) {x s : ByteArray} (h : pText st most = (x, some s)) : pTexts most (n + 1) acc st = pTexts most n (acc ++ [x]) (some s) := by
  rw [pTexts, h]
theorem pTexts_none (most : Int) (n : Nat) (acc : List ByteArray) (st : Option ByteArray) {x : ByteArray} (h : pText st most = (x, none)) : pTexts most (n + 1) acc st = ([], none) := by
  rw [pTexts, h]

set_option maxHeartbeats 2000000 in
set_option maxRecDepth 100000 in
theorem R_Row_calls (w : World) (b : Nat) (st : Option ByteArray) (many most : Int) (hm0 : -9223372036854775808 ≤ many) (hm1 : many ≤ 9223372036854775807) (h0 : -9223372036854775808 ≤ most) (h1 : most ≤ 9223372036854775807) (h : RS 91 w b st) (hs : (st.getD ⟨#[]⟩).size ≤ 1099511627776) :
    Calls Try.prog 43 #[.pointer (some ⟨b, 0, none⟩), .int .i64 many, .int .i64 most] w fun e w' => ∃ v r, e = .returned v ∧ SRow 9 1 w' v r (pRow st many most).1.length ((pRow st many most).1.map .string) ∧ RS 91 w' b (pRow st many most).2 ∧ Fr [b] w w' ∧ (∀ k, k ∈ r → w.heap.size ≤ k) := by
  by_cases hneg : many < 0
  · have HT : pRow st many most = ([], none) := by rw [pRow, if_pos hneg]
    rw [HT]
    clear HT
    have hd : decide (0 ≤ many) = false := decide_eq_false (by omega)
    go_enter Try.func43, Try.ntmps43
    go_wp2_with fail
    (with_reducible refine (R_Num_calls _ b st 0 (by decide) (by decide) h (by omega)).mono ?_)
    rintro e w1 ⟨rfl, h2, hf2⟩
    have hz := pNum_size st (0 : Int).toNat
    generalize pNum st (0 : Int).toNat = p at h2 hz
    obtain ⟨n, st1⟩ := p
    simp only at h2 hz
    go_wp2_with fail
    (with_reducible refine (R_take_calls _ b st1 0 z0 false h2 (by omega) (by omega)).mono ?_)
    rintro e w2 ⟨rfl, h3, hf3⟩
    have hpt : pTake st1 0 false = ((⟨#[]⟩, false), none) := by
      cases st1 with
      | none => rfl
      | some s => simp [pTake]
    rw [hpt] at h3 ⊢
    clear hpt
    go_wp2_with fail
    refine wp_loop_once ?_
    go_wp2
    go_ret
    exact ⟨_, [], rfl, SRow.nil _ _ _, h3, hf2.trans hf3 (fun k hk => .inl hk), by simp⟩
  · have hb0 := h.lt
    have hp := pNum_lt st many.toNat
    have hz := pNum_size st many.toNat
    have hmax : (if many < 0 then (0 : Int) else many) = many := if_neg hneg
    have hT : pRow st many most = (match pNum st many.toNat with
      | (_, none) => ([], none)
      | (n, some s) => pTexts most n [] (some s)) := by rw [pRow, if_neg hneg]; rfl
    have HT := Lib.hid hT
    clear hT
    go_enter Try.func43, Try.ntmps43
    go_wp2_with fail
    (with_reducible refine (R_Num_calls _ b st many (by omega) (by omega) h (by omega)).mono ?_)
    rintro e w1 ⟨rfl, h2, hf2⟩
    generalize hpp : pNum st many.toNat = p at h2 hp hz
    obtain ⟨n, st1⟩ := p
    have HPP := Lib.hid hpp
    clear hpp hmax
    simp only at h2 hp hz
    have hn : n ≤ 9223372036854775807 := by omega
    go_wp2_with fail
    (with_reducible refine (R_take_calls _ b st1 0 z0 true h2 (by omega) (by omega)).mono ?_)
    rintro e w2 ⟨rfl, h3, hf3⟩
    have hF := hf2.trans hf3 (fun k hk => .inl hk)
    clear hf2 hf3 h2 h
    cases st1 with
    | none =>
      have hq : pRow st many most = ([], none) := by rw [HT.out, HPP.out]
      have HQ := Lib.hid hq
      clear hq HT HPP
      go_wp2_with fail
      refine wp_loop_once ?_
      go_wp2
      go_ret
      rw [HQ.out]
      exact ⟨_, [], rfl, SRow.nil _ _ _, h3, hF, by simp⟩
    | some s =>
      have hpt : pTake (some s) 0 true = ((s.extract 0 0, true), some (rest s 0)) := by simp [pTake]
      have hq : pRow st many most = pTexts most n [] (some s) := by rw [HT.out, HPP.out]
      have hr0 : rest s 0 = s := by
        apply ByteArray.ext
        simp only [rest, ByteArray.data_extract]
        exact Array.extract_size
      rw [hpt, hr0] at h3
      rw [hpt]
      simp only [Option.getD_some] at hz
      have HQ := Lib.hid hq
      clear hq HT HPP hpt hr0
      have hbw : b < w.heap.size := hb0
      go_wp2_with fail
      go_loopw [9, 10, 11] (fun v9 v10 v11 wr => ∃ (st2 : Option ByteArray) (i : Nat) (acc : List ByteArray) (r : List Nat), v9 = .bool st2.isSome ∧ v11 = .int .u64 i ∧ i ≤ n ∧ Hid (st2 = none ∨ acc.length + (st2.getD ⟨#[]⟩).size ≤ s.size) ∧ Hid (SRow 9 1 wr v10 r acc.length (acc.map .string) ∧ RS 91 wr b st2 ∧ Fr [b] w wr ∧ (∀ k, k ∈ r → w.heap.size ≤ k) ∧ (match st2 with
          | none => pTexts most n [] (some s) = ([], none)
          | some s' => pTexts most n [] (some s) = pTexts most (n - i) acc (some s')))) (fun _ _ v11 _ => n - (intOf v11).toNat)
      case atStart => exact ⟨some s, 0, [], [], rfl, rfl, Nat.zero_le _, .inr (by simp only [Option.getD_some, List.length_nil]; omega), SRow.nil _ _ _, h3, hF, by simp, rfl⟩
      case round =>
        clear h3 hF
        obtain ⟨st2, i, acc, r, rfl, rfl, hi, HSZ, H⟩ := hrel
        cases st2 with
        | none =>
          have hq2 : pRow st many most = ([], none) := by rw [HQ.out]; exact H.out.2.2.2.2
          have HQ2 := Lib.hid hq2
          obtain ⟨h4, h5, h6, h7, _⟩ := H.out
          clear hq2 HQ H
          go_wp2
          go_ret
          rw [HQ2.out]
          exact ⟨_, rfl, [], SRow.nil _ _ _, h5, h6, by simp⟩
        | some s' =>
          by_cases hin : i < n
          · have hsz : acc.length + s'.size ≤ s.size := HSZ.out.elim (fun h => by cases h) (fun h => h)
            obtain ⟨h4, h5, h6, h7, h8⟩ := H.out
            have H8 := Lib.hid h8
            have hts := pText_size (some s') most
            generalize hcs : acc.map Value.string = cs at h4
            have HCS := Lib.hid hcs
            clear hcs h8 H
            go_wp2_with fail
            (with_reducible refine (R_Text_calls _ b (some s') most h0 h1 h5 (by simp only [Option.getD_some]; omega)).mono ?_)
            rintro e w3 ⟨rfl, h9, hf9⟩
            generalize hpt : pText (some s') most = p at h9 hts
            obtain ⟨x, st3⟩ := p
            have hdec := pText_dec hpt
            have HPT := Lib.hid hpt
            clear hpt h5
            simp only at h9 hts
            have h10 := h4.keep hf9 (by intro k hk hk2; have := h7 k hk; simp at hk2; omega)
            have hs9 := hf9.size
            have hF9 := h6.trans hf9 (fun k hk => .inl hk)
            have hs6 := h6.size
            clear h4 hf9 h6
            go_wp2_with (at_builtin; refine wpList_sapp rfl _ _ 38 rfl 9 Try.underlying38 (.string ⟨#[]⟩) 1 16 infoString rfl (by decide) u10 r acc.length cs rfl (h10.keep ((Fr.refl [] _).alloc _) (by simp)) ⟨w3.heap.size, 0, none⟩ 1 1 [.string x] rfl rfl (by exact RdV.new _ #[.string x] 9 rfl rfl) (by simp [Value.oneCell']) (by simp only [maxLen]; omega) (by omega) ?_)
            intro v' w4 r' h11 hf11 hn11
            have hf12 : Fr r w3 w4 := ((Fr.refl r w3).alloc _).trans hf11 (fun k hk => .inl hk)
            have h12 := h9.keep hf12 (by intro hk; have := h7 _ hk; omega)
            have hr' : ∀ k, k ∈ r' → w.heap.size ≤ k := fun k hk => (hn11 k hk).elim (h7 k) (fun h => by first | omega | (simp at h; omega))
            have hF12 := hF9.trans hf12 (fun k hk => .inr (h7 k hk))
            clear hn11 hf11 h9 h10 hf12 hF9
            go_wp2_with fail
            (with_reducible refine (R_Good_calls _ b st3 h12).mono ?_)
            rintro e w5 ⟨rfl, rfl⟩
            go_wp2
            refine ⟨⟨st3, i + 1, acc ++ [x], r', rfl, by go_num, by omega, hdec.elim (fun h => .inr (by rw [List.length_append]; simp only [List.length_cons, List.length_nil]; omega)) (fun h => .inl h.2), ?_, h12, hF12, hr', ?_⟩, by simp only [intOf]; omega⟩
            · rw [List.length_append, List.map_append, HCS.out]
              exact h11
            · obtain ⟨m, hm⟩ : ∃ m, n - i = m + 1 := ⟨n - i - 1, by omega⟩
              have h8 := H8.out
              rw [hm] at h8
              have hm' : n - (i + 1) = m := by omega
              cases st3 with
              | none =>
                rw [pTexts_none most m acc _ HPT.out] at h8
                exact h8
              | some s3 =>
                rw [pTexts_some most m acc _ HPT.out] at h8
                simp only
                rw [hm']
                exact h8
          · obtain rfl : i = n := by omega
            have hq2 : pRow st many most = (acc, some s') := by
              rw [HQ.out]
              have := H.out.2.2.2.2
              simp only [Nat.sub_self] at this
              rw [this]
              rfl
            have HQ2 := Lib.hid hq2
            obtain ⟨h4, h5, h6, h7, _⟩ := H.out
            generalize hcs : acc.map Value.string = cs at h4
            have HCS := Lib.hid hcs
            clear hq2 HQ H hcs
            go_wp2
            go_ret
            rw [HQ2.out]
            simp only
            rw [HCS.out]
            exact ⟨_, rfl, r, h4, h5, h6, h7⟩

end Go.Proofs.Ytngonnnjehlfbaa
