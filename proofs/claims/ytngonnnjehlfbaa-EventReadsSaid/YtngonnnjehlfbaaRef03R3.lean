/- The contract of the document's reader (layer 3): Row. -/
import Derived.Test.YtngonnnjehlfbaaRef03R2
namespace Go.Proofs.Ytngonnnjehlfbaa
open Go.RowKit
set_option linter.unusedVariables false
set_option linter.unusedSimpArgs false

set_option maxHeartbeats 2000000 in
set_option maxRecDepth 100000 in
theorem R3_Row_calls (w : World) (b : Nat) (st : Option ByteArray) (many most : Int) (hm0 : -9223372036854775808 ≤ many) (hm1 : many ≤ 9223372036854775807) (h0 : -9223372036854775808 ≤ most) (h1 : most ≤ 9223372036854775807) (h : RS 70 w b st) (hs : (st.getD ⟨#[]⟩).size ≤ 1099511627776) :
    Calls Try.prog 44 #[.pointer (some ⟨b, 0, none⟩), .int .i64 many, .int .i64 most] w fun e w' => ∃ v r, e = .returned v ∧ SRow 9 1 w' v r (pRow st many most).1.length ((pRow st many most).1.map .string) ∧ RS 70 w' b (pRow st many most).2 ∧ Fr [b] w w' ∧ (∀ k, k ∈ r → w.heap.size ≤ k) := by
  by_cases hneg : many < 0
  · have HT : pRow st many most = ([], none) := by rw [pRow, if_pos hneg]
    rw [HT]
    clear HT
    go_enter Try.func44, Try.ntmps44
    go_wp2_with fail
    (with_reducible refine (R3_fail_calls _ b st h).mono ?_)
    rintro e w1 ⟨rfl, h1', hf1⟩
    go_wp2_with fail
    (with_reducible refine (R3_Num0_calls _ b _ h1').mono ?_)
    rintro e w2 ⟨rfl, h2, hf2⟩
    have c1 : w2.cell? ⟨b, 1, none⟩ = some (.bool true) := h2.cell1
    have hF2 : Fr [b] w w2 := hf1.trans hf2 (fun k hk => .inl hk)
    clear h1' hf1 hf2
    go_wp2_with fail
    refine wp_loop_once ?_
    go_wp2
    go_ret
    exact ⟨_, [], rfl, SRow.nil _ _ _, h2, hF2, by simp⟩
  · have hb0 := h.lt
    have hp := pNum_lt st many.toNat
    have hz := pNum_size st many.toNat
    have hT : pRow st many most = (match pNum st many.toNat with
      | (_, none) => ([], none)
      | (n, some s) => pTexts most n [] (some s)) := by rw [pRow, if_neg hneg]; rfl
    have HT := Lib.hid hT
    clear hT
    go_enter Try.func44, Try.ntmps44
    go_wp2_with fail
    (with_reducible refine (R3_NumS_calls _ b st many (by omega) (by omega) h (by omega)).mono ?_)
    rintro e w1 ⟨rfl, h2, hF⟩
    generalize hpp : pNum st many.toNat = p at h2 hp hz
    obtain ⟨n, st1⟩ := p
    have HPP := Lib.hid hpp
    clear hpp
    simp only at h2 hp hz
    have hn : n ≤ 9223372036854775807 := by omega
    clear h
    cases st1 with
    | none =>
      have hq : pRow st many most = ([], none) := by rw [HT.out, HPP.out]
      have HQ := Lib.hid hq
      have c1 : w1.cell? ⟨b, 1, none⟩ = some (.bool true) := h2.cell1
      clear hq HT HPP
      go_wp2_with fail
      go_loop [9] (fun v9 => v9 = .int .u64 0) (fun _ => 0)
      case atStart => rfl
      case round =>
        subst hrel
        go_wp2
        all_goals
          go_ret
          rw [HQ.out]
          exact ⟨_, rfl, [], SRow.nil _ _ _, h2, hF, by simp⟩
    | some s =>
      have hq : pRow st many most = pTexts most n [] (some s) := by rw [HT.out, HPP.out]
      simp only [Option.getD_some] at hz
      have HQ := Lib.hid hq
      clear hq HT HPP
      have hbw : b < w.heap.size := hb0
      go_wp2_with fail
      go_loopw [8, 9] (fun v8 v9 wr => ∃ (st2 : Option ByteArray) (i : Nat) (acc : List ByteArray) (r : List Nat), v9 = .int .u64 i ∧ i ≤ n ∧ Hid (st2 = none ∨ acc.length + (st2.getD ⟨#[]⟩).size ≤ s.size) ∧ Hid (SRow 9 1 wr v8 r acc.length (acc.map .string) ∧ RS 70 wr b st2 ∧ Fr [b] w wr ∧ (∀ k, k ∈ r → w.heap.size ≤ k) ∧ (match st2 with
          | none => pTexts most n [] (some s) = ([], none)
          | some s' => pTexts most n [] (some s) = pTexts most (n - i) acc (some s')))) (fun _ v9 _ => n - (intOf v9).toNat)
      case atStart => exact ⟨some s, 0, [], [], rfl, Nat.zero_le _, .inr (by simp only [Option.getD_some, List.length_nil]; omega), SRow.nil _ _ _, h2, hF, by simp, rfl⟩
      case round =>
        clear h2 hF
        obtain ⟨st2, i, acc, r, rfl, hi, HSZ, H⟩ := hrel
        cases st2 with
        | none =>
          have hq2 : pRow st many most = ([], none) := by rw [HQ.out]; exact H.out.2.2.2.2
          have HQ2 := Lib.hid hq2
          obtain ⟨h4, h5, h6, h7, _⟩ := H.out
          have c1 : wr.cell? ⟨b, 1, none⟩ = some (.bool true) := h5.cell1
          clear hq2 HQ H h4
          by_cases hin : i < n
          · go_wp2
            go_ret
            rw [HQ2.out]
            exact ⟨_, rfl, [], SRow.nil _ _ _, h5, h6, by simp⟩
          · go_wp2
            go_ret
            rw [HQ2.out]
            exact ⟨_, rfl, [], SRow.nil _ _ _, h5, h6, by simp⟩
        | some s' =>
          have c1 : wr.cell? ⟨b, 1, none⟩ = some (.bool false) := H.out.2.1.cell1
          by_cases hin : i < n
          · have hsz : acc.length + s'.size ≤ s.size := HSZ.out.elim (fun h => by cases h) (fun h => h)
            obtain ⟨h4, h5, h6, h7, h8⟩ := H.out
            have H8 := Lib.hid h8
            have hts := pText_size (some s') most
            generalize hcs : acc.map Value.string = cs at h4
            have HCS := Lib.hid hcs
            clear hcs h8 H
            go_wp2_with fail
            (with_reducible refine (R3_Text_calls _ b (some s') most h0 h1 h5 (by simp only [Option.getD_some]; omega)).mono ?_)
            rintro e w3 ⟨rfl, h9, hf9⟩
            generalize hpt : pText (some s') most = p at h9 hts
            obtain ⟨x, st3⟩ := p
            have hdec := pText_dec hpt
            have HPT := Lib.hid hpt
            clear hpt h5 c1
            simp only at h9 hts
            have h10 := h4.keep hf9 (by intro k hk hk2; have := h7 k hk; simp at hk2; omega)
            have hs9 := hf9.size
            have hF9 := h6.trans hf9 (fun k hk => .inl hk)
            have hs6 := h6.size
            clear h4 hf9 h6
            go_wp2_with (at_builtin; refine wpList_sapp rfl _ _ 38 rfl 9 Try.underlying38 (.string ⟨#[]⟩) 1 16 infoString rfl (by decide) u8 r acc.length cs rfl (h10.keep ((Fr.refl [] _).alloc _) (by simp)) ⟨w3.heap.size, 0, none⟩ 1 1 [.string x] rfl rfl (by exact RdV.new _ #[.string x] 9 rfl rfl) (by simp [Value.oneCell']) (by simp only [maxLen]; omega) (by omega) ?_)
            intro v' w4 r' h11 hf11 hn11
            have hf12 : Fr r w3 w4 := ((Fr.refl r w3).alloc _).trans hf11 (fun k hk => .inl hk)
            have h12 := h9.keep hf12 (by intro hk; have := h7 _ hk; omega)
            have hr' : ∀ k, k ∈ r' → w.heap.size ≤ k := fun k hk => (hn11 k hk).elim (h7 k) (fun h => by first | omega | (simp at h; omega))
            have hF12 := hF9.trans hf12 (fun k hk => .inr (h7 k hk))
            clear hn11 hf11 h9 h10 hf12 hF9
            go_wp2
            refine ⟨⟨st3, i + 1, acc ++ [x], r', by go_num, by omega, hdec.elim (fun h => .inr (by rw [List.length_append]; simp only [List.length_cons, List.length_nil]; omega)) (fun h => .inl h.2), ?_, h12, hF12, hr', ?_⟩, by simp only [intOf]; omega⟩
            · rw [List.length_append, List.map_append, HCS.out]
              exact h11
            · obtain ⟨m, hm⟩ : ∃ m, n - i = m + 1 := ⟨n - i - 1, by omega⟩
              have h8 := H8.out
              rw [hm] at h8
              have hm' : n - (i + 1) = m := by omega
              cases st3 with
              | none =>
                rw [pTexts_none most m acc _ HPT.out] at h8
                exact h8
              | some s3 =>
                rw [pTexts_some most m acc _ HPT.out] at h8
                simp only
                rw [hm']
                exact h8
          · have hin' : i = n := by omega
            have hq2 : pRow st many most = (acc, some s') := by
              rw [HQ.out]
              have := H.out.2.2.2.2
              simp only [hin', Nat.sub_self] at this
              rw [this]
              rfl
            have HQ2 := Lib.hid hq2
            obtain ⟨h4, h5, h6, h7, _⟩ := H.out
            generalize hcs : acc.map Value.string = cs at h4
            have HCS := Lib.hid hcs
            clear hq2 HQ H hcs hin'
            go_wp2
            go_ret
            rw [HQ2.out]
            simp only
            rw [HCS.out]
            exact ⟨_, rfl, r, h4, h5, h6, h7⟩

end Go.Proofs.Ytngonnnjehlfbaa
