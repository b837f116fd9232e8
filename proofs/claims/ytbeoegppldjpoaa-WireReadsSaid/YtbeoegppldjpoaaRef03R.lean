/- Contracts of the document's reader (layer 3): fail, End, Num. -/
import Derived.Test.YtbeoegppldjpoaaPackR2
namespace Go.Proofs.Ytbeoegppldjpoaa
open Go.RowKit
set_option linter.unusedVariables false
set_option linter.unusedSimpArgs false

set_option maxHeartbeats 400000 in
set_option maxRecDepth 100000 in
theorem R3_fail_calls (w : World) (b : Nat) (st : Option ByteArray) (h : RS 67 w b st) :
    Calls Try.prog 43 #[.pointer (some ⟨b, 0, none⟩)] w fun e w' => e = .returned (.tuple #[]) ∧ RS 67 w' b none ∧ Fr [b] w w' := by
  have c0 := h.cell0
  have c1 := h.cell1
  have z0 := h.frozen 0
  have z1 := h.frozen 1
  have HF := Lib.hid h.fail
  clear h
  go_enter Try.func43, Try.ntmps43
  go_wp2
  go_end0
  exact ⟨rfl, HF.out, ((Fr.refl _ _).setCell (.inl (by simp)) _).setCell (.inl (by simp)) _⟩

set_option maxHeartbeats 400000 in
set_option maxRecDepth 100000 in
theorem R3_End_calls (w : World) (b : Nat) (st : Option ByteArray) (h : RS 67 w b st) :
    Calls Try.prog 32 #[.pointer (some ⟨b, 0, none⟩)] w fun e w' => e = .returned (.bool (pEnd st)) ∧ w = w' := by
  have c0 := h.cell0
  have c1 := h.cell1
  clear h
  cases st with
  | none =>
    go_enter Try.func32, Try.ntmps32
    go_wp2
    go_ret
    exact ⟨rfl, rfl⟩
  | some s =>
    simp only [Option.getD_some, Option.isNone_some] at c0 c1
    have hE : s.toList.isEmpty = pEnd (some s) := by
      have hl : s.toList.length = s.size := by rw [Lib.toList_data, Array.length_toList]; rfl
      unfold pEnd
      cases hx : s.toList with
      | nil => rw [hx] at hl; simp at hl; simp [← hl]
      | cons a l => rw [hx] at hl; simp at hl; simp [← hl]
    have HE := Lib.hid hE
    clear hE
    go_enter Try.func32, Try.ntmps32
    go_wp2
    go_ret
    exact ⟨by rw [← HE.out]; rfl, rfl⟩

theorem add_step {acc i c : Nat} (ha : acc < 128 ^ i) (h10 : i < 10) (hc : c < 256) (h9 : i = 9 → c ≤ 1) :
    IntKind.u64.wrap (((c : Int) % 128) * 2 ^ (7 * i)) = ((c % 128 * 128 ^ i : Nat) : Int) ∧ (acc : Int) + ((c % 128 * 128 ^ i : Nat) : Int) = ((acc + c % 128 * 128 ^ i : Nat) : Int) ∧ acc + c % 128 * 128 ^ i < 18446744073709551616 ∧ acc + c % 128 * 128 ^ i < 128 ^ (i + 1) := by
  have e0 : (2 : Nat) ^ (7 * i) = 128 ^ i := by rw [Nat.pow_mul]
  have hlt : acc + c % 128 * 128 ^ i < 128 ^ (i + 1) := by
    have : c % 128 * 128 ^ i + 128 ^ i ≤ 128 * 128 ^ i := by
      rw [← Nat.succ_mul]
      exact Nat.mul_le_mul_right _ (Nat.mod_lt _ (by decide))
    rw [Nat.pow_succ, Nat.mul_comm _ 128]
    omega
  have h64 : (18446744073709551616 : Nat) = 2 * 128 ^ 9 := by decide
  have hlt2 : acc + c % 128 * 128 ^ i < 18446744073709551616 := by
    rcases Nat.lt_or_ge i 9 with h | h
    · have : 128 ^ (i + 1) ≤ 128 ^ 9 := Nat.pow_le_pow_right (by decide) (by omega)
      omega
    · have hi : i = 9 := by omega
      subst hi
      have h1 := h9 rfl
      have h2 : c % 128 * 128 ^ 9 ≤ 1 * 128 ^ 9 := Nat.mul_le_mul_right _ (by omega)
      omega
  refine ⟨?_, by omega, hlt2, hlt⟩
  have e3 : ((c : Int) % 128) * 2 ^ (7 * i) = ((c % 128 * 128 ^ i : Nat) : Int) := by
    rw [Int.natCast_mul, ← e0, Int.natCast_pow]
    rfl
  rw [e3, IntKind.wrap_u64]
  omega

set_option maxHeartbeats 2000000 in
set_option maxRecDepth 100000 in
theorem R3_Num_calls (w : World) (b : Nat) (s : ByteArray) (most : Int) (h0 : 0 ≤ most) (h1 : most < 18446744073709551616) (h : RS 67 w b (some s)) (hs : s.size ≤ 140737488355328) :
    Calls Try.prog 30 #[.pointer (some ⟨b, 0, none⟩), .int .u64 most] w fun e w' => e = .returned (.int .u64 (pNum (some s) most.toNat).1) ∧ RS 67 w' b (pNum (some s) most.toNat).2 ∧ Fr [b] w w' := by
  have c0 := h.cell0
  have z0' := h.frozen 0
  have HH := Lib.hid h
  simp only [Option.getD_some] at c0
  clear h
  go_enter Try.func30, Try.ntmps30
  go_wp2_with fail
  go_loop [5, 6] (fun v5 v6 => ∃ (acc i : Nat), v5 = .int .u64 acc ∧ v6 = .int .i64 i ∧ i ≤ 10 ∧ i ≤ s.size ∧ acc < 18446744073709551616 ∧ Hid (acc < 128 ^ i ∧ numAt 0 0 s.data.toList = numAt i acc (s.data.toList.drop i))) (fun _ v6 => 10 - (intOf v6).toNat)
  case atStart => exact ⟨0, 0, rfl, rfl, by decide, Nat.zero_le _, by decide, by decide, by simp⟩
  case round =>
    obtain ⟨acc, i, rfl, rfl, hi10, hi, hacc, H⟩ := hrel
    by_cases hlt : i < s.size ∧ i < 10
    · obtain ⟨hlt, hlt10⟩ := hlt
      have hdr : s.data.toList.drop i = s[i] :: s.data.toList.drop (i + 1) := by
        rw [List.drop_eq_getElem_cons (by rw [toL_length]; exact hlt)]
        rfl
      generalize hbb : s[i] = c at hdr
      have hc := c.toNat_lt
      have HD := Lib.hid hdr
      clear hdr
      have hc256 : c.toNat < 256 := by omega
      by_cases h9 : i = 9 ∧ 1 < c.toNat
      · have b9 : ((i : Int) == 9) = true := by simp; omega
        have hc1 := h9.2
        have hfin : numAt 0 0 s.data.toList = none := by
          rw [H.out.2, HD.out, numAt, if_neg (by omega), if_pos h9]
        have HP := Lib.hid (pNum_bad (most := most.toNat) hfin)
        clear hfin h9 H HD
        go_wp2_with fail
        (with_reducible refine (R3_fail_calls _ b (some s) HH.out).mono ?_)
        rintro e w1 ⟨rfl, h1, hf1⟩
        go_wp2_with fail
        go_ret
        rw [HP.out]
        exact ⟨rfl, h1, hf1⟩
      · obtain ⟨ha1, ha2, hb1, hb2⟩ := add_step H.out.1 hlt10 hc256 (by intro h; omega)
        have hnext : numAt 0 0 s.data.toList = (if 128 ≤ c.toNat then numAt (i + 1) (acc + c.toNat % 128 * 128 ^ i) (s.data.toList.drop (i + 1)) else if c.toNat = 0 ∧ 0 < i then none else some (acc + c.toNat % 128 * 128 ^ i, i + 1)) := by
          rw [H.out.2, HD.out, numAt, if_neg (by omega), if_neg h9]
        have HN := Lib.hid hnext
        have HB := Lib.hid hb2
        clear hnext hb2 H HD
        generalize hacc' : acc + c.toNat % 128 * 128 ^ i = acc' at ha2 hb1
        have HA := Lib.hid hacc'
        clear hacc'
        generalize c.toNat % 128 * 128 ^ i = tt at ha1 ha2
        have h9c : ((i : Int) == 9) = false ∨ (((i : Int) == 9) = true ∧ ¬ 1 < c.toNat) := by
          by_cases e : i = 9
          · exact .inr ⟨by simp; omega, fun h => h9 ⟨e, h⟩⟩
          · exact .inl (by simp; omega)
        clear h9
        rcases h9c with b9 | ⟨b9, hc1⟩
        · by_cases hbig : 128 ≤ c.toNat
          · go_wp2
            refine ⟨⟨acc', i + 1, rfl, by go_num, by omega, by omega, hb1, by rw [← HA.out]; exact HB.out, ?_⟩, by simp only [intOf]; omega⟩
            rw [HN.out, if_pos hbig, HA.out]
          · by_cases h0c : c.toNat = 0 ∧ 0 < i
            · have hfin : numAt 0 0 s.data.toList = none := by rw [HN.out, if_neg hbig, if_pos h0c]
              have HP := Lib.hid (pNum_bad (most := most.toNat) hfin)
              obtain ⟨hz, hi0⟩ := h0c
              have hzi : ((c.toNat : Int) == 0) = true := by simp; omega
              clear hfin HN HB HA
              go_wp2_with fail
              (with_reducible refine (R3_fail_calls _ b (some s) HH.out).mono ?_)
              rintro e w1 ⟨rfl, h1, hf1⟩
              go_wp2_with fail
              go_ret
              rw [HP.out]
              exact ⟨rfl, h1, hf1⟩
            · have hfin : numAt 0 0 s.data.toList = some (acc', i + 1) := by rw [HN.out, if_neg hbig, if_neg h0c, HA.out]
              have hor : ((c.toNat : Int) == 0) = false ∨ (((c.toNat : Int) == 0) = true ∧ ¬ 0 < i) := by
                by_cases e : c.toNat = 0
                · exact .inr ⟨by simp; omega, fun h => h0c ⟨e, h⟩⟩
                · exact .inl (by simp; omega)
              clear h0c HN HB HA
              have hext : s.extract (i + 1) s.size = rest s (i + 1) := rfl
              by_cases hm : (acc' : Int) ≤ most
              · have HP := Lib.hid (pNum_ok hfin (show acc' ≤ most.toNat by omega))
                have HPUT := Lib.hid (HH.out.put (rest s (i + 1)))
                clear hfin
                rcases hor with hz | ⟨hz, hi0⟩
                all_goals
                  go_wp2
                  go_ret
                  rw [HP.out]
                  exact ⟨rfl, HPUT.out, (Fr.refl _ _).setCell (.inl (by simp)) _⟩
              · have HP := Lib.hid (pNum_over hfin (show ¬ acc' ≤ most.toNat by omega))
                clear hfin
                rcases hor with hz | ⟨hz, hi0⟩
                all_goals
                  go_wp2_with fail
                  (with_reducible refine (R3_fail_calls _ b (some s) HH.out).mono ?_)
                  rintro e w1 ⟨rfl, h1, hf1⟩
                  go_wp2_with fail
                  go_ret
                  rw [HP.out]
                  exact ⟨rfl, h1, hf1⟩
        · have hbig : ¬ 128 ≤ c.toNat := by omega
          by_cases h0c : c.toNat = 0 ∧ 0 < i
          · have hfin : numAt 0 0 s.data.toList = none := by rw [HN.out, if_neg hbig, if_pos h0c]
            have HP := Lib.hid (pNum_bad (most := most.toNat) hfin)
            obtain ⟨hz, hi0⟩ := h0c
            have hzi : ((c.toNat : Int) == 0) = true := by simp; omega
            clear hfin HN HB HA
            go_wp2_with fail
            (with_reducible refine (R3_fail_calls _ b (some s) HH.out).mono ?_)
            rintro e w1 ⟨rfl, h1, hf1⟩
            go_wp2_with fail
            go_ret
            rw [HP.out]
            exact ⟨rfl, h1, hf1⟩
          · have hfin : numAt 0 0 s.data.toList = some (acc', i + 1) := by rw [HN.out, if_neg hbig, if_neg h0c, HA.out]
            have hor : ((c.toNat : Int) == 0) = false ∨ (((c.toNat : Int) == 0) = true ∧ ¬ 0 < i) := by
              by_cases e : c.toNat = 0
              · exact .inr ⟨by simp; omega, fun h => h0c ⟨e, h⟩⟩
              · exact .inl (by simp; omega)
            clear h0c HN HB HA
            have hext : s.extract (i + 1) s.size = rest s (i + 1) := rfl
            by_cases hm : (acc' : Int) ≤ most
            · have HP := Lib.hid (pNum_ok hfin (show acc' ≤ most.toNat by omega))
              have HPUT := Lib.hid (HH.out.put (rest s (i + 1)))
              clear hfin
              rcases hor with hz | ⟨hz, hi0⟩
              all_goals
                go_wp2
                go_ret
                rw [HP.out]
                exact ⟨rfl, HPUT.out, (Fr.refl _ _).setCell (.inl (by simp)) _⟩
            · have HP := Lib.hid (pNum_over hfin (show ¬ acc' ≤ most.toNat by omega))
              clear hfin
              rcases hor with hz | ⟨hz, hi0⟩
              all_goals
                go_wp2_with fail
                (with_reducible refine (R3_fail_calls _ b (some s) HH.out).mono ?_)
                rintro e w1 ⟨rfl, h1, hf1⟩
                go_wp2_with fail
                go_ret
                rw [HP.out]
                exact ⟨rfl, h1, hf1⟩
    · have hfin : numAt 0 0 s.data.toList = none := by
        rw [H.out.2]
        by_cases h : i < s.size
        · obtain rfl : i = 10 := by omega
          cases s.data.toList.drop 10 with
          | nil => rfl
          | cons b l => rw [numAt, if_pos (Nat.le_refl _)]
        · rw [List.drop_of_length_le (by rw [toL_length]; omega)]
          rfl
      have HP := Lib.hid (pNum_bad (most := most.toNat) hfin)
      clear hfin H
      by_cases hl1 : i < s.size
      · have h10 : ¬ i < 10 := fun h => hlt ⟨hl1, h⟩
        clear hlt
        go_wp2_with fail
        (with_reducible refine (R3_fail_calls _ b (some s) HH.out).mono ?_)
        rintro e w1 ⟨rfl, h1, hf1⟩
        go_wp2_with fail
        go_ret
        rw [HP.out]
        exact ⟨rfl, h1, hf1⟩
      · clear hlt
        go_wp2_with fail
        (with_reducible refine (R3_fail_calls _ b (some s) HH.out).mono ?_)
        rintro e w1 ⟨rfl, h1, hf1⟩
        go_wp2_with fail
        go_ret
        rw [HP.out]
        exact ⟨rfl, h1, hf1⟩

end Go.Proofs.Ytbeoegppldjpoaa
