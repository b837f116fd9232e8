/- The law PackOnce: for any text and any bound the Go function returns true (its walk). -/
import Derived.Test.YtngonnnjehlfbaaShort03
import Derived.Test.YtngonnnjehlfbaaAwake03
import Derived.Test.YtngonnnjehlfbaaPackR2
import Derived.Test.YtngonnnjehlfbaaPackPure2
namespace Go.Proofs.Ytngonnnjehlfbaa
open Go.RowKit
set_option linter.unusedVariables false
set_option linter.unusedSimpArgs false

theorem pNum_cases (s : ByteArray) (most : Nat) : (pNum (some s) most).1 = 0 ∧ (pNum (some s) most).2 = none ∨ ∃ n k, pNum (some s) most = (n, some (rest s k)) ∧ n ≤ most ∧ s = numB n ++ rest s k ∧ n < 18446744073709551616 := by
  cases h : numAt 0 0 s.data.toList with
  | none => left; rw [pNum_bad h]; exact ⟨rfl, rfl⟩
  | some p =>
    obtain ⟨n, k⟩ := p
    by_cases hm : n ≤ most
    · right
      refine ⟨n, k, pNum_ok h hm, hm, ?_, ?_⟩
      · obtain ⟨m, h1, h2, h3, h4, h5⟩ := numAt_read _ _ _ _ _ h
        have hmn : m = n := by rw [h2]; simp
        subst hmn
        rw [Nat.zero_add] at h3
        rw [Nat.sub_zero] at h1
        apply eq_of_toL
        rw [toL_app, numB_toL]
        refine h1.trans ?_
        congr 1
        simp only [rest, ByteArray.data_extract, Array.toList_extract, List.extract_eq_take_drop]
        rw [List.take_of_length_le (by rw [List.length_drop, toL_length]; omega)]
      · obtain ⟨m, h1, h2, h3, h4, h5⟩ := numAt_read _ _ _ _ _ h
        omega
    · left; rw [pNum_over h hm]; exact ⟨rfl, rfl⟩

set_option maxHeartbeats 2000000 in
set_option maxRecDepth 100000 in
theorem PackOnce_walk (w : World) (s0 : ByteArray) (hs0 : s0.size ≤ 140737488351232) (most : Int) (hmost : Bd .u64 most) :
    Calls Try.prog 9 #[.string s0, .int .u64 most] w fun e w' => e = .returned (.bool true) ∧ Fr [] w w' := by
  have ⟨hm0, hm1⟩ := hmost.u64
  clear hmost
  have h20 := shortB_size s0 20
  go_enter Try.func9, Try.ntmps9
  go_wp2_with fail
  (with_reducible refine (awake03_calls _).mono ?_)
  rintro e w1 ⟨rfl, hf1⟩
  go_wp2_with fail
  (with_reducible refine (short03_calls s0 20 20 rfl _ (by omega) (by omega)).mono ?_)
  rintro e w2 ⟨rfl, rfl⟩
  generalize shortB s0 20 = s at h20 ⊢
  clear hs0
  go_wp2_with fail
  (with_reducible refine (pack_Read_calls _ s).mono ?_)
  rintro e w2 ⟨b, rfl, hb, hrs, hf2⟩
  have hF2 := hf1.then hf2
  have hbw : w.heap.size ≤ b := by have := hf1.size; omega
  clear hf1 hf2 hb
  go_wp2_with fail
  (with_reducible refine (R_Num_calls _ b (some s) most hm0 hm1 hrs (by simp only [Option.getD_some]; omega)).mono ?_)
  rintro e w3 ⟨rfl, hr3, hf3⟩
  have hF3 : Fr [] w w3 := hF2.trans hf3 (fun k hk => .inr (by simp at hk; omega))
  rcases pNum_cases s most.toNat with ⟨h1, h2⟩ | ⟨n, k, h1, hn, hsn, hn2⟩
  · rw [h2] at hr3
    rw [h1]
    clear h1 h2 hf3 hF2 hrs
    go_wp2_with fail
    (with_reducible refine (R_Good_calls _ b none hr3).mono ?_)
    rintro e w4 ⟨rfl, rfl⟩
    go_wp2_with fail
    (with_reducible refine (R_Rest_calls _ b none hr3).mono ?_)
    rintro e w4 ⟨rfl, rfl⟩
    go_wp2_with fail
    (with_reducible refine (R_Num_calls _ b none most hm0 hm1 hr3 (by decide)).mono ?_)
    rintro e w4 ⟨rfl, hr4, hf4⟩
    have hF4 : Fr [] w w4 := hF3.trans hf4 (fun k hk => .inr (by simp at hk; omega))
    clear hF3 hf4
    go_wp2_with fail
    (with_reducible refine (R_Text_calls _ b none 9 (by decide) (by decide) hr4 (by decide)).mono ?_)
    rintro e w5 ⟨rfl, hr5, hf5⟩
    rw [show pText none 9 = (⟨#[]⟩, none) from rfl]
    have hF5 : Fr [] w w5 := hF4.trans hf5 (fun k hk => .inr (by simp at hk; omega))
    go_wp2_with fail
    go_ret
    exact ⟨rfl, hF5⟩
  · rw [h1] at hr3
    rw [h1]
    clear h1 hf3 hF2 hrs
    have hd : decide ((n : Int) ≤ most) = true := decide_eq_true (by omega)
    have HS := Lib.hid hsn
    clear hsn
    go_wp2_with fail
    (with_reducible refine (R_Good_calls _ b (some (rest s k)) hr3).mono ?_)
    rintro e w4 ⟨rfl, rfl⟩
    go_wp2_with fail
    have hx0 : BldN 32 5 w _ w3.heap.size [] ⟨#[]⟩ := BldN.make 32 5 hF3 rfl
    have e0 : (⟨#[]⟩ : ByteArray).size = 0 := rfl
    have hr4 := hr3.keep ((Fr.refl [] w3).alloc (.cells #[.pointer none, .slice none 0 0] 32)) (by simp)
    have hbl := hr3.lt
    refine (Writer_NumV_calls _ bty_writer w3.heap.size [] _ _ [(n : Int)] (by simp) rfl rfl (by simp; omega) hx0.bld (by rw [e0]; simp)).mono ?_
    rintro e w4 ⟨rfl, r1, h1', hf2, hn1⟩
    have hx1 := hx0.step h1' hf2 hn1
    have hr5 := hr4.keep hf2 (by simp; omega)
    have hbr : b ∉ r1 := fun hk => by have := hn1 _ hk; simp at this; omega
    clear hx0 h1' hf2 hn1 hr4 hr3
    go_wp2_with fail
    refine (Writer_String_calls _ bty_writer w3.heap.size r1 _ _ hx1.bld).mono ?_
    rintro e w5 ⟨rfl, h3, hf5⟩
    have hr6 := hr5.keep hf5 hbr
    have hF : Fr [] w w5 := hx1.fr.trans hf5 (fun k hk => .inr (hx1.new k (by simp [hk])))
    clear hr5 hx1 h3 hf5
    go_wp2_with fail
    (with_reducible refine (R_Rest_calls _ b _ hr6).mono ?_)
    rintro e w6 ⟨rfl, rfl⟩
    rw [show (⟨#[]⟩ : ByteArray) ++ numsB [(n : Int)] = numB n from by simp only [numsB, app_nil, nil_app]; rfl]
    have hsz := congrArg ByteArray.size HS.out
    rw [ByteArray.size_append] at hsz
    have hsz2 : ¬ 9223372036854775807 < (numB n).size + (rest s k).size := by omega
    have he : (s.toList == (numB n ++ rest s k).toList) = true := beq_iff_eq.2 (congrArg _ HS.out)
    clear hsz
    go_wp2_with fail
    go_ret
    exact ⟨rfl, hF⟩

end Go.Proofs.Ytngonnnjehlfbaa
