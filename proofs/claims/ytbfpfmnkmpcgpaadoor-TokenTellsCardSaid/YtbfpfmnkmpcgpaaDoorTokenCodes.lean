/- The law TokenCodes: for any two draws the Go function returns true (its walk). -/
import Derived.Test.YtbfpfmnkmpcgpaaDoorCode
import Derived.Test.YtbfpfmnkmpcgpaaDoorTokD
import Derived.Test.YtbfpfmnkmpcgpaaDoorAwake08
import Derived.Test.YtbfpfmnkmpcgpaaDoorRows
import Derived.Lib.LaidTab
import Derived.Stop.LaidErr
import Derived.MakeChecks
namespace Go.Proofs.YtbfpfmnkmpcgpaaDoor
open Go.RowKit
set_option linter.unusedVariables false
set_option linter.unusedSimpArgs false

theorem pow10_list (w : World) (h : laidMetH Tryd.prog [("math/bits.deBruijn32tab", Rows.laid_math_bits_deBruijn32tab), ("math/bits.deBruijn64tab", Rows.laid_math_bits_deBruijn64tab), ("internal/strconv.uint64pow10", Rows.laid_internal_strconv_uint64pow10), ("unicode/utf8.acceptRanges", Rows.laid_unicode_utf8_acceptRanges), ("unicode/utf8.first", Rows.laid_unicode_utf8_first)] w) : Pow10 w := by
  rw [MakeChecks.laidMetH_plain _ _ _ (by kernel_rfl)] at h
  have h2 := h.tail.tail
  have e : (Rows.laid_internal_strconv_uint64pow10 : DataW Unit) = Lib.tabData .u64 Lib.pow10Tab := by kernel_rfl
  rw [e] at h2
  exact Lib.tabIs_of_head (g := 0) (by kernel_rfl) (by kernel_rfl) Tryd.underlying84 Tryd.underlying22 (by kernel_rfl) (by kernel_rfl) h2
theorem isTok_code (r : Nat) : isTokB (codeB r) = false := by
  unfold isTokB
  cases h : decB (codeB r) with
  | none => rfl
  | some t =>
    have e := encB_dec h
    have hz := encB_size t
    rw [e, codeB_size] at hz
    exact beq_eq_false_iff_ne.2 (by omega)
theorem code_at (r i : Nat) (hi : i < (codeB r).size) : ((codeB r)[i]).toNat = 48 + r / 10 ^ (5 - i) % 10 := by
  have h6 : i < 6 := hi
  have hk : ∀ d, d < 10 → (UInt8.ofNat (48 + d)).toNat = 48 + d := fun d hd => by rw [UInt8.toNat_ofNat']; omega
  have e : i = 0 ∨ i = 1 ∨ i = 2 ∨ i = 3 ∨ i = 4 ∨ i = 5 := by omega
  rcases e with rfl | rfl | rfl | rfl | rfl | rfl
  · exact hk _ (by omega)
  · exact hk _ (by omega)
  · exact hk _ (by omega)
  · exact hk _ (by omega)
  · exact hk _ (by omega)
  · exact (hk (r % 10) (by omega)).trans (by rw [show (5 : Nat) - 5 = 0 from rfl, Nat.pow_zero, Nat.div_one])

set_option maxHeartbeats 4000000 in
set_option maxRecDepth 100000 in
theorem TokenCodes_walk (w : World) (hL : laidMetH Tryd.prog Rows.tokenCodesRow.laid w) (a0 : Int) (ha : Bd .u64 a0) (b0 : Int) (hb : Bd .u64 b0) :
    Calls Tryd.prog 3 #[.int .u64 a0, .int .u64 b0] w fun e w' => e = .returned (.bool true) ∧ Fr [] w w' := by
  have hP := pow10_list w hL
  clear hL
  obtain ⟨a, rfl⟩ : ∃ a : Nat, a0 = a := ⟨a0.toNat, by have := ha.u64; omega⟩
  obtain ⟨b, rfl⟩ : ∃ b : Nat, b0 = b := ⟨b0.toNat, by have := hb.u64; omega⟩
  have ha2 : a < 18446744073709551616 := by have := ha.u64; omega
  have hb2 : b < 18446744073709551616 := by have := hb.u64; omega
  have HA := Lib.hid (fun W (h : Pow10 W) => Code_calls W a ha2 h)
  have HB := Lib.hid (fun W (h : Pow10 W) => Code_calls W b hb2 h)
  obtain ⟨r, hr, hra, hra2⟩ : ∃ r : Nat, a % 1000000 = r ∧ (a : Int).tmod 1000000 = (r : Int) ∧ (a : Int) % 1000000 = (r : Int) := ⟨_, rfl, by rw [Int.tmod_eq_emod_of_nonneg (by omega)]; simp, by simp⟩
  obtain ⟨q, hq, hqb, hqb2⟩ : ∃ q : Nat, b % 1000000 = q ∧ (b : Int).tmod 1000000 = (q : Int) ∧ (b : Int) % 1000000 = (q : Int) := ⟨_, rfl, by rw [Int.tmod_eq_emod_of_nonneg (by omega)]; simp, by simp⟩
  rw [hr] at HA
  rw [hq] at HB
  have hr6 : r < 1000000 := by omega
  have hq6 : q < 1000000 := by omega
  obtain ⟨B, hB1, hB2⟩ : ∃ B : Bool, ((codeB r).toList == (codeB q).toList) = B ∧ ((r : Int) == (q : Int)) = B := by
    by_cases h : r = q
    · subst h; exact ⟨true, by simp, by simp⟩
    · exact ⟨false, beq_eq_false_iff_ne.2 fun e => h (codeB_inj hr6 hq6 (toList_inj e)), beq_eq_false_iff_ne.2 (by omega)⟩
  have hBB : (B == B) = true := by cases B <;> rfl
  have HAT := Lib.hid (code_at r)
  have HIC := Lib.hid (fun W => IsCode_calls W (codeB r) (by rw [codeB_size]; decide))
  rw [codeB_ok] at HIC
  have HIT := Lib.hid (fun W => IsToken_calls W (codeB r) (by rw [codeB_size]; decide))
  rw [isTok_code] at HIT
  have hc6 := codeB_size r
  generalize codeB r = c at *
  generalize codeB q = d at *
  have HR := Lib.hid (show r < 1000000 from hr6)
  have HP := Lib.hid hP
  clear hP ha hb ha2 hb2 hr hq hr6 hq6
  go_enter Tryd.func3, Tryd.ntmps3
  go_wp2_with fail
  (with_reducible refine (awake08_calls _).mono ?_)
  rintro e w1 ⟨rfl, hf1⟩
  have HF1 := Lib.hid hf1
  clear hf1
  go_wp2_with fail
  (with_reducible refine (HA.out _ (tabIs_fr HP.out HF1.out)).mono ?_)
  rintro e w2 ⟨rfl, hf2⟩
  have HF2 := Lib.hid (HF1.out.then hf2)
  clear hf2 HF1
  go_wp2_with fail
  go_loop [7, 8] (fun v7 v8 => ∃ i : Nat, i ≤ 6 ∧ v8 = .int .i64 i ∧ v7 = .int .u64 ((r / 10 ^ (6 - i) : Nat) : Int)) (fun _ v8 => 6 - (intOf v8).toNat)
  case atStart => exact ⟨0, by omega, rfl, by rw [show r / 10 ^ (6 - 0) = 0 from Nat.div_eq_of_lt HR.out]; rfl⟩
  case round =>
    obtain ⟨i, hi, rfl, rfl⟩ := hrel
    by_cases hlt : i < 6
    · have hi0 : (0 : Int) ≤ (i : Int) := by omega
      have hi1 : (i : Int) < (c.size : Int) := by omega
      have hat := HAT.out i (by omega)
      obtain ⟨q1, hq1⟩ : ∃ q1, r / 10 ^ (5 - i) = q1 := ⟨_, rfl⟩
      have hq0 : r / 10 ^ (6 - i) = q1 / 10 := by
        rw [← hq1, Nat.div_div_eq_div_mul, show 6 - i = 5 - i + 1 by omega, Nat.pow_succ]
      have hq6 : q1 < 1000000 := by rw [← hq1]; exact Nat.lt_of_le_of_lt (Nat.div_le_self _ _) HR.out
      rw [hq1] at hat
      rw [hq0]
      have hw1 : IntKind.u8.wrap (((c[i]).toNat : Int) - 48) = ((q1 % 10 : Nat) : Int) := by rw [hat, IntKind.wrap_u8]; omega
      have hw2 : IntKind.u64.wrap ((10 : Int) * ((q1 / 10 : Nat) : Int)) = ((10 * (q1 / 10) : Nat) : Int) := by rw [IntKind.wrap_u64]; omega
      have hw4 : IntKind.u64.wrap ((q1 % 10 : Nat) : Int) = ((q1 % 10 : Nat) : Int) := by rw [IntKind.wrap_u64]; omega
      have hw3 : IntKind.u64.wrap (((10 * (q1 / 10) : Nat) : Int) + ((q1 % 10 : Nat) : Int)) = (q1 : Int) := by rw [IntKind.wrap_u64]; omega
      have hq1' : r / 10 ^ (6 - (i + 1)) = q1 := by rw [← hq1, show 6 - (i + 1) = 5 - i by omega]
      have HQ := Lib.hid hq1'
      clear hat hq0 hq1 hq1'
      go_wp2_with fail
      exact ⟨⟨i + 1, by omega, by go_num, by rw [HQ.out, show (10 * ((q1 : Int) / 10) + (q1 : Int) % 10) = (q1 : Int) by omega]⟩, by simp only [intOf]; omega⟩
    · obtain rfl : i = 6 := by omega
      rw [show r / 10 ^ (6 - 6) = r by rw [Nat.sub_self, Nat.pow_zero, Nat.div_one]]
      go_wp2_with fail
      (with_reducible refine (HIC.out _).mono ?_)
      rintro e w3 ⟨rfl, hf3⟩
      have HF3 := Lib.hid (HF2.out.then hf3)
      clear hf3 HF2
      go_wp2_with fail
      (with_reducible refine (HB.out _ (tabIs_fr HP.out HF3.out)).mono ?_)
      rintro e w4 ⟨rfl, hf4⟩
      have HF4 := Lib.hid (HF3.out.then hf4)
      clear hf4 HF3
      go_wp2_with fail
      (with_reducible refine (HIT.out _).mono ?_)
      rintro e w5 ⟨rfl, hf5⟩
      have HF5 := Lib.hid (HF4.out.then hf5)
      clear hf5 HF4
      go_wp2_with fail
      go_ret
      exact ⟨rfl, HF5.out⟩
end Go.Proofs.YtbfpfmnkmpcgpaaDoor
