/- The law PackOrder: for any two numbers the Go function returns true (its walk). -/
import Derived.Test.YtngonnnjehlfbaaAwake03
namespace Go.Proofs.Ytngonnnjehlfbaa
open Go.RowKit
set_option linter.unusedVariables false
set_option linter.unusedSimpArgs false

set_option maxHeartbeats 2000000 in
set_option maxRecDepth 100000 in
theorem PackOrder_core (a b lo hi : Int) (hlo : (if b < a then b else a) = lo) (hhi : (if b > a then b else a) = hi) (h0 : 0 ≤ lo) (h1 : lo ≤ hi) (h2 : hi < 18446744073709551616) (heq : lo = hi ↔ a = b) (w : World) :
    Calls Try.prog 3 #[.int .u64 a, .int .u64 b] w fun e w' => e = .returned (.bool true) ∧ Fr [] w w' := by
  go_enter Try.func3, Try.ntmps3
  go_wp2_with fail
  refine (awake03_calls _).mono ?_
  rintro e w1 ⟨rfl, hf1⟩
  go_wp2_with fail
  have hx0 : BldN 32 5 w _ w1.heap.size [] ⟨#[]⟩ := (BldN.make 32 5 hf1 rfl).other (S := []) ((Fr.refl _ _).alloc (.cells #[.pointer none, .slice none 0 0] 32)) (by simp) (by simp)
  have hy0 : BldN 32 5 w _ (w1.heap.size + 1) [] ⟨#[]⟩ := BldN.make 32 5 (hf1.alloc (.cells #[.pointer none, .slice none 0 0] 32)) (by simp)
  have e0 : (⟨#[]⟩ : ByteArray).size = 0 := rfl
  refine (Writer_NumV_calls _ bty_writer w1.heap.size [] _ _ [lo] (by simp) rfl rfl (by simp; omega) hx0.bld (by rw [e0]; simp)).mono ?_
  rintro e w2 ⟨rfl, r1, h1', hf2, hn1⟩
  have hx1 := hx0.step h1' hf2 hn1
  have hy1 := hy0.other hf2 (by simp) (by intro k hk; simp at hk; have := hf1.size; omega)
  have hr1 : ∀ k, k ∈ r1 → w1.heap.size + 2 ≤ k := fun k hk => by have := hn1 k hk; simp at this; omega
  have hs2 := hf2.size
  simp at hs2
  clear hx0 hy0 h1' hf2 hn1
  go_wp2_with fail
  refine (Writer_String_calls _ bty_writer w1.heap.size r1 _ _ hx1.bld).mono ?_
  rintro e w3 ⟨rfl, h3, hf3⟩
  have hy2 := hy1.other hf3 (by intro k hk hk2; have := hr1 k hk2; simp at hk; omega) (by intro k hk; have := hr1 k hk; have := hf1.size; omega)
  clear hx1 hy1 h3 hf3
  go_wp2_with fail
  refine (Writer_NumV_calls _ bty_writer (w1.heap.size + 1) [] _ _ [hi] (by simp) rfl rfl (by simp; omega) hy2.bld (by rw [e0]; simp)).mono ?_
  rintro e w4 ⟨rfl, r4, h4, hf4, hn4⟩
  have hy3 := hy2.step h4 hf4 hn4
  clear hy2 h4 hf4 hn4
  go_wp2_with fail
  refine (Writer_String_calls _ bty_writer (w1.heap.size + 1) r4 _ _ hy3.bld).mono ?_
  rintro e w5 ⟨rfl, h5, hf5⟩
  have hF : Fr [] w w5 := hy3.fr.trans hf5 (fun k hk => .inr (hy3.new k (by simp [hk])))
  clear hy3 h5 hf5
  have en : ∀ x : Int, (⟨#[]⟩ : ByteArray) ++ numsB [x] = numB x.toNat := fun x => by simp [numsB, app_nil, nil_app]
  rw [en, en]
  clear en
  have hlen : decide ((numB lo.toNat).size ≤ (numB hi.toNat).size) = true := by
    rw [numB_length, numB_length]
    have := numL_mono 10 lo.toNat hi.toNat (by omega) (Nat.lt_of_lt_of_le (by omega : hi.toNat < 18446744073709551616) (by decide))
    simpa using this
  have hsame : (((numB lo.toNat).toList == (numB hi.toNat).toList) == (a == b)) = true := by
    by_cases e : lo = hi
    · have h4 : (a == b) = true := beq_iff_eq.2 (heq.1 e)
      have h3 : ((numB lo.toNat).toList == (numB hi.toNat).toList) = true := beq_iff_eq.2 (by rw [e])
      rw [h3, h4]
      rfl
    · have h4 : (a == b) = false := beq_eq_false_iff_ne.2 (fun h => e (heq.2 h))
      have h3 : ((numB lo.toNat).toList == (numB hi.toNat).toList) = false := beq_eq_false_iff_ne.2 (fun h => e (by
        have := numB_inj (a := lo.toNat) (b := hi.toNat) (by omega) (toList_inj h)
        omega))
      rw [h3, h4]
      rfl
  have HL := Lib.hid (numL_more lo.toNat)
  have HM := Lib.hid (numB_size lo.toNat (by omega))
  go_wp2_with fail
  go_loop [10, 11] (fun v10 v11 => ∃ (n : Nat) (k : Int), v10 = .int .i64 n ∧ v11 = .int .u64 k ∧ 0 ≤ k ∧ k < 18446744073709551616 ∧ n ≤ 10 ∧ Hid ((numL lo.toNat).length = n + moreL k.toNat)) (fun _ v11 => (intOf v11).toNat)
  case atStart => exact ⟨1, lo / 128, rfl, rfl, by omega, by omega, by omega, by rw [show (lo / 128).toNat = lo.toNat / 128 from by omega]; exact HL.out⟩
  case round =>
    obtain ⟨n, k, rfl, rfl, hk0, hk1, hn, H⟩ := hrel
    by_cases hk : 0 < k
    · go_wp2
      refine ⟨⟨n + 1, k / 128, by go_num, rfl, by omega, by omega, ?_, ?_⟩, by simp only [intOf]; omega⟩
      · have h1 := H.out
        have h2 := HM.out
        rw [numB_length, h1, moreL_next (by omega)] at h2
        omega
      · have h1 := H.out
        rw [moreL_next (by omega)] at h1
        rw [show (k / 128).toNat = k.toNat / 128 from by omega]
        show _ = _
        omega
    · obtain rfl : k = 0 := by omega
      obtain rfl : n = (numB lo.toNat).size := by
        have h1 := H.out
        rw [numB_length, h1]
        rfl
      clear H HL
      go_wp2
      go_ret
      exact ⟨rfl, hF⟩

/-- For any two numbers the law returns true. -/
theorem PackOrder_walk (a : Int) (ha : Bd .u64 a) (b : Int) (hb : Bd .u64 b) (w : World) :
    Calls Try.prog 3 #[.int .u64 a, .int .u64 b] w fun e w' => e = .returned (.bool true) ∧ Fr [] w w' := by
  have ⟨ha0, ha1⟩ := ha.u64
  have ⟨hb0, hb1⟩ := hb.u64
  by_cases h : b < a
  · exact PackOrder_core a b b a (if_pos h) (if_neg (by omega)) hb0 (by omega) ha1 ⟨fun e => by omega, fun e => by omega⟩ w
  · by_cases h2 : b > a
    · exact PackOrder_core a b a b (if_neg h) (if_pos h2) ha0 (by omega) hb1 ⟨fun e => by omega, fun e => by omega⟩ w
    · exact PackOrder_core a b a a (if_neg h) (if_neg h2) ha0 (by omega) ha1 ⟨fun e => by omega, fun e => rfl⟩ w

end Go.Proofs.Ytngonnnjehlfbaa
