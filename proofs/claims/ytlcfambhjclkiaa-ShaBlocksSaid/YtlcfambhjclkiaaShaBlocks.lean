/- The law ShaBlocks: for any texts the Go function returns true (its walk). -/
import Derived.Test.YtlcfambhjclkiaaShaDSum
import Derived.Test.YtlcfambhjclkiaaShaHex
import Derived.Test.YtlcfambhjclkiaaShort06
namespace Go.Proofs.Ytlcfambhjclkiaa
open Go.RowKit
set_option linter.unusedVariables false
set_option linter.unusedSimpArgs false

theorem dot_step (s : ByteArray) (j : Nat) : s ++ lB (List.replicate j 46) ++ ⟨#[46]⟩ = s ++ lB (List.replicate (j + 1) 46) := by
  rw [List.replicate_succ', bapp_assoc, show (⟨#[46]⟩ : ByteArray) = lB [46] from rfl, lB_app]
theorem str_ne' {a b : ByteArray} (h : a ≠ b) : (a.toList == b.toList) = false := beq_eq_false_iff_ne.2 (fun e => h (toList_inj e))
set_option maxHeartbeats 4000000 in
set_option maxRecDepth 100000 in
theorem ShaBlocks_walk (w : World) (s : ByteArray) (hs : s.size ≤ 140737488351232) (a : ByteArray) (ha : a.size ≤ 140737488351232) (b : ByteArray) (hb : b.size ≤ 140737488351232) :
    Calls Try.prog 7 #[.string s, .string a, .string b] w fun e w' => e = .returned (.bool true) ∧ Fr [] w w' := by
  have hss := fun W => short06_calls s 64 64 rfl W (by omega) (by decide)
  have h0 := shortB_size s 64
  generalize shortB s 64 = t at hss h0
  have hsa := fun W => short06_calls a 70 70 rfl W (by omega) (by decide)
  have h1 := shortB_size a 70
  generalize shortB a 70 = x at hsa h1
  have hsb := fun W => short06_calls b 70 70 rfl W (by omega) (by decide)
  have h2 := shortB_size b 70
  generalize shortB b 70 = y at hsb h2
  have HSA := Lib.hid hsa
  have HSB := Lib.hid hsb
  clear hsa hsb ha hb hs
  obtain ⟨z, hz⟩ : ∃ z : Nat, z = (64 - t.size % 64) % 64 := ⟨_, rfl⟩
  have HZ := Lib.hid hz
  have hz64 : z < 64 := by omega
  clear hz
  go_enter Try.func7, Try.ntmps7
  go_wp2_with fail
  (with_reducible refine (awake06_calls _).mono ?_)
  rintro e w1 ⟨rfl, hf1⟩
  have HF1 := Lib.hid hf1
  clear hf1
  go_wp2_with fail
  (with_reducible refine (hss _).mono ?_)
  rintro e w2 ⟨rfl, rfl⟩
  clear hss
  go_wp2_with fail
  go_loop [0] (fun v0 => ∃ j : Nat, j ≤ z ∧ v0 = .string (t ++ lB (List.replicate j 46))) (fun v0 => match v0 with | .string q => t.size + z - q.size | _ => 0)
  case atStart => exact ⟨0, Nat.zero_le _, by rw [show lB (List.replicate 0 46) = ⟨#[]⟩ from rfl, bapp_nil]⟩
  case round =>
    obtain ⟨j, hj, rfl⟩ := hrel
    have hT : (t ++ lB (List.replicate j 46)).size = t.size + j := by rw [ByteArray.size_append, lB_size, List.length_replicate]
    by_cases hlt : j < z
    · as_aux_lemma =>
        have HS := Lib.hid (dot_step t j)
        generalize t ++ lB (List.replicate j 46) = T at hT HS ⊢
        have ht : ((T.size : Int) % 64 == 0) = false := beq_eq_false_iff_ne.2 (by have := HZ.out; omega)
        have hsum2 : T.size + (⟨#[46]⟩ : ByteArray).size ≤ 9223372036854775807 := by show T.size + 1 ≤ _; omega
        have HT2 : Hid ((T ++ ⟨#[46]⟩ : ByteArray).size = T.size + 1) := Lib.hid ByteArray.size_append
        have HT := Lib.hid hT
        clear hT
        go_wp2_with fail
        refine ⟨⟨j + 1, by omega, by rw [HS.out]⟩, ?_⟩
        have h1 := HT2.out
        have h2 := HT.out
        simp only []
        omega
    · obtain rfl : j = z := by omega
      generalize t ++ lB (List.replicate j 46) = T at hT ⊢
      have ht : ((T.size : Int) % 64 == 0) = true := beq_iff_eq.2 (by have := HZ.out; omega)
      have hT2 : T.size ≤ 130 := by omega
      clear hT hlt hj HZ hz64 h0
      have hLx : (T ++ x).size = T.size + x.size := ByteArray.size_append
      have hLy : (T ++ y).size = T.size + y.size := ByteArray.size_append
      have hs1 := fun W b (h : W.heap[b]? = some (.cells #[.string T, .string x] 9 (0, 0))) => Sum2 W b T x h (by omega)
      have hs2 := fun W b (h : W.heap[b]? = some (.cells #[.string T, .string y] 9 (0, 0))) => Sum2 W b T y h (by omega)
      have hd1 := fun W => DSum_calls W (T ++ x) (by omega)
      have hd2 := fun W => DSum_calls W (T ++ y) (by omega)
      have hxy : x = y → shaSum (T ++ x) = shaSum (T ++ y) := fun h => by rw [h]
      generalize shaSum (T ++ x) = d1 at hs1 hd1 hxy
      generalize shaSum (T ++ y) = d2 at hs2 hd2 hxy
      have HXY := Lib.hid hxy
      have HS := Lib.hid (And.intro hs1 (And.intro hs2 (And.intro hd1 hd2)))
      have hsum1 : T.size + x.size ≤ 9223372036854775807 := by omega
      have hsum2 : T.size + y.size ≤ 9223372036854775807 := by omega
      clear hs1 hs2 hd1 hd2 hLx hLy hxy hT2 h1 h2
      go_wp2_with fail
      (with_reducible refine (HSA.out _).mono ?_)
      rintro e w2 ⟨rfl, rfl⟩
      clear ht
      go_wp2_with fail
      (with_reducible refine (HSB.out _).mono ?_)
      rintro e w2 ⟨rfl, rfl⟩
      clear HSA HSB
      go_wp2_with fail
      (with_reducible refine (HS.out.1 _ _ (heap_alloc_new _ _)).mono ?_)
      rintro e w3 ⟨rfl, hf3⟩
      have HF3 := Lib.hid ((HF1.out.alloc _).then hf3)
      clear hf3 HF1
      go_wp2_with fail
      (with_reducible refine (HS.out.2.2.1 _).mono ?_)
      rintro e w4 ⟨rfl, hf4⟩
      have HF4 := Lib.hid (HF3.out.then hf4)
      clear hf4 HF3
      go_wp2_with fail
      (with_reducible refine (HS.out.1 _ _ (heap_alloc_new _ _)).mono ?_)
      rintro e w5 ⟨rfl, hf5⟩
      have HF5 := Lib.hid ((HF4.out.alloc _).then hf5)
      clear hf5 HF4
      go_wp2_with fail
      (with_reducible refine (HS.out.2.1 _ _ (heap_alloc_new _ _)).mono ?_)
      rintro e w6 ⟨rfl, hf6⟩
      have HF6 := Lib.hid ((HF5.out.alloc _).then hf6)
      clear hf6 HF5
      obtain ⟨B, hB⟩ : ∃ B, (d1.toList == d2.toList) = B := ⟨_, rfl⟩
      have HBB := Lib.hid hB
      go_wp2_with fail
      (with_reducible refine (HS.out.2.2.1 _).mono ?_)
      rintro e w7 ⟨rfl, hf7⟩
      have HF7 := Lib.hid (HF6.out.then hf7)
      clear hf7 HF6
      go_wp2_with fail
      (with_reducible refine (HS.out.2.2.2 _).mono ?_)
      rintro e w8 ⟨rfl, hf8⟩
      have HF8 := Lib.hid (HF7.out.then hf8)
      clear hf8 HF7
      by_cases hxy : x = y
      · have hd := HXY.out hxy
        have hBt : B = true := by rw [← hB, hd]; simp
        have hxt : (x.toList == y.toList) = true := by rw [hxy]; simp
        subst hBt
        clear hxy hd
        go_wp2_with fail
        (with_reducible refine (HS.out.1 _ _ (heap_alloc_new _ _)).mono ?_)
        rintro e w9 ⟨rfl, hf9⟩
        have HF9 := Lib.hid ((HF8.out.alloc _).then hf9)
        clear hf9 HF8
        go_wp2_with fail
        (with_reducible refine (HS.out.2.1 _ _ (heap_alloc_new _ _)).mono ?_)
        rintro e w10 ⟨rfl, hf10⟩
        have HF10 := Lib.hid ((HF9.out.alloc _).then hf10)
        clear hf10 HF9
        go_wp2_with fail
        go_ret
        exact ⟨rfl, HF10.out⟩
      · have hxt : (x.toList == y.toList) = false := str_ne' hxy
        clear hxy HXY HBB
        cases B <;> (go_wp2_with fail; go_ret; exact ⟨rfl, HF8.out⟩)
end Go.Proofs.Ytlcfambhjclkiaa
