/- The law ShaLengths: for any length and byte the Go function returns true (its walk). -/
import Derived.Test.YtlcfambhjclkiaaShaDSum
import Derived.Test.YtlcfambhjclkiaaShaHex
import Derived.Test.YtlcfambhjclkiaaShort06
import Derived.Test.YtlcfambhjclkiaaBBL
import Derived.Test.YtlcfambhjclkiaaMild3
namespace Go.Proofs.Ytlcfambhjclkiaa
open Go.RowKit
set_option linter.unusedVariables false
set_option linter.unusedSimpArgs false
attribute [local go_sem] mildAt mildUpon

set_option maxHeartbeats 4000000 in
set_option maxRecDepth 100000 in
theorem ShaLengths_walk (w : World) (q : Int) (hq : Bd .i64 q) (c : Int) (hc : Bd .u8 c) :
    Calls Try.prog 4 #[.int .i64 q, .int .u8 c] w fun e w' => e = .returned (.bool true) ∧ Fr [] w w' := by
  have hqb := hq.i64
  have hcb := hc.u8
  have hT := Int.tmod_lt_of_pos q (show (0 : Int) < 261 by decide)
  have hT' := Int.lt_tmod_of_pos q (show (0 : Int) < 261 by decide)
  generalize hTT : q.tmod 261 = T at hT hT'
  obtain ⟨m, hm, hm1⟩ : ∃ m : Nat, (T + 261) % 261 = (m : Int) ∧ m < 261 := ⟨((T + 261) % 261).toNat, by omega, by omega⟩
  obtain ⟨d, hd⟩ : ∃ d : UInt8, (d.toNat : Int) = c := ⟨UInt8.ofNat c.toNat, by rw [UInt8.toNat_ofNat']; omega⟩
  subst hd
  have hmk := fun W => run_zeros W m hm (by omega)
  have hmk2 := fun W => run_zeros W m rfl (by omega)
  have hlr : (List.replicate m d).length = m := List.length_replicate
  have hz : (lB (List.replicate m d)).size = m := by rw [lB_size, hlr]
  have hs1 := fun W b (h : W.heap[b]? = some (.cells #[.string (lB (List.replicate m d))] 9 (0, 0))) => Sum1 W b (lB (List.replicate m d)) h (by omega)
  have hd1 := fun W => DSum_calls W (lB (List.replicate m d)) (by omega)
  have h32 := shaSum_size (lB (List.replicate m d))
  generalize shaSum (lB (List.replicate m d)) = D at hs1 hd1 h32
  have HS := Lib.hid (And.intro hs1 hd1)
  have HL := Lib.hid hlr
  have H32 := Lib.hid h32
  clear hs1 hd1 h32 hlr hz hq hc
  go_enter Try.func4, Try.ntmps4
  go_wp2_with fail
  (with_reducible refine (awake06_calls _).mono ?_)
  rintro e w1 ⟨rfl, hf1⟩
  have HF1 := Lib.hid hf1
  clear hf1
  go_wp2_with fail
  rw [hm]
  have h0 := BBN.make HF1.out m
  rw [← fillL_zero (List.replicate m d) m] at h0
  generalize w1.alloc (.cells (Lib.strCells (zerosB m)).toArray 5) = W0 at h0 ⊢
  generalize w1.heap.size = g at h0 ⊢
  have H0 := Lib.hid h0
  clear h0 hmk hmk2 hm hTT hT hT' HF1
  go_loopw [7] (fun v7 wr => ∃ i : Nat, v7 = .int .i64 i ∧ i ≤ m ∧ Hid (BBN w wr g (fillL (List.replicate m d) m i))) (fun v7 _ => m - (intOf v7).toNat)
  case atStart => exact ⟨0, rfl, Nat.zero_le _, H0⟩
  case round =>
    clear H0
    obtain ⟨i, rfl, hi, H⟩ := hrel
    by_cases hlt : i < m
    · have hget := fillL_get _ m i HL.out hlt
      have hset := fillL_set _ m i HL.out hlt
      rw [List.getElem_replicate] at hset
      have c0 := H.out.bb.cellL hget
      have z0 := H.out.bb.frozenL i
      have hs2 := H.out.set i d
      rw [hset] at hs2
      have HS2 := Lib.hid hs2
      have hi0 : (0 : Int) ≤ (i : Int) := by omega
      have hi1 : (i : Int) < (m : Int) := by omega
      clear hget hset hs2
      go_wp2_with fail
      exact ⟨⟨i + 1, by go_num, by omega, HS2⟩, by simp only [intOf]; omega⟩
    · obtain rfl : i = m := by omega
      rw [fillL_all _ i HL.out] at H
      have HCV : Hid (∀ W, Fr [] wr.drew W → (convert 27 9 (.slice (some ⟨g, 0, none⟩) i i)).run Try.prog W = .ok (.string (lB (List.replicate i d))) W) := Lib.hid (fun W hW => by
        have h2 : BBN w W g (List.replicate i d) := ⟨(H.out.bb.keep ((Fr.refl [] wr).drew) (by simp)).keep hW (by simp), (H.out.fr.drew).then hW, H.out.new⟩
        exact h2.text HL.out.symm)
      generalize lB (List.replicate i d) = X at HS HCV
      have h32' : ((D.size : Int) == 32) = true := beq_iff_eq.2 (by have := H32.out; omega)
      have HF := Lib.hid H.out.fr
      clear H hi hlt
      go_wp2_with fail
      refine wp_region_mild 20 (by kernel_rfl) (by kernel_rfl) ?_
      simp only [List.take_succ_cons, List.take_zero, List.drop_succ_cons, List.drop_zero, List.take_nil, List.drop_nil]
      repeat (first
        | ((apply mild_det0; (· rfl); (· intro W hW K hK; have hcv := HCV.out W hW; go_simp; exact hK _ (Fr.refl _ _))); simp only [Act.put, List.setIfInBounds_toArray, List.set_cons_succ, List.set_cons_zero, Nat.reduceAdd])
        | (apply mild_det1; (· rfl); (· intro W hW u hu K hK; obtain ⟨b, rfl, hb⟩ := hu; go_simp; with_reducible exact mild_call (HS.out.1 W b hb) hK); simp only [Act.put, List.setIfInBounds_toArray, List.set_cons_succ, List.set_cons_zero, Nat.reduceAdd])
        | (apply mild_det0; (· rfl); (· intro W hW K hK; go_simp; with_reducible exact mild_call (HS.out.2 W) hK); simp only [Act.put, List.setIfInBounds_toArray, List.set_cons_succ, List.set_cons_zero, Nat.reduceAdd])
        | (apply mild_det0; (· rfl); (· intro W hW K hK; go_simp; exact hK _ (Fr.refl _ _)); simp only [Act.put, List.setIfInBounds_toArray, List.set_cons_succ, List.set_cons_zero, Nat.reduceAdd])
        | (apply mild_slice; (· rfl); (· intro W hW K hK; go_simp; exact hK _ _ ((Fr.refl _ _).alloc _) ⟨_, rfl, heap_alloc_new _ _⟩); simp only [Act.put, List.setIfInBounds_toArray, List.set_cons_succ, List.set_cons_zero, Nat.reduceAdd]))
      refine mild_nil ?_
      intro W2 hW2
      have HF2 : Hid (Fr [] w W2) := Lib.hid (HF.out.drew.then hW2)
      clear hW2
      simp only [subAll]
      intros
      simp only [Act.put, List.setIfInBounds_toArray, List.set_cons_succ, List.set_cons_zero]
      go_wp2_with fail
      go_ret
      exact ⟨rfl, HF2.out⟩
end Go.Proofs.Ytlcfambhjclkiaa
