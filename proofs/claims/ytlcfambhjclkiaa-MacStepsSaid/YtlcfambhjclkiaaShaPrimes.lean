/- Contract of the document's layer 6: primes. -/
import Derived.Test.YtlcfambhjclkiaaShaRoot
import Derived.Test.YtlcfambhjclkiaaRows2
namespace Go.Proofs.Ytlcfambhjclkiaa
open Go.RowKit
set_option linter.unusedVariables false
set_option linter.unusedSimpArgs false

theorem infoU64p : (Try.prog.info? 72).map (fun i => (i.zero, i.size, i.bytes)) = some (some (.int .u64 0), 1, 8) := by kernel_rfl
def uVal (p : Nat) : Value := .int .u64 (p : Int)
theorem prAt_lt : ∀ k, ∀ p, p ∈ prAt k → 2 ≤ p ∧ p ≤ k + 1
  | 0, p, h => by rw [prAt] at h; exact absurd h (by simp)
  | k + 1, p, h => by
    rw [prAt, prStep] at h
    by_cases hc : ((prAt k).all (fun p => (k + 2) % p != 0)) = true
    · rw [if_pos hc, List.mem_append] at h
      rcases h with h | h
      · have := prAt_lt k p h; omega
      · rw [List.mem_singleton] at h; omega
    · rw [if_neg hc] at h
      have := prAt_lt k p h; omega
theorem prAt_short (k : Nat) (h : k < 310) : (prAt k).length < 64 := by
  have := List.all_eq_true.1 prAt_len.1 k (List.mem_range.2 h)
  exact of_decide_eq_true this

set_option maxHeartbeats 4000000 in
set_option maxRecDepth 100000 in
theorem primes_calls (w : World) :
    Calls Try.prog 37 #[.int .i64 64] w fun e w' => ∃ v r, e = .returned v ∧ SRow 72 1 w' v r 64 ((prAt 310).map uVal) ∧ Fr [] w w' ∧ (∀ k, k ∈ r → w.heap.size ≤ k) := by
  have HL := Lib.hid prAt_len.2
  obtain ⟨K, hK⟩ : ∃ K : Nat, K = 310 := ⟨310, rfl⟩
  rw [← hK] at HL ⊢
  have HK := Lib.hid hK
  clear hK
  go_enter Try.func37, Try.ntmps37
  go_wp2_with fail
  go_loopw [3, 4, 5, 6] (fun v3 v4 v5 v6 wr => ∃ (k n : Nat) (r : List Nat), k ≤ K ∧ v4 = .int .u64 ((k : Int) + 2) ∧ n = (prAt k).length ∧ Hid (SRow 72 1 wr v3 r n ((prAt k).map uVal) ∧ Fr [] w wr ∧ (∀ k, k ∈ r → w.heap.size ≤ k))) (fun _ v4 _ _ _ => (K + 2) - (intOf v4).toNat)
  case atStart => exact ⟨0, 0, [], Nat.zero_le _, rfl, by rw [prAt]; rfl, by rw [prAt]; exact SRow.nil _ _ _, Fr.refl _ _, by simp⟩
  case round =>
    obtain ⟨k, n, r, hk, rfl, hn, H⟩ := hrel
    obtain ⟨A, cap, rfl, hnc, hcm, hrd, hblk⟩ := H.out.1.reads
    have HRd := Lib.hid hrd
    have HB := Lib.hid hblk
    clear hrd hblk
    by_cases hkK : k < K
    · have hn64 : n < 64 := by rw [hn]; exact prAt_short k (by rw [← HK.out]; exact hkK)
      have hk3 : k < 310 := by rw [← HK.out]; exact hkK
      have hN := Lib.hid hn
      have HP := Lib.hid (prAt_lt k)
      obtain ⟨ps, hps⟩ : ∃ ps, prAt k = ps := ⟨_, rfl⟩
      have HS : Hid (prAt (k + 1) = if ps.all (fun p => (k + 2) % p != 0) then ps ++ [k + 2] else ps) := Lib.hid (by rw [prAt, prStep, hps])
      have HPS := Lib.hid hps
      clear hn hps
      go_wp2_with fail
      go_loopw [5, 6] (fun v5 v6 wx => ∃ j : Nat, j ≤ n ∧ v6 = .int .i64 j ∧ v5 = .bool ((ps.take j).all (fun p => (k + 2) % p != 0)) ∧ wx = wr) (fun _ v6 _ => n - (intOf v6).toNat)
      case atStart => exact ⟨0, Nat.zero_le _, rfl, rfl, rfl⟩
      case round =>
        obtain ⟨j, hj, rfl, rfl, rfl⟩ := hrel
        by_cases hjn : j < n
        · have hjl : j < ps.length := by rw [← HPS.out, ← hN.out]; exact hjn
          obtain ⟨p, hp⟩ : ∃ p, ps[j]? = some p := ⟨_, List.getElem?_eq_getElem hjl⟩
          obtain ⟨ad, rfl, hc⟩ := HRd.out j (uVal p) (by rw [HPS.out, List.getElem?_map, hp]; rfl)
          obtain ⟨hp2, hp3⟩ := HP.out p (by rw [HPS.out]; exact List.mem_of_getElem? hp)
          have HT : Hid ((ps.take (j + 1)).all (fun p => (k + 2) % p != 0) = ((ps.take j).all (fun p => (k + 2) % p != 0) && ((k + 2) % p != 0))) := Lib.hid (by
            have hpi : ps[j] = p := (List.getElem?_eq_some_iff.1 hp).2
            rw [List.take_succ_eq_append_getElem hjl, List.all_append, hpi]; simp)
          generalize (ps.take j).all (fun p => (k + 2) % p != 0) = b at HT ⊢
          have hp0 : ¬ (p : Int) = 0 := by omega
          have hc' : wr.cell? (ad.add j) = some (.int .u64 (p : Int)) := hc
          clear hc hp
          have hm : ((k : Int) + 2) % (p : Int) = (((k + 2) % p : Nat) : Int) := by rw [Int.natCast_emod]; rfl
          by_cases h0 : (k + 2) % p = 0
          · have h0' : ((((k : Int) + 2) % (p : Int)) == 0) = true := by rw [hm, h0]; rfl
            clear hm
            go_wp2_with fail
            exact ⟨⟨j + 1, by omega, by go_num, by rw [HT.out, h0]; simp, by trivial⟩, by simp only [intOf]; omega⟩
          · have h0' : ((((k : Int) + 2) % (p : Int)) == 0) = false := by rw [hm]; exact beq_eq_false_iff_ne.2 (by omega)
            clear hm
            go_wp2_with fail
            exact ⟨⟨j + 1, by omega, by go_num, by rw [HT.out]; simp [h0], by trivial⟩, by simp only [intOf]; omega⟩
        · obtain rfl : j = n := by omega
          have hall : (ps.take j).all (fun p => (k + 2) % p != 0) = ps.all (fun p => (k + 2) % p != 0) := by rw [List.take_of_length_le (by rw [← HPS.out, ← hN.out]; exact Nat.le_refl _)]
          rw [hall]
          clear hall
          cases hb : ps.all (fun p => (k + 2) % p != 0)
          · have HE : Hid (prAt (k + 1) = ps) := Lib.hid (by rw [HS.out, hb]; rfl)
            clear hb HS
            go_wp2_with fail
            exact ⟨⟨k + 1, j, r, by omega, by go_num, by rw [HE.out, ← HPS.out]; exact hN.out, by rw [HE.out, ← HPS.out]; exact H.out.1, H.out.2.1, H.out.2.2⟩, by simp only [intOf]; omega⟩
          · have HE : Hid (prAt (k + 1) = ps ++ [k + 2]) := Lib.hid (by rw [HS.out, hb]; rfl)
            clear hb HS
            go_wp2_with (at_builtin; refine wpList_sapp rfl _ _ 69 rfl 72 Try.underlying69 _ 1 8 infoU64p rfl (by decide) (.slice A j cap) r j _ rfl (H.out.1.keep ((Fr.refl [] _).alloc _) (by simp)) ⟨wr.heap.size, 0, none⟩ 1 1 [.int .u64 ((k : Int) + 2)] rfl rfl (by exact RdV.new _ _ 72 (by simp) rfl) (by simp [Value.oneCell']) (by simp only [maxLen]; omega) (by omega) ?_)
            intro v' w2 r' h6 hf2 hn2
            go_wp2
            have h7 : Fr r wr w2 := ((Fr.refl r wr).alloc _).trans hf2 (fun k hk => .inl hk)
            refine ⟨⟨k + 1, j + 1, r', by omega, by go_num, ?_, ?_, H.out.2.1.trans h7 (fun k hk => .inr (H.out.2.2 k hk)), fun k hk => (hn2 k hk).elim (H.out.2.2 k) (fun h => by have := H.out.2.1.size; first | omega | (simp at h; omega))⟩, by simp only [intOf]; omega⟩
            · rw [HE.out, List.length_append, ← HPS.out, ← hN.out]; rfl
            · rw [HE.out, List.map_append, ← HPS.out]; exact h6
    · obtain rfl : k = K := by omega
      have hn64 : n = 64 := by rw [hn]; exact HL.out
      subst hn64
      go_wp2
      go_ret
      exact ⟨_, r, rfl, H.out.1, H.out.2.1, H.out.2.2⟩
end Go.Proofs.Ytlcfambhjclkiaa
