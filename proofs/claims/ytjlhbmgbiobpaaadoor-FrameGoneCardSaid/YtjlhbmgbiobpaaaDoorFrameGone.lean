/- The law FrameGone: for any text the Go function returns true (its walk). -/
import Derived.Test.YtjlhbmgbiobpaaaDoorFrameScan
import Derived.Test.YtjlhbmgbiobpaaaDoorFrameEmpty
import Derived.Test.YtjlhbmgbiobpaaaDoorFew04
import Derived.Test.YtjlhbmgbiobpaaaDoorFrameAwake
import Derived.Test.YtjlhbmgbiobpaaaDoorBS
namespace Go.Proofs.YtjlhbmgbiobpaaaDoor
open Go.RowKit
set_option linter.unusedVariables false
set_option linter.unusedSimpArgs false

theorem few04_one (s : ByteArray) : few04B [s] = [dashB (shortB s 80)] := rfl
theorem bAt_set (t : ByteArray) (j i : Nat) (c : UInt8) (hj : j < t.size) : bAt (setB t j c) i = if i = j then c.toNat else bAt t i := by
  unfold bAt setB
  have hl : j < t.data.toList.length := by rw [Array.length_toList]; exact hj
  rw [Array.toList_setIfInBounds, List.getD_eq_getElem?_getD, List.getD_eq_getElem?_getD, List.getElem?_set]
  by_cases h : j = i
  · subst h
    rw [if_pos rfl, if_pos rfl, if_pos hl]
    rfl
  · rw [if_neg h, if_neg (fun e => h e.symm)]
theorem zeroB_all {t : ByteArray} (h : ∀ j, j < t.size → bAt t j = 0) : zeroB t = true := by
  unfold zeroB
  rw [List.all_eq_true]
  intro x hx
  obtain ⟨i, hi, rfl⟩ := List.getElem_of_mem hx
  have := h i (by rw [Array.length_toList] at hi; exact hi)
  rw [bAt_eq (by rw [Array.length_toList] at hi; exact hi)] at this
  have e : t.data.toList[i] = 0 := UInt8.toNat_inj.1 (by show _ = 0; exact this)
  rw [e]
  rfl
theorem none_scan {s : ByteArray} (h : nextB s = none) : textsB s = [] ∧ endOf s = 0 := by
  have e : scanAt s 0 = [] := scanAt_none (by rw [extract_all]; exact h)
  unfold textsB endOf
  rw [e]
  exact ⟨rfl, rfl⟩

set_option maxHeartbeats 1000000 in
set_option maxRecDepth 100000 in
theorem FrameGone_walk (w : World) (s : ByteArray) (hs : s.size ≤ 140737488351232) (cut : Int) (hcut : Bd .i64 cut) :
    Calls Tryd.prog 3 #[.string s, .int .i64 cut] w fun e w' => e = .returned (.bool true) ∧ Fr [] w w' := by
  obtain ⟨ht1, ht2⟩ := dashB_size s
  have HONE : Hid (∀ (W : World) (A : Option Addr), RdV W A [.string s] → Calls Tryd.prog 6 #[.slice A 1 1] W fun e w' => ∃ v r, e = .returned v ∧ SRow 9 1 w' v r 1 [.string (dashB (shortB s 80))] ∧ Fr [] W w' ∧ (∀ k, k ∈ r → W.heap.size ≤ k)) :=
    Lib.hid (fun W A h => few04_calls W A 1 [s] h (fun x hx => by simp at hx; subst hx; simp only [maxLen]; omega) (by show 1 ≤ maxLen; decide))
  generalize dashB (shortB s 80) = t at ht1 ht2 HONE
  have hw := wrapB_size t
  rw [fsize_in (by omega) (by omega)] at hw
  have HWR := Lib.hid (fun W => Wrap_calls W t (by omega))
  have hwn : (wrapB t).size = t.size + 8 := by omega
  generalize wrapB t = rr at hwn HWR
  have hr1 : rr.size ≤ 88 := by omega
  have hTp : (0 : Int) < (rr.size : Int) := by omega
  have hr0 : ((rr.size : Int) == 0) = false := beq_eq_false_iff_ne.2 (by omega)
  obtain ⟨R, hR, hR0, hR1⟩ : ∃ R, cut.tmod (rr.size : Int) = R ∧ -(rr.size : Int) < R ∧ R < (rr.size : Int) := ⟨_, rfl, Int.lt_tmod_of_pos _ hTp, Int.tmod_lt_of_pos _ hTp⟩
  obtain ⟨k, hk, hkT⟩ : ∃ k : Nat, (R + (rr.size : Int)).tmod (rr.size : Int) = (k : Int) ∧ k < rr.size := by
    have h1 := Int.tmod_nonneg (rr.size : Int) (by omega : 0 ≤ R + (rr.size : Int))
    have h2 := Int.tmod_lt_of_pos (R + (rr.size : Int)) hTp
    exact ⟨((R + (rr.size : Int)).tmod (rr.size : Int)).toNat, by omega, by omega⟩
  clear hw hwn
  go_enter Tryd.func3, Tryd.ntmps3
  go_wp2_with fail
  (with_reducible refine (awake04_calls _).mono ?_)
  rintro e w1 ⟨rfl, hf1⟩
  go_wp2_with fail
  (with_reducible refine (HONE.out _ _ (RdV.one ?_)).mono ?_)
  · simp
  rintro e w3 ⟨v, r3, rfl, hs3, hf3, hn3⟩
  obtain ⟨B3, c3, rfl, -, -, hb3, -⟩ := hs3.reads
  obtain ⟨ad3, rfl, hc3⟩ := hb3 0 _ rfl
  rw [Addr.add_zero'] at hc3
  have HF3 := Lib.hid ((hf1.alloc (.cells #[.string s] 9)).then hf3)
  clear hs3 hf3 hn3 hb3 HONE hf1
  go_wp2_with fail
  (with_reducible refine (HWR.out _).mono ?_)
  rintro e w4 ⟨rfl, hf4⟩
  have HF4 := Lib.hid (HF3.out.then hf4)
  obtain ⟨w5, cap, hrun, hB5, hf5⟩ := run_toBytes w4 rr
  have HF5 := Lib.hid (HF4.out.then hf5)
  have HB5 := Lib.hid hB5
  have HG := Lib.hid HF4.out.size
  clear hf4 hc3 HF3 HWR HF4 hf5 hB5
  go_wp2_with fail
  clear hrun hR hk hr0
  generalize w4.heap.size = g at HB5 HG ⊢
  go_loopw [9] (fun v9 wr => ∃ (i : Nat) (tt : ByteArray), v9 = .int .i64 i ∧ i ≤ k + 1 ∧ tt.size = rr.size ∧ Hid (BS wr g cap tt ∧ Fr [] w wr ∧ ∀ j, j < i → bAt tt j = 0)) (fun v9 _ => k + 1 - (intOf v9).toNat)
  case atStart => exact ⟨0, rr, rfl, Nat.zero_le _, rfl, HB5.out, HF5.out, fun j hj => by omega⟩
  case round =>
    clear HB5 HF5
    obtain ⟨i, tt, rfl, hi, htt, H⟩ := hrel
    by_cases hlt : i < k + 1
    · have hit : i < tt.size := by omega
      have hc := H.out.1.cell i hit
      have hz := H.out.1.frozen i hit
      have HT := Lib.hid htt
      have hd : (i : Int) < 1 + (k : Int) := by omega
      have hir : i < rr.size := by omega
      have hN : ∀ W, W = wr.setCell ⟨g, i, none⟩ (.int .u8 0) → BS W g cap (setB tt i 0) ∧ Fr [] w W ∧ ∀ j, j < i + 1 → bAt (setB tt i 0) j = 0 := by
        intro W hW
        subst hW
        refine ⟨H.out.1.set i hit 0, H.out.2.1.setCell (.inr HG.out) _, fun j hj => ?_⟩
        rw [bAt_set _ _ _ _ hit]
        by_cases hji : j = i
        · rw [if_pos hji]; rfl
        · rw [if_neg hji]
          exact H.out.2.2 j (by omega)
      have HN := Lib.hid hN
      clear hN htt H
      go_wp2_with fail
      refine ⟨⟨i + 1, setB tt i 0, by go_num, by omega, by rw [setB_size]; exact HT.out, Lib.hid (HN.out _ rfl)⟩, by simp only [intOf]; omega⟩
    · obtain rfl : i = k + 1 := by omega
      have hnone : nextB tt = none := next_first (by rw [H.out.2.2 0 (by omega)]; decide)
      have HX : Hid (nextV (nextB tt) = .tuple #[.string ⟨#[]⟩, .int .i64 0, .bool false]) := Lib.hid (by rw [hnone]; rfl)
      have HS := Lib.hid (none_scan hnone)
      have hcv := run_bsString (c := cap) (n := rr.size) H.out.1 htt.symm
      have HTL : Hid (tt.size ≤ 1000000) := Lib.hid (by omega)
      have HTT := Lib.hid htt
      clear hnone htt
      go_wp2_with fail
      (with_reducible refine (Next_calls _ tt (Nat.le_trans HTL.out (by decide))).mono ?_)
      rintro e w6 ⟨rfl, hf6⟩
      rw [HX.out]
      clear hcv
      have HB6 := Lib.hid (H.out.1.keep hf6 (by simp))
      have HF6 := Lib.hid (H.out.2.1.then hf6)
      have hcv := run_bsString (c := cap) (n := rr.size) HB6.out HTT.out.symm
      clear hf6
      go_wp2_with fail
      (with_reducible refine (Scan_calls _ tt HTL.out).mono ?_)
      rintro e w7 ⟨C, c7, r7, rfl, -, hf7, -⟩
      rw [HS.out.1, HS.out.2]
      clear hcv
      have HB7 := Lib.hid (HB6.out.keep hf7 (by simp))
      have HF7 := Lib.hid (HF6.out.then hf7)
      have hcv := run_bsString (c := cap) (n := rr.size) HB7.out HTT.out.symm
      clear hf7 HF6 HB6
      by_cases hkl : k + 1 < rr.size
      · have hd1 : (1 : Int) + (k : Int) < (rr.size : Int) := by omega
        go_wp2_with fail
        go_ret
        exact ⟨rfl, HF7.out⟩
      · have hd1 : ¬ (1 : Int) + (k : Int) < (rr.size : Int) := by omega
        have hzz : zeroB tt = true := zeroB_all (fun j hj => H.out.2.2 j (by have := HTT.out; omega))
        have HZ : Hid (zeroB (tt.extract (clampN 0 tt.size) tt.size) = true) := Lib.hid (by
          rw [show clampN 0 tt.size = 0 from by unfold clampN; omega, extract_all]
          exact hzz)
        clear hkl hzz
        go_wp2_with fail
        (with_reducible refine (Empty_calls _ tt (Nat.le_trans HTL.out (by decide)) 0 (Bd.of_i64 (by decide) (by decide))).mono ?_)
        rintro e w8 ⟨rfl, hf8⟩
        rw [HZ.out]
        have HF8 := Lib.hid (HF7.out.then hf8)
        clear hf8
        go_wp2_with fail
        go_ret
        exact ⟨rfl, HF8.out⟩

end Go.Proofs.YtjlhbmgbiobpaaaDoor
