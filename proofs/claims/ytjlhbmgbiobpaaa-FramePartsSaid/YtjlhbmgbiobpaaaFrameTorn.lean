/- The law FrameTorn: for any texts the Go function returns true (its walk). -/
import Derived.Test.YtjlhbmgbiobpaaaFrameBack
import Derived.Test.YtjlhbmgbiobpaaaFrameSizes
import Derived.Deep.RegionHeld3
namespace Go.Proofs.Ytjlhbmgbiobpaaa
open Go.RowKit
set_option linter.unusedVariables false
set_option linter.unusedSimpArgs false

theorem few04_one (s : ByteArray) : few04B [s] = [dashB (shortB s 80)] := rfl
theorem allB_one (t : ByteArray) : allB [t] = wrapB t := by rw [allB, allB, bapp_nil]
theorem fits_app {a b : List ByteArray} (ha : Fits a) (hb : Fits b) : Fits (a ++ b) := fun x hx => by
  rcases List.mem_append.1 hx with h | h
  · exact ha x h
  · exact hb x h
theorem zeros_none (n : Nat) : nextB (zerosB n) = none := next_first (by rw [bAt_zeros]; decide)

set_option maxHeartbeats 1000000 in
set_option maxRecDepth 100000 in
theorem FrameTorn_walk (w : World) (A : Option Addr) (cap : Nat) (l : List ByteArray) (hr : RdV w A (l.map .string)) (hsz : ∀ x, x ∈ l → x.size ≤ maxLen) (hl : l.length ≤ maxLen) (one : ByteArray) (ho : one.size ≤ 140737488351232) (cut : Int) (hcut : Bd .i64 cut) :
    Calls Try.prog 5 #[.slice A l.length cap, .string one, .int .i64 cut] w fun e w' => e = .returned (.bool true) ∧ Fr [] w w' := by
  obtain ⟨hfit, h80, h6⟩ := few04_fits l
  obtain ⟨ht1, ht2⟩ := dashB_size one
  have HFEW := Lib.hid (fun (W : World) (h : RdV W A (l.map .string)) => few04_calls W A cap l h hsz hl)
  have HONE : Hid (∀ (W : World) (A : Option Addr), RdV W A [.string one] → Calls Try.prog 11 #[.slice A 1 1] W fun e w' => ∃ v r, e = .returned v ∧ SRow 9 1 w' v r 1 [.string (dashB (shortB one 80))] ∧ Fr [] W w' ∧ (∀ k, k ∈ r → W.heap.size ≤ k)) :=
    Lib.hid (fun W A h => few04_calls W A 1 [one] h (fun x hx => by simp at hx; subst hx; simp only [maxLen]; omega) (by show 1 ≤ maxLen; decide))
  generalize few04B l = m at hfit h80 h6 HFEW
  generalize dashB (shortB one 80) = t at ht1 ht2 HONE
  have hml := allB_le m h80
  have hw := wrapB_size t
  rw [fsize_in (by omega) (by omega)] at hw
  obtain ⟨Z, hZ⟩ : ∃ Z, Z = zerosB 100 := ⟨_, rfl⟩
  have hZs : 100 = Z.size := by rw [hZ, zerosB_size]
  have hmk := fun W => run_zeros W 100 (mi := 100) (by rfl) (by omega)
  rw [← hZ] at hmk
  have HTK : Hid (∀ k, k < (wrapB t).size → textsB (allB m ++ (wrapB t).extract 0 k ++ Z) = m ∧ endOf (allB m ++ (wrapB t).extract 0 k ++ Z) = (allB m).size) := Lib.hid (fun k hk => by
    rw [bapp_assoc, hZ]
    exact texts_all hfit (next_torn ht1 ht2 hk))
  have HT2 : Hid ((textsB (allB m ++ wrapB t ++ Z)).length = m.length + 1) := Lib.hid (by
    have h := texts_all (fits_app hfit (fun x hx => by simp at hx; subst hx; omega : Fits [t])) (zeros_none 100)
    rw [allB_app, allB_one] at h
    rw [hZ, h.1, List.length_append]
    rfl)
  have hwn : (wrapB t).size = t.size + 8 := by omega
  have HWR := Lib.hid (fun W => Wrap_calls W t (by omega))
  generalize wrapB t = rr at HTK HT2 hwn HWR
  generalize hS : allB m = S at hml HTK HT2
  have HSS := Lib.hid hS
  have hs1 : S.size ≤ 600 := by omega
  have hr1 : rr.size ≤ 88 := by omega
  have hTp : (0 : Int) < (rr.size : Int) := by omega
  have hr0 : ((rr.size : Int) == 0) = false := beq_eq_false_iff_ne.2 (by omega)
  obtain ⟨R, hR, hR0, hR1⟩ : ∃ R, cut.tmod (rr.size : Int) = R ∧ -(rr.size : Int) < R ∧ R < (rr.size : Int) := ⟨_, rfl, Int.lt_tmod_of_pos _ hTp, Int.tmod_lt_of_pos _ hTp⟩
  obtain ⟨k, hk, hkT⟩ : ∃ k : Nat, (R + (rr.size : Int)).tmod (rr.size : Int) = (k : Int) ∧ k < rr.size := by
    have h1 := Int.tmod_nonneg (rr.size : Int) (by omega : 0 ≤ R + (rr.size : Int))
    have h2 := Int.tmod_lt_of_pos (R + (rr.size : Int)) hTp
    exact ⟨((R + (rr.size : Int)).tmod (rr.size : Int)).toNat, by omega, by omega⟩
  have HT1 := Lib.hid (HTK.out k hkT)
  have HZS := Lib.hid hZs
  have hzl : Z.size ≤ 100 := by omega
  clear hw HTK hZ hS hwn hZs ht1 ht2 hml
  go_enter Try.func5, Try.ntmps5
  go_wp2_with fail
  (with_reducible refine (awake04_calls _).mono ?_)
  rintro e w1 ⟨rfl, hf1⟩
  have HR1 := Lib.hid (hr.keep hf1 (by simp))
  clear hr
  go_wp2_with fail
  (with_reducible refine (HFEW.out _ HR1.out).mono ?_)
  rintro e w2 ⟨v, r, rfl, hs2, hf2, hn2⟩
  obtain ⟨B, c2, rfl, hc2, hc3, hb2, hbr⟩ := hs2.reads
  have HB2 := Lib.hid hb2
  have HF2 := Lib.hid (hf1.then hf2)
  have hm6 : m.length ≤ 1000000 := by omega
  have hm1 : ∀ x, x ∈ m → x.size ≤ 1000 := fun x hx => by have := h80 x hx; omega
  have HM1 := Lib.hid hm1
  clear hs2 hf1 hf2 hn2 hb2 hbr HR1 HFEW hm1 h80
  go_wp2_with fail
  (with_reducible refine (HONE.out _ _ (RdV.one ?_)).mono ?_)
  · simp
  rintro e w3 ⟨v, r3, rfl, hs3, hf3, hn3⟩
  obtain ⟨B3, c3, rfl, -, -, hb3, -⟩ := hs3.reads
  obtain ⟨ad3, rfl, hc3⟩ := hb3 0 _ rfl
  rw [Addr.add_zero'] at hc3
  have hfa := ((Fr.refl [] _).alloc _).then hf3
  have HB3 := Lib.hid (HB2.out.keep hfa (by simp))
  have HF3 := Lib.hid (HF2.out.then hfa)
  clear hs3 hf3 hn3 hb3 HONE HB2 HF2 hfa
  go_wp2_with fail
  (with_reducible refine (HWR.out _).mono ?_)
  rintro e w4 ⟨rfl, hf4⟩
  have HB4 := Lib.hid (HB3.out.keep hf4 (by simp))
  have HF4 := Lib.hid (HF3.out.then hf4)
  clear hf4 hc3 HB3 HF3 HWR
  go_wp2_with fail
  have hB8 := BB.new w4 Z
  have HF8 := Lib.hid (HF4.out.alloc (.cells (Lib.strCells Z).toArray 5))
  have HB8 := Lib.hid (HB4.out.keep ((Fr.refl [] _).alloc (.cells (Lib.strCells Z).toArray 5)) (by simp))
  clear hmk HB4 HF4 hR hk hr0
  generalize w4.alloc (.cells (Lib.strCells Z).toArray 5) = w8 at hB8 HB8 HF8 ⊢
  generalize w4.heap.size = b8 at hB8 ⊢
  have HZ8 : Hid (BB 5 w8.drew b8 Z) := Lib.hid hB8
  have hcv := run_bb (w := w8.drew) (c := 100) HZS.out hB8
  have hcv' := run_bb (w := w8) (c := 100) HZS.out hB8
  have HB8d : Hid (RdV w8.drew B (m.map .string)) := Lib.hid HB8.out
  clear hB8
  have hk0 : (0 : Int) ≤ (k : Int) := by omega
  have hk1 : (k : Int) ≤ (rr.size : Int) := by omega
  have hx1 : (rr.extract 0 k).size = k := by rw [ByteArray.size_extract]; omega
  have g1 : (9223372036854775807 < S.size + (rr.extract 0 k).size) = False := eq_false (by omega)
  have g2 : (9223372036854775807 < S.size + min k rr.size) = False := eq_false (by omega)
  have g3 : (9223372036854775807 < (S ++ rr.extract 0 k).size + Z.size) = False := eq_false (by rw [ByteArray.size_append]; omega)
  have g4 : (9223372036854775807 < S.size + min k rr.size + Z.size) = False := eq_false (by omega)
  have g5 : (9223372036854775807 < S.size + (rr.extract 0 k).size + Z.size) = False := eq_false (by omega)
  have hX : Hid ((S ++ rr.extract 0 k ++ Z).size ≤ 1000000) := Lib.hid (by rw [ByteArray.size_append, ByteArray.size_append]; omega)
  clear hx1
  go_region_with (first
    | (go_at_call 12; (with_reducible refine (All_calls _ B c2 m HB8d.out HM1.out hm6).mono ?_); rintro e w9 ⟨rfl, hf9⟩; rw [HSS.out]; have hcv9 := run_bb (w := w9) (c := 100) HZS.out (HZ8.out.keep hf9 (by simp)))
    | (go_at_call 13; (with_reducible refine (Scan_calls _ _ hX.out).mono ?_); rintro e w10 ⟨C, c10, r10, rfl, h10, hf10, hn10⟩))
  all_goals
    clear hcv hcv' g1 g2 g3 g4 g5 hX hcv9
    rw [HT1.out.1] at h10 ⊢
    rw [HT1.out.2]
    obtain ⟨C', c10', he10, -, -, hb10, -⟩ := h10.reads
    obtain ⟨rfl, rfl⟩ : C = C' ∧ c10 = c10' := by injection he10 with a b c; exact ⟨a, c⟩
    have HF10 := Lib.hid ((HF8.out.drew.then hf9).then hf10)
    have hfa : Fr [] w8.drew w10 := hf9.then hf10
    have HB10 := Lib.hid (HB8d.out.keep hfa (by simp))
    have HZ10 := Lib.hid (HZ8.out.keep hfa (by simp))
    have HC10 := Lib.hid hb10
    clear h10 he10 hb10 hf9 hf10 hn10 hfa HF8 HB8 HB8d HZ8
    go_wp2_with fail
    (with_reducible refine (Same03_calls _ C B c10 c2 m m HC10.out HB10.out (by simp only [maxLen]; omega) (by simp only [maxLen]; omega)).mono ?_)
    rintro e w11 ⟨rfl, hf11⟩
    rw [sameB_self]
    have HF11 : Hid (Fr [] w w11.drew) := Lib.hid (HF10.out.then hf11).drew
    have HB11 : Hid (RdV w11.drew B (m.map .string)) := Lib.hid (show RdV w11 B (m.map .string) from HB10.out.keep hf11 (by simp))
    have HZ11 : Hid (BB 5 w11.drew b8 Z) := Lib.hid (show BB 5 w11 b8 Z from HZ10.out.keep hf11 (by simp))
    have hcv : (convert 25 9 (.slice (some ⟨b8, 0, none⟩) 100 100)).run Try.prog w11.drew = .ok (.string Z) w11.drew := run_bb (c := 100) HZS.out HZ11.out
    clear hf11 HF10 HB10 HZ10 HC10
    have g1 : (9223372036854775807 < S.size + rr.size) = False := eq_false (by omega)
    have g2 : (9223372036854775807 < (S ++ rr).size + Z.size) = False := eq_false (by rw [ByteArray.size_append]; omega)
    have g3 : (9223372036854775807 < S.size + rr.size + Z.size) = False := eq_false (by omega)
    have hX : Hid ((S ++ rr ++ Z).size ≤ 1000000) := Lib.hid (by rw [ByteArray.size_append, ByteArray.size_append]; omega)
    go_wp2_with fail
    go_region_with (first
      | (go_at_call 12; (with_reducible refine (All_calls _ B c2 m HB11.out HM1.out hm6).mono ?_); rintro e w12 ⟨rfl, hf12⟩; rw [HSS.out]; have hcv12 := run_bb (w := w12) (c := 100) HZS.out (HZ11.out.keep hf12 (by simp)))
      | (go_at_call 13; (with_reducible refine (Scan_calls _ _ hX.out).mono ?_); rintro e w13 ⟨D, c13, r13, rfl, h13, hf13, hn13⟩))
    all_goals
      clear hcv hcv12 g1 g2 g3 hX
      rw [HT2.out]
      have hfa : Fr [] w11.drew w13 := hf12.then hf13
      have HF13 := Lib.hid (HF11.out.then hfa)
      have HB13 := Lib.hid (HB11.out.keep hfa (by simp))
      have hb1 : ((S.size : Int) == (S.size : Int)) = true := beq_iff_eq.2 rfl
      have hb2 : (((m.length + 1 : Nat) : Int) == (m.length : Int) + 1) = true := beq_iff_eq.2 (by omega)
      have hb3 : (((m.length : Int) + 1) == (m.length : Int) + 1) = true := beq_iff_eq.2 rfl
      clear h13 hf12 hf13 hn13 hfa HF11 HB11 HZ11
      go_wp2_with fail
      (with_reducible refine (All_calls _ B c2 m HB13.out HM1.out hm6).mono ?_)
      rintro e w14 ⟨rfl, hf14⟩
      rw [HSS.out]
      have HF14 := Lib.hid (HF13.out.then hf14)
      clear hf14
      go_wp2_with fail
      go_ret
      exact ⟨rfl, HF14.out⟩

end Go.Proofs.Ytjlhbmgbiobpaaa
