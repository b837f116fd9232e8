/- The law DiskOrder: for any texts and any number the Go function returns true (its walk). -/
import Derived.Test.YtndenbcdhbnamaaDisk7
import Derived.Test.YtndenbcdhbnamaaDiskPure
import Derived.Test.YtndenbcdhbnamaaShort02
namespace Go.Proofs.Ytndenbcdhbnamaa
open Go.RowKit
set_option linter.unusedVariables false
set_option linter.unusedSimpArgs false

/-- What the writes are that came one behind the other, all in all t. -/
def OInv (wl : List (Nat × ByteArray)) (t : ByteArray) : Prop :=
  (wl.map fun x => x.2.size).sum = t.size ∧ ∀ keep : Nat, crashS wl (keep : Int) (zerosB 64) 0 = (ovB (zerosB 64) 0 (t.extract 0 (min keep t.size)), t.size - min keep t.size)
theorem OInv.nil : OInv [] ⟨#[]⟩ := by
  refine ⟨rfl, fun keep => ?_⟩
  have h : ((⟨#[]⟩ : ByteArray).extract 0 (min keep (⟨#[]⟩ : ByteArray).size)).size = 0 := by
    rw [ByteArray.size_extract]
    have : (⟨#[]⟩ : ByteArray).size = 0 := rfl
    omega
  rw [ovB_none h]
  show (zerosB 64, 0) = (zerosB 64, (0 : Nat) - _)
  rw [Nat.zero_sub]
theorem OInv.step {wl : List (Nat × ByteArray)} {t s : ByteArray} (h : OInv wl t) (hf : t.size + s.size ≤ 64) : OInv (wl ++ [(t.size, s)]) (t ++ s) := by
  obtain ⟨h1, h2⟩ := h
  refine ⟨by rw [List.map_append, List.sum_append, h1, ByteArray.size_append]; simp, fun keep => ?_⟩
  rw [crashS_app, h2 keep, h1, crashS, crashS]
  have hz := zerosB_size 64
  obtain ⟨m, hm, hm'⟩ : ∃ m, min ((keep : Int) - ((min ((keep : Int).toNat) t.size : Nat) : Int)).toNat s.size = m ∧ m = min (keep - t.size) s.size := ⟨_, rfl, by omega⟩
  rw [hm, ByteArray.size_append]
  clear hm
  have hu : (s.extract 0 m).size = m := by rw [ByteArray.size_extract]; omega
  have e4 : (t ++ s).size = t.size + s.size := ByteArray.size_append
  by_cases hk : keep ≤ t.size
  · have hm0 : m = 0 := by omega
    rw [ovB_none (by omega)]
    have h5 : t.extract 0 (min keep t.size) = (t ++ s).extract 0 (min keep (t.size + s.size)) := by
      apply gB_ext
      · rw [ByteArray.size_extract, ByteArray.size_extract]
        omega
      · intro i hi
        rw [ByteArray.size_extract] at hi
        rw [gB_cut, gB_cut, gB_app, if_pos (by omega), if_pos (by omega), if_pos (by omega)]
    rw [h5]
    congr 1
    omega
  · have hk1 : min keep t.size = t.size := by omega
    have hk2 : min keep (t.size + s.size) = t.size + m := by omega
    rw [hk1, hk2, ByteArray.extract_zero_size]
    have hs1 : (ovB (zerosB 64) 0 t).size = 64 := by rw [ovB_size (by omega)]; exact hz
    have hx : ((t ++ s).extract 0 (t.size + m)).size = t.size + m := by rw [ByteArray.size_extract]; omega
    have h5 : ovB (ovB (zerosB 64) 0 t) t.size (s.extract 0 m) = ovB (zerosB 64) 0 ((t ++ s).extract 0 (t.size + m)) := by
      apply gB_ext
      · rw [ovB_size (by omega), ovB_size (by omega), ovB_size (by omega)]
      · intro i hi
        rw [gB_ov (by omega), gB_ov (by omega), gB_ov (by omega), hu, hx]
        by_cases h6 : i < t.size
        · rw [if_neg (by omega), if_pos (by omega), if_pos (by omega), gB_cut, if_pos (by omega), gB_app, if_pos (by omega), Nat.zero_add]
        · by_cases h7 : i < t.size + m
          · rw [if_pos (by omega), if_pos (by omega), gB_cut, if_pos (by omega), gB_cut, if_pos (by omega), gB_app, if_neg (by omega)]
            congr 1
            omega
          · rw [if_neg (by omega), if_neg (by omega), if_neg (by omega)]
    rw [h5]
    congr 1
    omega

theorem i64_and63 (n : Int) : bits .and .i64 n 63 = n % 64 := by
  have h127 : (BitVec.ofInt 64 63).toNat = 2 ^ 6 - 1 := by decide
  have key : (BitVec.ofInt 64 n &&& BitVec.ofInt 64 63).toNat = (n % ((2 ^ 64 : Nat) : Int)).toNat % 2 ^ 6 := by
    rw [BitVec.toNat_and, BitVec.toNat_ofInt, h127, Nat.and_two_pow_sub_one_eq_mod]
  show IntKind.i64.wrap ((BitVec.ofInt 64 n &&& BitVec.ofInt 64 63).toNat : Nat) = n % 64
  rw [key, IntKind.wrap_i64]
  omega

set_option maxHeartbeats 2000000 in
set_option maxRecDepth 100000 in
theorem DiskOrder_walk (w : World) (A : Option Addr) (cap : Nat) (l : List ByteArray) (hr : RdV w A (l.map .string)) (hsz : ∀ x, x ∈ l → x.size ≤ maxLen) (hll : l.length ≤ maxLen) (keep : Int) (hkeep : Bd .i64 keep) :
    Calls Try.prog 3 #[.slice A l.length cap, .int .i64 keep] w fun e w' => e = .returned (.bool true) ∧ Fr [] w w' := by
  obtain ⟨k, hk, hk64⟩ : ∃ k : Nat, bits BinOp.and IntKind.i64 keep 63 = (k : Int) ∧ k < 64 := ⟨(keep % 64).toNat, by rw [i64_and63]; omega, by omega⟩
  clear hkeep
  unfold maxLen at hll hsz
  go_enter Try.func3, Try.ntmps3
  go_wp2_with fail
  (with_reducible refine (awake02_calls _).mono ?_)
  rintro e w1 ⟨rfl, hf1⟩
  go_wp2_with fail
  (with_reducible refine (NewN_calls w _ hf1 64 (show (64 : Int) = ((64 : Nat) : Int) from rfl) (by decide) (by decide)).mono ?_)
  rintro e w2 ⟨b, ps, pn, rfl, h2⟩
  clear hf1
  have hz := zerosB_size 64
  generalize hZ : zerosB 64 = Z at h2 hz
  have HZ := Lib.hid hZ
  clear hZ
  go_wp2_with fail
  go_loopw [7, 8] (fun v7 v8 wr => ∃ (i : Nat) (t nw : ByteArray) (v : Value) (r : List Nat) (wl : List (Nat × ByteArray)), v7 = .string t ∧ v8 = .int .i64 i ∧ i ≤ 6 ∧ i ≤ l.length ∧ t.size ≤ 8 * i ∧ wl.length = i ∧ Hid (DN w wr b ps pn v r Z nw wl 0 false ∧ OInv wl t)) (fun _ v8 _ => 6 - (intOf v8).toNat)
  case atStart => exact ⟨0, ⟨#[]⟩, Z, _, [], [], rfl, rfl, by decide, Nat.zero_le _, by decide, rfl, h2, OInv.nil⟩
  case round =>
    clear h2
    obtain ⟨i, t, nw, v, r, wl, rfl, rfl, hi6, hil, ht, hwl, H⟩ := hrel
    by_cases hlt : i < l.length ∧ i < 6
    · obtain ⟨hl1, hl2⟩ := hlt
      obtain ⟨ad, rfl, hc0⟩ := hr i (.string l[i]) (by simp [hl1])
      have hc := H.out.1.fr.cell' hc0 (by simp)
      have hx := hsz l[i] (List.getElem_mem hl1)
      generalize l[i] = x at hc hx hc0
      go_wp2_with fail
      (with_reducible refine (short02_calls x 8 8 rfl _ (by omega) (by omega)).mono ?_)
      rintro e w3 ⟨rfl, rfl⟩
      have hs8 := shortB_size x 8
      generalize shortB x 8 = s at hs8 ⊢
      clear hx hc hc0
      go_wp2_with fail
      (with_reducible refine (Write0_calls w _ b ps pn v r Z nw wl H.out.1 t.size rfl s (by omega) (by omega)).mono ?_)
      rintro e w4 ⟨rfl, v4, r4, h4⟩
      have H4 := Lib.hid (And.intro h4 (H.out.2.step (s := s) (by omega)))
      have hts : (t ++ s).size = t.size + s.size := ByteArray.size_append
      clear h4 H
      go_wp2_with fail
      refine ⟨⟨i + 1, _, _, v4, r4, _, rfl, by go_num, by omega, by omega, by omega, by simp; omega, H4⟩, by simp only [intOf]; omega⟩
    · have hwl2 : wl.length ≤ 6 := by omega
      obtain ⟨m, hm⟩ : ∃ m, m = min k t.size := ⟨_, rfl⟩
      have hS := H.out.2.2 k
      rw [← hm] at hS
      have hsz1 : (t.extract 0 m).size = m := by rw [ByteArray.size_extract]; omega
      rw [HZ.out] at hS
      have hs64 : (ovB Z 0 (t.extract 0 m)).size = 64 := by rw [ovB_size (by omega)]; exact hz
      have hcut : (ovB Z 0 (t.extract 0 m)).extract 0 m = t.extract 0 m := by
        apply gB_ext
        · rw [ByteArray.size_extract, hs64, hsz1]; omega
        · intro q hq
          rw [gB_cut, gB_ov (by omega), hsz1, if_pos (by omega), if_pos (by omega)]
          congr 1
          omega
      have hzero : ∀ q, m ≤ q → ∀ h : q < (ovB Z 0 (t.extract 0 m)).size, ((ovB Z 0 (t.extract 0 m))[q]).toNat = 0 := by
        intro q hq h
        rw [gB_get, gB_ov (by omega), hsz1, if_neg (by omega), ← HZ.out, zerosB, gB_zeros]
        rfl
      have hpd : pend wl = t.size := H.out.2.1
      obtain ⟨L, hL⟩ : ∃ L : Nat, L = t.size - m := ⟨_, rfl⟩
      rw [← hL] at hS
      generalize ovB Z 0 (t.extract 0 m) = S at hS hs64 hcut hzero
      have HS := Lib.hid hS
      have HC := Lib.hid hcut
      have H0 := Lib.hid hzero
      clear hS hcut hzero hsz1
      have hLi : (t.size : Int) - (m : Int) = (L : Int) := by omega
      have hsplit : (m = k ∧ k ≤ t.size) ∨ (m = t.size ∧ t.size < k) := by omega
      clear hL hm
      have hdn := H.out.1
      by_cases hl1 : i < l.length
      all_goals
        have h8 : ¬ (i < 6 ∧ i < l.length) := fun h => hlt ⟨h.2, h.1⟩
        clear hlt
        rcases hsplit with ⟨rfl, hkt⟩ | ⟨rfl, hkt⟩
        · go_wp2_with fail
          (with_reducible refine (Pending_calls _ b ps pn v r Z nw wl 0 false hdn.dk).mono ?_)
          rintro e w3 ⟨rfl, hf3⟩
          rw [hpd]
          have h3 := hdn.then hf3
          clear hf3
          go_wp2_with fail
          (with_reducible refine (CrashN_calls w _ b ps pn _ _ _ _ _ _ _ h3 _ (by omega) (by omega) HS.out).mono ?_)
          rintro e w4 ⟨rfl, v4, h4⟩
          clear h3
          go_wp2_with fail
          (with_reducible refine (Read_calls _ b ps pn _ _ _ _ _ _ h4.dk 0 64 zi0 (show (64 : Int) = ((64 : Nat) : Int) from rfl) (by omega)).mono ?_)
          rintro e w5 ⟨rfl, rfl⟩
          have hfull : S.extract 0 (0 + 64) = S := by rw [show 0 + 64 = S.size from by omega, ByteArray.extract_zero_size]
          rw [hfull]
          have hF := h4.fr
          have hcut := HC.out
          have g1 : m ≤ S.size := by omega
          have g2 : m ≤ t.size := by omega
          have g3 : m ≤ 64 := by omega
          clear h4 hfull HC
          go_wp2_with fail
          go_quiet (fail)
          go_wp2_with fail
          go_loop [15] (fun v15 => ∃ q : Nat, v15 = .int .i64 q ∧ q ≤ 64 ∧ m ≤ q) (fun v15 => 64 - (intOf v15).toNat)
          case atStart => exact ⟨_, rfl, by omega, by omega⟩
          case round =>
            obtain ⟨q, rfl, hq, hmq⟩ := hrel
            by_cases hq64 : q < 64
            · have hSq := H0.out q (by omega) (by omega)
              go_wp2
              refine ⟨⟨q + 1, by go_num, by omega, by omega⟩, by simp only [intOf]; omega⟩
            · obtain rfl : q = 64 := by omega
              go_wp2
              go_ret
              exact ⟨rfl, hF.drewN _⟩
        · go_wp2_with fail
          (with_reducible refine (Pending_calls _ b ps pn v r Z nw wl 0 false hdn.dk).mono ?_)
          rintro e w3 ⟨rfl, hf3⟩
          rw [hpd]
          have h3 := hdn.then hf3
          clear hf3
          go_wp2_with fail
          (with_reducible refine (CrashN_calls w _ b ps pn _ _ _ _ _ _ _ h3 _ (by omega) (by omega) HS.out).mono ?_)
          rintro e w4 ⟨rfl, v4, h4⟩
          clear h3
          go_wp2_with fail
          (with_reducible refine (Read_calls _ b ps pn _ _ _ _ _ _ h4.dk 0 64 zi0 (show (64 : Int) = ((64 : Nat) : Int) from rfl) (by omega)).mono ?_)
          rintro e w5 ⟨rfl, rfl⟩
          have hfull : S.extract 0 (0 + 64) = S := by rw [show 0 + 64 = S.size from by omega, ByteArray.extract_zero_size]
          rw [hfull]
          have hF := h4.fr
          have hcut := HC.out
          have g1 : t.size ≤ S.size := by omega
          have g2 : t.size ≤ t.size := by omega
          have g3 : t.size ≤ 64 := by omega
          clear h4 hfull HC
          go_wp2_with fail
          go_quiet (fail)
          go_wp2_with fail
          go_loop [15] (fun v15 => ∃ q : Nat, v15 = .int .i64 q ∧ q ≤ 64 ∧ t.size ≤ q) (fun v15 => 64 - (intOf v15).toNat)
          case atStart => exact ⟨_, rfl, by omega, by omega⟩
          case round =>
            obtain ⟨q, rfl, hq, hmq⟩ := hrel
            by_cases hq64 : q < 64
            · have hSq := H0.out q (by omega) (by omega)
              go_wp2
              refine ⟨⟨q + 1, by go_num, by omega, by omega⟩, by simp only [intOf]; omega⟩
            · obtain rfl : q = 64 := by omega
              go_wp2
              go_ret
              exact ⟨rfl, hF.drewN _⟩

end Go.Proofs.Ytndenbcdhbnamaa
