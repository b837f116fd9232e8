/- The law DiskBreaks: for any two numbers the Go function returns true (its walk). -/
import Derived.Test.YtndenbcdhbnamaaDisk7
import Derived.Test.YtndenbcdhbnamaaDiskPure
namespace Go.Proofs.Ytndenbcdhbnamaa
open Go.RowKit
set_option linter.unusedVariables false
set_option linter.unusedSimpArgs false

/-- So many writes of one byte, from place 1 on. -/
def wlX (m : Nat) : List (Nat × ByteArray) := (List.range m).map fun j => (j + 1, ⟨#[120]⟩)
theorem wlX_succ (m : Nat) : wlX (m + 1) = wlX m ++ [(m + 1, ⟨#[120]⟩)] := by simp [wlX, List.range_succ]
theorem wlX_length (m : Nat) : (wlX m).length = m := by simp [wlX]
theorem wlX_pend (m : Nat) : ((wlX m).map fun x => x.2.size).sum = m := by
  induction m with
  | zero => rfl
  | succ m ih => rw [wlX_succ, List.map_append, List.sum_append, ih]; rfl
theorem wlX_crash (k : Nat) (m : Nat) (hm : m ≤ 14) : (crashS (wlX m) (k : Int) (zerosB 20) 0).1.size = 20 ∧ ∀ p, gB (crashS (wlX m) (k : Int) (zerosB 20) 0).1 p = if 1 ≤ p ∧ p < 1 + min k m then 120 else 0 := by
  induction m with
  | zero =>
    refine ⟨zerosB_size 20, fun p => ?_⟩
    rw [if_neg (by omega)]
    exact gB_zeros 20 p
  | succ m ih =>
    obtain ⟨h1, h2⟩ := ih (by omega)
    rw [wlX_succ, crashS_app, wlX_pend, crashS, crashS]
    obtain ⟨q, hq, hq'⟩ : ∃ q, min ((k : Int) - ((min ((k : Int).toNat) m : Nat) : Int)).toNat (⟨#[120]⟩ : ByteArray).size = q ∧ q = min (k - m) 1 := ⟨_, rfl, by show min _ 1 = _; omega⟩
    rw [hq]
    clear hq
    generalize (crashS (wlX m) (k : Int) (zerosB 20) 0).1 = st at h1 h2 ⊢
    have hu : ((⟨#[120]⟩ : ByteArray).extract 0 q).size = q := by rw [ByteArray.size_extract]; show min q 1 - 0 = q; omega
    refine ⟨by show (ovB _ _ _).size = 20; rw [ovB_size (by omega)]; exact h1, fun p => ?_⟩
    show gB (ovB _ _ _) p = _
    rw [gB_ov (by omega), hu, h2 p, gB_cut]
    by_cases h3 : m + 1 ≤ p ∧ p < m + 1 + q
    · rw [if_pos h3, if_pos (by omega), if_pos (by omega)]
      rw [show 0 + (p - (m + 1)) = 0 from by omega]
      rfl
    · rw [if_neg h3]
      by_cases h4 : 1 ≤ p ∧ p < 1 + min k m
      · rw [if_pos h4, if_pos (by omega)]
      · rw [if_neg h4, if_neg (by omega)]

theorem tmod_bounds (x m : Int) (hm : 0 < m) : -m < x.tmod m ∧ x.tmod m < m := ⟨Int.lt_tmod_of_pos x hm, Int.tmod_lt_of_pos x hm⟩

set_option maxHeartbeats 2000000 in
set_option maxRecDepth 100000 in
theorem DiskBreaks_walk (w : World) (at' : Int) (ha : Bd .i64 at') (keep : Int) (hk : Bd .i64 keep) :
    Calls Try.prog 6 #[.int .i64 at', .int .i64 keep] w fun e w' => e = .returned (.bool true) ∧ Fr [] w w' := by
  have ⟨ha0, ha1⟩ := ha.i64
  have ⟨hk0, hk1⟩ := hk.i64
  clear ha hk
  obtain ⟨T, hT, hT0, hT1⟩ : ∃ T, at'.tmod 12 = T ∧ -12 < T ∧ T < 12 := ⟨_, rfl, tmod_bounds _ _ (by decide)⟩
  obtain ⟨q, hq, hq12⟩ : ∃ q : Nat, (T + 12) % 12 = (q : Int) ∧ q < 12 := ⟨((T + 12) % 12).toNat, by omega, by omega⟩
  obtain ⟨U, hU, hU0, hU1⟩ : ∃ U, keep.tmod 16 = U ∧ -16 < U ∧ U < 16 := ⟨_, rfl, tmod_bounds _ _ (by decide)⟩
  obtain ⟨k, hkk, hk16⟩ : ∃ k : Nat, (U + 16) % 16 = (k : Int) ∧ k < 16 := ⟨((U + 16) % 16).toNat, by omega, by omega⟩
  go_enter Try.func6, Try.ntmps6
  go_wp2_with fail
  (with_reducible refine (awake02_calls _).mono ?_)
  rintro e w1 ⟨rfl, hf1⟩
  go_wp2_with fail
  (with_reducible refine (NewN_calls w _ hf1 20 (show (20 : Int) = ((20 : Nat) : Int) from rfl) (by decide) (by decide)).mono ?_)
  rintro e w2 ⟨b, ps, pn, rfl, h2⟩
  clear hf1
  go_wp2_with fail
  (with_reducible refine (BreakN_calls w _ b ps pn _ _ _ _ _ _ h2 _ (by omega) (by omega)).mono ?_)
  rintro e w3 ⟨rfl, h3⟩
  clear h2
  clear hT hT0 hT1 hq
  have hz := zerosB_size 20
  generalize hZ : zerosB 20 = Z at h3 hz
  have HZ := Lib.hid hZ
  clear hZ
  go_wp2_with fail
  go_loopw [8] (fun v8 wr => ∃ (i : Nat), v8 = .int .i64 i ∧ 1 ≤ i ∧ i ≤ 14 ∧ Hid (∃ v r nw, (i ≤ q + 1 ∧ DN w wr b ps pn v r Z nw (wlX (i - 1)) ((q + 2 - i : Nat) : Int) false) ∨ (q + 1 < i ∧ DN w wr b ps pn v r Z nw (wlX (q + 1)) 0 true))) (fun v8 _ => 14 - (intOf v8).toNat)
  case atStart =>
    have e : ((q + 2 - 1 : Nat) : Int) = 1 + (q : Int) := by omega
    exact ⟨1, rfl, by decide, by decide, .slice none 0 0, [], Z, .inl ⟨by omega, by rw [e]; exact h3⟩⟩
  case round =>
    clear h3
    obtain ⟨i, rfl, hi1, hi14, H⟩ := hrel
    obtain ⟨v, r, nw, H⟩ := H.out
    by_cases hi : i < 14
    · rcases H with ⟨hA, hD⟩ | ⟨hB, hD⟩
      · by_cases hlt : i < q + 1
        · have e1 : stepB ((q + 2 - i : Nat) : Int) false = false := by
            have : (((q + 2 - i : Nat) : Int) == 1) = false := beq_eq_false_iff_ne.2 (by omega)
            rw [stepB, this]
            rfl
          have e2 : stepL ((q + 2 - i : Nat) : Int) = ((q + 2 - (i + 1) : Nat) : Int) := by
            unfold stepL
            rw [if_neg (by omega)]
            omega
          have hW := WriteN_calls w wr b ps pn v r Z nw _ _ hD i rfl ⟨#[120]⟩ (by rw [hz]; show i + 1 ≤ 20; omega) (by rw [wlX_length]; omega)
          rw [e1, e2] at hW
          have HW := Lib.hid hW
          clear hW e1 e2 hD
          go_wp2_with fail
          (with_reducible refine HW.out.mono ?_)
          rintro e w4 ⟨rfl, v4, r4, h4⟩
          have h4' : DN w w4 b ps pn v4 r4 Z (ovB nw i ⟨#[120]⟩) (wlX (i + 1 - 1)) ((q + 2 - (i + 1) : Nat) : Int) false := by
            have := wlX_succ (i - 1)
            rw [show i - 1 + 1 = i from by omega] at this
            rw [show i + 1 - 1 = i from by omega, this]
            exact h4
          have H4 := Lib.hid h4'
          clear h4 h4' HW
          go_wp2_with fail
          (with_reducible refine (Broken_calls _ b ps pn _ _ _ _ _ _ _ H4.out.dk).mono ?_)
          rintro e w5 ⟨rfl, rfl⟩
          go_wp2_with fail
          refine ⟨⟨i + 1, by go_num, by omega, by omega, v4, r4, _, .inl ⟨by omega, H4.out⟩⟩, by simp only [intOf]; omega⟩
        · have hiq : i = q + 1 := by omega
          have hW := WriteN_calls w wr b ps pn v r Z nw _ _ hD i rfl ⟨#[120]⟩ (by rw [hz]; show i + 1 ≤ 20; omega) (by rw [wlX_length]; omega)
          have hwx : wlX (i - 1) ++ [(i, ⟨#[120]⟩)] = wlX (q + 1) := by
            rw [show i = q + 1 from hiq, show q + 1 - 1 = q from by omega, wlX_succ]
          rw [hwx, show ((q + 2 - i : Nat) : Int) = 1 from by omega, show stepB 1 false = true from rfl, show stepL 1 = 0 from rfl] at hW
          have HW := Lib.hid hW
          clear hW hD hwx hiq
          go_wp2_with fail
          (with_reducible refine HW.out.mono ?_)
          rintro e w4 ⟨rfl, v4, r4, h4⟩
          have H4 := Lib.hid h4
          clear h4 HW
          go_wp2_with fail
          (with_reducible refine (Broken_calls _ b ps pn _ _ _ _ _ _ _ H4.out.dk).mono ?_)
          rintro e w5 ⟨rfl, rfl⟩
          go_wp2_with fail
          refine ⟨⟨i + 1, by go_num, by omega, by omega, v4, r4, _, .inr ⟨by omega, H4.out⟩⟩, by simp only [intOf]; omega⟩
      · have HD := Lib.hid hD
        have hfit : i + (⟨#[120]⟩ : ByteArray).size ≤ Z.size := by rw [hz]; show i + 1 ≤ 20; omega
        clear hD
        go_wp2_with fail
        (with_reducible refine (Write_bad_calls _ b ps pn v r Z nw _ _ HD.out.dk i rfl ⟨#[120]⟩ hfit).mono ?_)
        rintro e w4 ⟨rfl, rfl⟩
        go_wp2_with fail
        (with_reducible refine (Broken_calls _ b ps pn _ _ _ _ _ _ _ HD.out.dk).mono ?_)
        rintro e w5 ⟨rfl, rfl⟩
        go_wp2_with fail
        refine ⟨⟨i + 1, by go_num, by omega, by omega, v, r, nw, .inr ⟨by omega, HD.out⟩⟩, by simp only [intOf]; omega⟩
    · have hD : DN w wr b ps pn v r Z nw (wlX (q + 1)) 0 true := by
        rcases H with ⟨hA, hD⟩ | ⟨hB, hD⟩
        · omega
        · exact hD
      have HD := Lib.hid hD
      have hpd : ((pend (wlX (q + 1)) : Nat) : Int) = 1 + (q : Int) := by
        have : pend (wlX (q + 1)) = q + 1 := wlX_pend _
        omega
      obtain ⟨hSz, hSg⟩ := wlX_crash k (q + 1) (by omega)
      have hS : crashS (wlX (q + 1)) (k : Int) Z 0 = ((crashS (wlX (q + 1)) (k : Int) (zerosB 20) 0).1, (crashS (wlX (q + 1)) (k : Int) (zerosB 20) 0).2) := by rw [HZ.out]
      generalize (crashS (wlX (q + 1)) (k : Int) (zerosB 20) 0).1 = st at hSz hSg hS
      generalize (crashS (wlX (q + 1)) (k : Int) (zerosB 20) 0).2 = lost at hS
      have HS := Lib.hid hS
      have hR : (st.extract 1 (1 + 14)).size = 14 := by rw [ByteArray.size_extract]; omega
      have hRg : ∀ p (h : p < (st.extract 1 (1 + 14)).size), ((st.extract 1 (1 + 14))[p]).toNat = if p < min k (q + 1) then 120 else 0 := by
        intro p h
        rw [gB_get, gB_cut, if_pos (by omega), hSg]
        by_cases h2 : p < min k (q + 1)
        · rw [if_pos (by omega), if_pos h2]
          rfl
        · rw [if_neg (by omega), if_neg h2]
          rfl
      generalize hRR : st.extract 1 (1 + 14) = R at hR hRg
      have HRG := Lib.hid hRg
      have hfit1 : 1 + 14 ≤ st.size := by omega
      have hfit0 : 0 + 1 ≤ Z.size := by omega
      have hfit2 : 0 + (⟨#[121]⟩ : ByteArray).size ≤ st.size := by rw [hSz]; decide
      clear hD H hS hSg hRg
      go_wp2_with fail
      (with_reducible refine (Read_bad_calls _ b ps pn v r Z nw _ _ HD.out.dk 0 1 zi0 (show (1 : Int) = ((1 : Nat) : Int) from rfl) hfit0).mono ?_)
      rintro e w4 ⟨rfl, rfl⟩
      go_wp2_with fail
      (with_reducible refine (Sync_bad_calls _ b ps pn v r Z nw _ _ HD.out.dk).mono ?_)
      rintro e w4 ⟨rfl, rfl⟩
      go_wp2_with fail
      (with_reducible refine (Pending_calls _ b ps pn v r Z nw _ _ _ HD.out.dk).mono ?_)
      rintro e w4 ⟨rfl, hf4⟩
      rw [hpd]
      have H4 := Lib.hid (HD.out.then hf4)
      clear HD hf4 hpd
      go_wp2_with fail
      (with_reducible refine (CrashN_calls w _ b ps pn _ _ _ _ _ _ _ H4.out k (by omega) (by omega) HS.out).mono ?_)
      rintro e w5 ⟨rfl, v5, h5⟩
      have H5 := Lib.hid h5
      clear h5 H4 HS
      go_wp2_with fail
      (with_reducible refine (Read_calls _ b ps pn _ _ _ _ _ _ H5.out.dk 1 14 (show (1 : Int) = ((1 : Nat) : Int) from rfl) (show (14 : Int) = ((14 : Nat) : Int) from rfl) hfit1).mono ?_)
      rintro e w6 ⟨rfl, rfl⟩
      rw [hRR]
      clear hRR
      go_wp2_with fail
      go_loop [15] (fun v15 => ∃ p : Nat, v15 = .int .i64 p ∧ p ≤ 14) (fun v15 => 14 - (intOf v15).toNat)
      case atStart => exact ⟨0, rfl, by decide⟩
      case round =>
        obtain ⟨p, rfl, hp⟩ := hrel
        by_cases hp14 : p < 14
        · have hRp := HRG.out p (by omega)
          by_cases hkq : k ≤ q + 1
          · by_cases hpk : p < k
            · rw [if_pos (by omega)] at hRp
              go_wp2
              exact ⟨⟨p + 1, by go_num, by omega⟩, by simp only [intOf]; omega⟩
            · rw [if_neg (by omega)] at hRp
              go_wp2
              exact ⟨⟨p + 1, by go_num, by omega⟩, by simp only [intOf]; omega⟩
          · by_cases hpk : p < q + 1
            · rw [if_pos (by omega)] at hRp
              go_wp2
              exact ⟨⟨p + 1, by go_num, by omega⟩, by simp only [intOf]; omega⟩
            · rw [if_neg (by omega)] at hRp
              go_wp2
              exact ⟨⟨p + 1, by go_num, by omega⟩, by simp only [intOf]; omega⟩
        · have hp' : 14 ≤ p := by omega
          clear HRG
          go_wp2_with fail
          (with_reducible refine (Write0_calls w _ b ps pn _ _ _ _ _ H5.out 0 zi0 ⟨#[121]⟩ hfit2 (by decide)).mono ?_)
          rintro e w7 ⟨rfl, v7, r7, h7⟩
          have H7 := Lib.hid h7
          clear h7 H5
          go_wp2_with fail
          (with_reducible refine (SyncN_calls w _ b ps pn _ _ _ _ _ H7.out).mono ?_)
          rintro e w8 ⟨rfl, v8, h8⟩
          have hF := h8.fr
          clear h8 H7
          go_wp2_with fail
          go_ret
          exact ⟨rfl, hF⟩

end Go.Proofs.Ytndenbcdhbnamaa
