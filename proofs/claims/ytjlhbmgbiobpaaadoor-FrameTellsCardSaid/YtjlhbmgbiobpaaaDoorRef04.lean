/- Contracts of the document's layers 1 and 4: in, Extend, Sum, Seal; Size, Wrap, Next, Scan, All, Empty. -/
import Derived.Test.YtjlhbmgbiobpaaaDoorFrameNext
import Derived.Test.YtjlhbmgbiobpaaaDoorRef04P
import Derived.Test.YtjlhbmgbiobpaaaDoorRows3
import Derived.Deep.RegionHeld3
import Derived.Deep.RegionWith
import Derived.BigRegion
namespace Go.Proofs.YtjlhbmgbiobpaaaDoor
open Go.RowKit
set_option linter.unusedVariables false
set_option linter.unusedSimpArgs false

theorem crcStep_lt {r : Nat} (h : r < 4294967296) : crcStep r < 4294967296 := by
  unfold crcStep
  split
  · exact xor_lt32 (by omega) (by decide)
  · omega

set_option maxHeartbeats 1000000 in
set_option maxRecDepth 100000 in
theorem in_calls (w : World) (r c : Nat) {ci : Int} (hci : ci = c) (hr : r < 4294967296) (hc : c < 256) :
    Calls Tryd.prog 59 #[.int .u32 r, .int .u8 ci] w fun e w' => e = .returned (.int .u32 (crcIn r c : Nat)) ∧ w = w' := by
  subst hci
  have HE := Lib.hid (crcIn_steps r c hc)
  have h1 : bits .xor .u32 (r : Int) (c : Int) = ((r ^^^ c : Nat) : Int) := u32_xor_nat r c hr (by omega)
  have hx := xor_lt32 hr (show c < 4294967296 by omega)
  generalize crcIn r c = res at HE ⊢
  generalize r ^^^ c = x0 at h1 HE hx
  go_enter Tryd.func59, Tryd.ntmps59
  go_wp2_with fail
  go_loop [0, 5] (fun v0 v5 => ∃ i x : Nat, v5 = .int .i64 i ∧ v0 = .int .u32 x ∧ i ≤ 8 ∧ x < 4294967296 ∧ Hid (crcSteps (8 - i) x = res)) (fun _ v5 => 8 - (intOf v5).toNat)
  case atStart => exact ⟨0, x0, rfl, rfl, by decide, hx, HE⟩
  case round =>
    clear HE hx h1
    obtain ⟨i, x, rfl, rfl, hi, hx, H⟩ := hrel
    by_cases h8 : i < 8
    · have ha : bits .and .u32 (x : Int) 1 = ((x % 2 : Nat) : Int) := by
        have := u32_and_nat x 1 hx (by decide)
        rw [show (1 : Int) = ((1 : Nat) : Int) from rfl, this, show (1 : Nat) = 2 ^ 1 - 1 from rfl, Nat.and_two_pow_sub_one_eq_mod]
      have hs : crcSteps (7 - i) (crcStep x) = res := by
        have := H.out
        rwa [show 8 - i = (7 - i) + 1 from by omega, crcSteps] at this
      have hlt := crcStep_lt hx
      have HS := Lib.hid hs
      have e8 : 8 - (i + 1) = 7 - i := by omega
      have E8 := Lib.hid e8
      clear hs H e8
      by_cases hp : x % 2 = 1
      · have ho : bits .xor .u32 ((x : Int) / 2) 3988292384 = ((crcStep x : Nat) : Int) := by
          have := u32_xor_nat (x / 2) 3988292384 (by omega) (by decide)
          rw [show (x : Int) / 2 = ((x / 2 : Nat) : Int) from by simp]
          unfold crcStep
          rw [if_pos hp]
          exact this
        rw [hp] at ha
        generalize crcStep x = y at *
        have HLT := Lib.hid hlt
        clear hp hlt
        go_wp2_with fail
        refine ⟨⟨i + 1, y, by go_num, rfl, by omega, HLT.out, Lib.hid (by rw [E8.out]; exact HS.out)⟩, by simp only [intOf]; omega⟩
      · have ho : (x : Int) / 2 = ((crcStep x : Nat) : Int) := by
          unfold crcStep
          rw [if_neg hp]
          simp
        have hp0 : x % 2 = 0 := by omega
        rw [hp0] at ha
        have HO := Lib.hid ho
        have HLT := Lib.hid hlt
        clear hp ho hp0 hlt
        go_wp2_with fail
        refine ⟨⟨i + 1, crcStep x, by go_num, by rw [HO.out], by omega, HLT.out, Lib.hid (by rw [E8.out]; exact HS.out)⟩, by simp only [intOf]; omega⟩
    · obtain rfl : i = 8 := by omega
      obtain rfl : x = res := H.out
      go_wp2_with fail
      go_ret
      exact ⟨rfl, rfl⟩

set_option maxHeartbeats 1000000 in
set_option maxRecDepth 100000 in
theorem RExtend_calls (w : World) (r : Nat) {ri : Int} (hri : ri = r) (hr : r < 4294967296) (s : ByteArray) (hs : s.size ≤ 9223372036854775806) :
    Calls Tryd.prog 54 #[.int .u32 ri, .string s] w fun e w' => e = .returned (.int .u32 (crcExt r s : Nat)) ∧ w = w' := by
  subst hri
  have h1 : bits .xor .u32 (r : Int) 4294967295 = ((r ^^^ 4294967295 : Nat) : Int) := u32_xor_nat r 4294967295 hr (by decide)
  have hr1 : r ^^^ 4294967295 < 4294967296 := xor_lt32 hr (by decide)
  have HE : Hid (crcExt r s = crcL (r ^^^ 4294967295) s.data.toList ^^^ 4294967295) := Lib.hid rfl
  generalize crcExt r s = res at HE ⊢
  generalize r ^^^ 4294967295 = r1 at h1 HE hr1
  go_enter Tryd.func54, Tryd.ntmps54
  go_wp2_with fail
  go_loop [5, 6] (fun v5 v6 => ∃ k : Nat, v6 = .int .i64 k ∧ k ≤ s.size ∧ v5 = .int .u32 (crcL r1 (s.data.toList.take k) : Nat)) (fun _ v6 => s.size - (intOf v6).toNat)
  case atStart => exact ⟨0, rfl, Nat.zero_le _, rfl⟩
  case round =>
    clear h1
    obtain ⟨k, rfl, hk, rfl⟩ := hrel
    have hL := crcL_lt (s.data.toList.take k) r1 hr1
    by_cases hlt : k < s.size
    · have hts := crcL_snoc r1 (s.data.toList.take k) s[k]
      rw [← take_next s k hlt] at hts
      have HT := Lib.hid hts
      have hc := (s[k]).toNat_lt
      clear hts
      generalize crcL r1 (s.data.toList.take k) = x at HT hL
      generalize hcc : s[k] = c at HT hc
      go_wp2_with fail
      (with_reducible refine (in_calls _ x c.toNat rfl hL hc).mono ?_)
      rintro e w2 ⟨rfl, rfl⟩
      go_wp2_with fail
      refine ⟨⟨k + 1, by go_num, by omega, by rw [HT.out]⟩, by simp only [intOf]; omega⟩
    · obtain rfl : k = s.size := by omega
      rw [List.take_of_length_le (by rw [Array.length_toList]; exact Nat.le_refl _)] at hL ⊢
      generalize crcL r1 s.data.toList = x at HE hL ⊢
      have hx : bits .xor .u32 (x : Int) 4294967295 = (res : Int) := by rw [HE.out]; exact u32_xor_nat x 4294967295 hL (by decide)
      go_wp2_with fail
      go_ret
      exact ⟨rfl, rfl⟩

set_option maxHeartbeats 400000 in
set_option maxRecDepth 100000 in
theorem RSum_calls (w : World) (s : ByteArray) (hs : s.size ≤ 9223372036854775806) :
    Calls Tryd.prog 48 #[.string s] w fun e w' => e = .returned (.int .u32 (crcSum s : Nat)) ∧ w = w' := by
  have HZ := Lib.hid (crcExt_zero s)
  generalize crcSum s = x at HZ ⊢
  go_enter Tryd.func48, Tryd.ntmps48
  go_wp2_with fail
  (with_reducible refine (RExtend_calls _ 0 (show (0 : Int) = ((0 : Nat) : Int) from rfl) (by decide) s hs).mono ?_)
  rintro e w2 ⟨rfl, rfl⟩
  rw [HZ.out]
  go_wp2_with fail
  go_ret
  exact ⟨rfl, rfl⟩

set_option maxHeartbeats 400000 in
set_option maxRecDepth 100000 in
theorem RSeal_calls (w : World) (s : ByteArray) (hs : s.size ≤ 140737488351232) :
    Calls Tryd.prog 41 #[.string s] w fun e w' => e = .returned (.string (sealB s)) ∧ Fr [] w w' := by
  have hlt := crcSum_lt s
  have hb4 := bytes4_size (crcSum s)
  have HE : Hid (sealB s = s ++ bytes4 (crcSum s)) := Lib.hid rfl
  have hcv := run_bytes4 w (crcSum s) hlt
  generalize sealB s = res at HE ⊢
  go_enter Tryd.func41, Tryd.ntmps41
  go_wp2_with fail
  (with_reducible refine (RSum_calls _ s (by omega)).mono ?_)
  rintro e w1 ⟨rfl, rfl⟩
  generalize crcSum s = x at hlt hb4 HE hcv
  generalize bytes4 x = y at hb4 HE hcv
  have hsum : s.size + y.size ≤ 9223372036854775807 := by omega
  go_wp2_with fail
  go_ret
  exact ⟨by rw [HE.out]; rfl, (Fr.refl _ _).alloc _⟩

set_option maxHeartbeats 400000 in
set_option maxRecDepth 100000 in
theorem RSize_calls (w : World) (n : Int) (h : Bd .i64 n) :
    Calls Tryd.prog 15 #[.int .i64 n] w fun e w' => e = .returned (.int .i64 (fsize n)) ∧ w = w' := by
  have hb := h.i64
  clear h
  by_cases h1 : n < 1
  · rw [fsize_out (.inl h1)]
    go_enter Tryd.func15, Tryd.ntmps15
    go_wp2
    go_ret
    exact ⟨rfl, rfl⟩
  · by_cases h2 : 32768 < n
    · rw [fsize_out (.inr h2)]
      go_enter Tryd.func15, Tryd.ntmps15
      go_wp2
      go_ret
      exact ⟨rfl, rfl⟩
    · rw [fsize_in (by omega) (by omega)]
      have h3 : 1 ≤ n := by omega
      have h4 : n ≤ 32768 := by omega
      go_enter Tryd.func15, Tryd.ntmps15
      go_wp2
      go_ret
      exact ⟨rfl, rfl⟩

theorem run_headB (n : Nat) (hn : n ≤ 32768) (W : World) (b : Nat) (h0 : W.cell? ⟨b, 0, none⟩ = some (.int .u8 165)) (h1 : W.cell? ⟨b, 1, none⟩ = some (.int .u8 ((n : Int) % 256))) (h2 : W.cell? ⟨b, 2, none⟩ = some (.int .u8 ((n : Int) / 256))) :
    (convert 25 9 (.slice (some ⟨b, 0, none⟩) 3 3)).run Tryd.prog W = .ok (.string (headB n)) W := by
  refine run_toString Tryd.underlying25 Tryd.underlying5 Tryd.underlying9 (headB_size n).symm ?_ (by rintro ad ⟨⟩; rfl)
  intro j v hj
  rw [strCells_headB n hn] at hj
  refine ⟨_, rfl, ?_⟩
  rw [Addr.add_lit, Nat.zero_add]
  match j, hj with
  | 0, hj => simp at hj; subst hj; exact h0
  | 1, hj => simp at hj; subst hj; exact h1
  | 2, hj => simp at hj; subst hj; exact h2
theorem run_endB (W : World) (b : Nat) (h0 : W.cell? ⟨b, 0, none⟩ = some (.int .u8 90)) : (convert 25 9 (.slice (some ⟨b, 0, none⟩) 1 1)).run Tryd.prog W = .ok (.string endB) W := by
  refine run_toString Tryd.underlying25 Tryd.underlying5 Tryd.underlying9 endB_size.symm ?_ (by rintro ad ⟨⟩; rfl)
  intro j v hj
  refine ⟨_, rfl, ?_⟩
  match j, hj with
  | 0, hj => simp [Lib.strCells, endB] at hj; subst hj; rw [Addr.add_zero']; exact h0

set_option maxHeartbeats 1000000 in
set_option maxRecDepth 100000 in
theorem RWrap_calls (w : World) (s : ByteArray) (hs : s.size ≤ 140737488351232) :
    Calls Tryd.prog 24 #[.string s] w fun e w' => e = .returned (.string (wrapB s)) ∧ Fr [] w w' := by
  by_cases hin : 1 ≤ s.size ∧ s.size ≤ 32768
  · obtain ⟨h1, h2⟩ := hin
    have HW : Hid (wrapB s = headB s.size ++ bytes4 (crcSum s) ++ s ++ endB) := Lib.hid (by rw [wrapB_in h1 h2, ← bapp_assoc])
    generalize wrapB s = res at HW ⊢
    have HZ := Lib.hid (fsize_in (n := s.size) (by omega) (by omega))
    have hT : (sealB s).extract s.size (s.size + 4) = bytes4 (crcSum s) := by rw [← sealB_size]; exact sealB_tail s
    have hzl := sealB_size s
    have hb4 := bytes4_size (crcSum s)
    have hh := headB_size s.size
    have he := endB_size
    have hcvH := run_headB s.size h2
    have hcvE := run_endB
    have g1 : (9223372036854775807 < 3 + 4 + s.size) = False := eq_false (by omega)
    have g2 : (9223372036854775807 < 7 + s.size) = False := eq_false (by omega)
    have g3 : (9223372036854775807 < 3 + 4 + s.size + 1) = False := eq_false (by omega)
    have g4 : (9223372036854775807 < 7 + s.size + 1) = False := eq_false (by omega)
    generalize crcSum s = x at *
    generalize hhe : headB s.size = hd at *
    generalize hen : endB = en at *
    generalize bytes4 x = y at *
    clear hhe hen
    have HCH := Lib.hid hcvH
    have HCE := Lib.hid hcvE
    clear hcvH hcvE
    go_enter Tryd.func24, Tryd.ntmps24
    go_wp2_with fail
    (with_reducible refine (RSize_calls _ _ (Bd.of_i64 (by omega) (by omega))).mono ?_)
    rintro e w1 ⟨rfl, rfl⟩
    rw [HZ.out]
    go_wp2_with fail
    (with_reducible refine (RSeal_calls _ s hs).mono ?_)
    rintro e w1 ⟨rfl, hf1⟩
    have hcvH := HCH.out
    have hcvE := HCE.out
    clear HCH HCE
    go_wp2_with fail
    go_region
    all_goals
      go_wp2_with fail
      go_ret
      exact ⟨by rw [HW.out]; rfl, ((hf1.alloc _).alloc _).drew⟩
  · have e : wrapB s = ⟨#[]⟩ := wrapB_out (by omega)
    have HZ := Lib.hid (fsize_out (n := s.size) (by omega))
    rw [e]
    clear e hin
    go_enter Tryd.func24, Tryd.ntmps24
    go_wp2_with fail
    (with_reducible refine (RSize_calls _ _ (Bd.of_i64 (by omega) (by omega))).mono ?_)
    rintro e w1 ⟨rfl, rfl⟩
    rw [HZ.out]
    go_wp2_with fail
    go_ret
    exact ⟨rfl, Fr.refl _ _⟩

end Go.Proofs.YtjlhbmgbiobpaaaDoor
