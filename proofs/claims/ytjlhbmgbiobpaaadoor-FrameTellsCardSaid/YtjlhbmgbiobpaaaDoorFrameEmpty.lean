/- The contract of frame.Empty (strings.Trim of bytes 0). -/
import Derived.Test.YtjlhbmgbiobpaaaDoorProg
import Derived.Test.YtjlhbmgbiobpaaaDoorFramePure
import Derived.Deep.QuietTactic
import Derived.BigQuiet
import Derived.Deep.RegionWith
namespace Go.Proofs.YtjlhbmgbiobpaaaDoor
open Go.RowKit
set_option linter.unusedVariables false
set_option linter.unusedSimpArgs false

def zeroB (s : ByteArray) : Bool := s.data.toList.all (· == 0)
theorem zeroB_nil : zeroB ⟨#[]⟩ = true := rfl
theorem zeroB_last {t : ByteArray} {n : Nat} (hn : t.size = n + 1) (h : t[n] = 0) : zeroB (t.extract 0 n) = zeroB t := by
  have hl : t.data.toList.length = n + 1 := by rw [Array.length_toList]; exact hn
  have e : t.data.toList = t.data.toList.take n ++ [0] := by
    conv => lhs; rw [← List.take_of_length_le (Nat.le_of_eq hl), List.take_succ_eq_append_getElem (by omega)]
    congr 2
  unfold zeroB
  simp only [ByteArray.data_extract, Array.toList_extract, List.extract_eq_take_drop, List.drop_zero, Nat.sub_zero]
  conv => rhs; rw [e]
  rw [List.all_append]
  simp
theorem zeroB_first {t : ByteArray} (hn : 0 < t.size) (h : t[0] = 0) : zeroB (t.extract 1 t.size) = zeroB t := by
  have hl : t.data.toList.length = t.size := by rw [Array.length_toList]; rfl
  have e : t.data.toList = 0 :: t.data.toList.drop 1 := by
    conv => lhs; rw [← List.drop_zero (l := t.data.toList), List.drop_eq_getElem_cons (by omega)]
    congr 1
  unfold zeroB
  simp only [ByteArray.data_extract, Array.toList_extract, List.extract_eq_take_drop]
  rw [List.take_of_length_le (by rw [List.length_drop]; omega)]
  conv => rhs; rw [e]
  rw [List.all_cons]
  simp
theorem zeroB_not {t : ByteArray} {i : Nat} (hi : i < t.size) (h : t[i] ≠ 0) : zeroB t = false := by
  unfold zeroB
  rw [List.all_eq_false]
  refine ⟨t.data.toList[i]'(by rw [Array.length_toList]; exact hi), List.getElem_mem _, ?_⟩
  intro hz
  exact h (beq_iff_eq.1 hz)
theorem byte0 {c : UInt8} (h : c = 0) : ((c.toNat : Int) == 0) = true := by subst h; rfl
theorem byte0_ne {c : UInt8} (h : c ≠ 0) : ((c.toNat : Int) == 0) = false := by
  rw [beq_eq_false_iff_ne]
  intro e
  exact h (UInt8.toNat_inj.1 (by have : c.toNat = 0 := by omega
                                 rw [this]; rfl))
/-- t is empty just if s is all zeros. -/
def EmIs (t s : ByteArray) : Prop := decide (t.size = 0) = zeroB s
def strLen : Value → Nat
  | .string t => t.size
  | _ => 0

set_option maxHeartbeats 400000 in
set_option maxRecDepth 100000 in
theorem trimRight_calls (w : World) (s : ByteArray) (hs : s.size ≤ 9223372036854775806) :
    Calls Tryd.prog 35 #[.string s, .int .u8 0] w fun e w' => (∃ t, e = .returned (.string t) ∧ zeroB t = zeroB s ∧ t.size ≤ s.size) ∧ w = w' := by
  go_enter Tryd.func35, Tryd.ntmps35
  go_wp2_with fail
  go_loop [0] (fun v0 => ∃ t, v0 = .string t ∧ Hid (zeroB t = zeroB s) ∧ t.size ≤ s.size) (fun v0 => strLen v0)
  case atStart => exact ⟨s, rfl, rfl, Nat.le_refl _⟩
  case round =>
    obtain ⟨t, rfl, H, hle⟩ := hrel
    by_cases h0 : 0 < t.size
    · obtain ⟨n, hn⟩ : ∃ n, t.size = n + 1 := ⟨t.size - 1, by omega⟩
      have hi : (t.size : Int) - 1 = (n : Int) := by omega
      have hnl : n < t.size := by omega
      by_cases hz : t[n] = 0
      · have h1 := byte0 hz
        have HZ := Lib.hid (zeroB_last hn hz)
        have hsz : (t.extract 0 n).size = n := by rw [ByteArray.size_extract]; omega
        have HS := Lib.hid hsz
        have HN := Lib.hid hn
        clear hz hsz hn
        go_wp2_with fail
        refine ⟨⟨_, rfl, Lib.hid (HZ.out.trans H.out), by rw [HS.out]; omega⟩, by simp only [strLen]; rw [HS.out]; omega⟩
      · have h1 := byte0_ne hz
        clear hz hn
        go_wp2_with fail
        go_ret
        exact ⟨⟨t, rfl, H.out, hle⟩, rfl⟩
    · go_wp2_with fail
      go_ret
      exact ⟨⟨t, rfl, H.out, hle⟩, rfl⟩

set_option maxHeartbeats 400000 in
set_option maxRecDepth 100000 in
theorem trimLeft_calls (w : World) (s : ByteArray) (hs : s.size ≤ 9223372036854775806) :
    Calls Tryd.prog 34 #[.string s, .int .u8 0] w fun e w' => (∃ t, e = .returned (.string t) ∧ EmIs t s) ∧ w = w' := by
  go_enter Tryd.func34, Tryd.ntmps34
  go_wp2_with fail
  go_loop [0] (fun v0 => ∃ t, v0 = .string t ∧ Hid (zeroB t = zeroB s) ∧ t.size ≤ s.size) (fun v0 => strLen v0)
  case atStart => exact ⟨s, rfl, rfl, Nat.le_refl _⟩
  case round =>
    obtain ⟨t, rfl, H, hle⟩ := hrel
    by_cases h0 : 0 < t.size
    · by_cases hz : t[0] = 0
      · have h1 := byte0 hz
        have HZ := Lib.hid (zeroB_first h0 hz)
        have HS := Lib.hid (show (t.extract 1 t.size).size = t.size - 1 from by rw [ByteArray.size_extract]; omega)
        clear hz
        go_wp2_with fail
        refine ⟨⟨_, rfl, Lib.hid (HZ.out.trans H.out), by rw [HS.out]; omega⟩, by simp only [strLen]; rw [HS.out]; omega⟩
      · have h1 := byte0_ne hz
        have HZ := Lib.hid (zeroB_not h0 hz)
        clear hz
        go_wp2_with fail
        go_ret
        exact ⟨⟨t, rfl, by unfold EmIs; rw [← H.out, HZ.out]; exact decide_eq_false (Nat.ne_of_gt h0)⟩, rfl⟩
    · go_wp2_with fail
      go_ret
      refine ⟨⟨t, rfl, ?_⟩, rfl⟩
      have ht : t = ⟨#[]⟩ := ByteArray.ext (Array.eq_empty_of_size_eq_zero (by show t.size = 0; omega))
      unfold EmIs
      rw [← H.out, ht, zeroB_nil]
      rfl

theorem str_empty {t : ByteArray} (h : t.size = 0) : t = ⟨#[]⟩ := ByteArray.ext (Array.eq_empty_of_size_eq_zero h)
theorem str_ne {t : ByteArray} (h : t.size ≠ 0) : t.toList.isEmpty = false ∧ ¬ t.toList = [] := by
  have hne : t.toList.isEmpty = false := by
    rw [Lib.toList_data]
    cases hq : t.data.toList with
    | nil => exact absurd (by rw [← Array.length_toList, hq]; rfl : t.data.size = 0) h
    | cons a l => rfl
  exact ⟨hne, fun e => by rw [e] at hne; cases hne⟩

set_option maxHeartbeats 400000 in
set_option maxRecDepth 100000 in
theorem Trim_calls (w : World) (s : ByteArray) (hs : s.size ≤ 9223372036854775806) :
    Calls Tryd.prog 23 #[.string s, .string ⟨#[0]⟩] w fun e w' => (∃ t, e = .returned (.string t) ∧ EmIs t s) ∧ Fr [] w w' := by
  by_cases h0 : s.size = 0
  · obtain rfl := str_empty h0
    clear h0
    go_enter Tryd.func23, Tryd.ntmps23
    go_wp2_with fail
    go_ret
    exact ⟨⟨_, rfl, by unfold EmIs; rw [zeroB_nil]; rfl⟩, Fr.refl _ _⟩
  · obtain ⟨h1, h2⟩ := str_ne h0
    clear h0
    have hx : ((⟨#[0]⟩ : ByteArray)[0]).toNat = 0 := rfl
    go_enter Tryd.func23, Tryd.ntmps23
    go_wp2_with fail
    go_region_with (first
      | (go_at_call 35; (with_reducible refine (trimRight_calls _ s hs).mono ?_); rintro e w1 ⟨⟨t, rfl, hz, hle⟩, rfl⟩)
      | (go_at_call 34; (with_reducible refine (trimLeft_calls _ t (Nat.le_trans hle hs)).mono ?_); rintro e w2 ⟨⟨t2, rfl, hz2⟩, rfl⟩))
    all_goals
      go_wp2_with fail
      go_ret
      exact ⟨⟨t2, rfl, (show EmIs t2 t from hz2).trans hz⟩, (Fr.refl _ _).drew⟩

theorem extract_all (t : ByteArray) : t.extract 0 t.size = t := by
  apply ByteArray.ext
  apply Array.toList_inj.1
  have hl : t.data.toList.length = t.size := by rw [Array.length_toList]; rfl
  simp only [ByteArray.data_extract, Array.toList_extract, List.extract_eq_take_drop, List.drop_zero, Nat.sub_zero]
  exact List.take_of_length_le (by omega)
/-- A place, cut to a text's length. -/
def clampN (at' : Int) (n : Nat) : Nat := min at'.toNat n

set_option maxHeartbeats 400000 in
set_option maxRecDepth 100000 in
theorem Empty_calls (w : World) (s : ByteArray) (hs : s.size ≤ 9223372036854775806) (at' : Int) (hat : Bd .i64 at') :
    Calls Tryd.prog 10 #[.string s, .int .i64 at'] w fun e w' => e = .returned (.bool (zeroB (s.extract (clampN at' s.size) s.size))) ∧ Fr [] w w' := by
  obtain ⟨k, hk⟩ : ∃ k, k = clampN at' s.size := ⟨_, rfl⟩
  rw [← hk]
  have hks : k ≤ s.size := by rw [hk]; unfold clampN; omega
  have hsz : (s.extract k s.size).size = s.size - k := by rw [ByteArray.size_extract]; omega
  have HSZ : Hid ((s.extract k s.size).size ≤ 9223372036854775806) := Lib.hid (by omega)
  clear hsz
  have hb := hat.i64
  have hfin : ∀ W, Calls Tryd.prog 23 #[.string (s.extract k s.size), .string ⟨#[0]⟩] W fun e w' => (∃ t, e = .returned (.string t) ∧ ((t.size = 0 ∧ t = ⟨#[]⟩ ∧ zeroB (s.extract k s.size) = true) ∨ (t.toList.isEmpty = false ∧ ¬ t.toList = [] ∧ zeroB (s.extract k s.size) = false))) ∧ Fr [] W w' := fun W => by
    refine (Trim_calls W _ HSZ.out).mono ?_
    rintro e w' ⟨⟨t, rfl, h⟩, hf⟩
    unfold EmIs at h
    refine ⟨⟨t, rfl, ?_⟩, hf⟩
    by_cases h0 : t.size = 0
    · exact .inl ⟨h0, str_empty h0, by rw [← h]; exact decide_eq_true h0⟩
    · exact .inr ⟨(str_ne h0).1, (str_ne h0).2, by rw [← h]; exact decide_eq_false h0⟩
  have HF := Lib.hid hfin
  clear hfin HSZ hat
  generalize hz : zeroB (s.extract k s.size) = z at HF ⊢
  have HZ := Lib.hid hz
  clear hz
  have hcase : (at' < 0 ∧ k = 0) ∨ (0 ≤ at' ∧ at' ≤ s.size ∧ at' = (k : Int)) ∨ (0 ≤ at' ∧ (s.size : Int) < at' ∧ k = s.size) := by
    rw [hk]; unfold clampN; omega
  clear hk
  rcases hcase with ⟨h1, rfl⟩ | ⟨h1, h2, rfl⟩ | ⟨h1, h2, rfl⟩
  · rw [extract_all s] at HF
    go_enter Tryd.func10, Tryd.ntmps10
    go_wp2_with fail
    (with_reducible refine (HF.out _).mono ?_)
    rintro e w1 ⟨⟨t, rfl, ⟨_, rfl, rfl⟩ | ⟨h3, h4, rfl⟩⟩, hf⟩
    · go_wp2_with fail
      go_ret
      exact ⟨rfl, hf⟩
    · go_wp2_with fail
      go_ret
      exact ⟨rfl, hf⟩
  · go_enter Tryd.func10, Tryd.ntmps10
    go_wp2_with fail
    (with_reducible refine (HF.out _).mono ?_)
    rintro e w1 ⟨⟨t, rfl, ⟨_, rfl, rfl⟩ | ⟨h3, h4, rfl⟩⟩, hf⟩
    · go_wp2_with fail
      go_ret
      exact ⟨rfl, hf⟩
    · go_wp2_with fail
      go_ret
      exact ⟨rfl, hf⟩
  · rw [show s.extract s.size s.size = ByteArray.empty from str_empty (by rw [ByteArray.size_extract]; omega)] at HF
    go_enter Tryd.func10, Tryd.ntmps10
    go_wp2_with fail
    (with_reducible refine (HF.out _).mono ?_)
    rintro e w1 ⟨⟨t, rfl, ⟨_, rfl, rfl⟩ | ⟨h3, h4, rfl⟩⟩, hf⟩
    · go_wp2_with fail
      go_ret
      exact ⟨rfl, hf⟩
    · go_wp2_with fail
      go_ret
      exact ⟨rfl, hf⟩

end Go.Proofs.YtjlhbmgbiobpaaaDoor
