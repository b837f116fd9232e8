/- AddressSplits: the walk. -/
import Derived.Test.YtfaopjoglgmoiaaDoorRAddr5
import Derived.Test.YtfaopjoglgmoiaaDoorAddressOnce
namespace Go.Proofs.YtfaopjoglgmoiaaDoor
open Go.RowKit Go.Lib
set_option linter.unusedVariables false
set_option linter.unusedSimpArgs false

theorem name_kind {a : List UInt8} (h : nameL a = true) : kindL a = 0 := by
  have hc := name_chars h
  have h1 : mailL a = false := by
    unfold mailL
    rw [cutL_not (fun hm => absurd (hc 64 hm) (by decide))]
  have h2 : phoneL a = false := by
    cases hp : phoneL a with
    | false => rfl
    | true =>
      unfold phoneL at hp
      simp only [Bool.and_eq_true, beq_iff_eq] at hp
      have hm : (43 : UInt8) ∈ a := List.mem_of_getElem? hp.2.2.1
      exact absurd (hc 43 hm) (by decide)
  unfold kindL
  rw [h1, h2]
  rfl
theorem host_kind {b : List UInt8} (h : hostL b = true) (hl : b.length ≤ 38) : kindL (122 :: 64 :: b) = 1 := by
  rw [kind_one]
  unfold mailL
  have hc : cutL 64 (122 :: 64 :: b) = some ([122], b) := cutL_app (a := [122]) b (by decide)
  rw [hc]
  have hn : nameL [122] = true := by decide
  simp only [hn, h, List.length_cons, Bool.and_true]
  exact decide_eq_true (by omega)

set_option maxHeartbeats 2000000 in
set_option maxRecDepth 100000 in
theorem splits_calls (w : World) (hM : ML w) (s : ByteArray) (hs : s.size ≤ 1000) :
    Calls Tryd.prog 13 #[.string s] w fun e w' => e = .returned (.bool true) ∧ Fr [] w w' := by
  by_cases h1 : mailL s.data.toList = true
  · obtain ⟨a, b, hab, e, h40, hna, hho⟩ := mail_parts h1
    have hkd : kindL s.data.toList = 1 := (kind_one _).2 h1
    have hsp := Split_calls w hM s (by omega) (x := bL a) (y := bL b) (ok := true) (by
      rw [if_pos h1]
      unfold cutS
      rw [hab])
    have hes : s = bL a ++ ⟨#[64]⟩ ++ bL b := by
      rw [bL_of e]
      apply ByteArray.ext
      simp [bL]
    have hr := fun W => RKind_calls W s (by omega)
    rw [hkd] at hr
    have hl := len_size s
    rw [e] at hl
    simp only [List.length_append, List.length_cons] at hl
    rw [e] at h40
    simp only [List.length_append, List.length_cons] at h40
    have ha0 : a ≠ [] := fun e => by rw [e] at hna; cases hna
    have ha1 : 1 ≤ a.length := by
      cases a with
      | nil => exact absurd rfl ha0
      | cons x a => simp
    have hka := fun W h => Kind_calls W h (bL a) (by rw [bL_size]; omega)
    rw [bL_data, name_kind hna] at hka
    have hkz := fun W => RKind_calls W (⟨#[122, 64]⟩ ++ bL b) (by rw [ByteArray.size_append, bL_size]; show 2 + b.length ≤ _; omega)
    have hez : ((⟨#[122, 64]⟩ ++ bL b : ByteArray)).data.toList = 122 :: 64 :: b := by simp [bL]
    rw [hez, host_kind hho (by omega)] at hkz
    obtain ⟨hx3, hx4⟩ := str_neA (t := bL a) (by rw [bL_size]; omega)
    have za := bL_size a
    have zb := bL_size b
    generalize bL a = X at *
    generalize bL b = Y at *
    have g1 : (9223372036854775807 < X.size + 1) = False := eq_false (by omega)
    have g2 : (9223372036854775807 < X.size + 1 + Y.size) = False := eq_false (by omega)
    have g3 : (9223372036854775807 < 2 + Y.size) = False := eq_false (by omega)
    rw [hes] at hsp hr ⊢
    have HS := Lib.hid hsp
    have HR := Lib.hid hr
    have HA := Lib.hid hka
    have HZ := Lib.hid hkz
    have HM := Lib.hid hM
    clear hsp hr hka hkz hM hes e hl h40 hab hna hho h1 hkd hez ha0 ha1 za zb hs
    go_enter Tryd.func13, Tryd.ntmps13
    go_wp2_with fail
    (with_reducible refine HS.out.mono ?_)
    rintro e w1 ⟨rfl, hf1⟩
    have HF1 := Lib.hid hf1
    clear hf1
    go_wp2_with fail
    (with_reducible refine (HR.out _).mono ?_)
    rintro e w2 ⟨rfl, hw⟩
    rw [hw]
    clear hw w2
    go_wp2_with fail
    (with_reducible refine (HA.out _ (HM.out.keep HF1.out)).mono ?_)
    rintro e w2 ⟨rfl, hf2⟩
    have HF2 := Lib.hid (HF1.out.then hf2)
    clear hf2
    go_wp2_with fail
    (with_reducible refine (HZ.out _).mono ?_)
    rintro e w3 ⟨rfl, hw⟩
    rw [hw]
    clear hw w3
    go_wp2_with fail
    go_ret
    exact ⟨rfl, HF2.out⟩
  · have hsp := Split_calls w hM s (by omega) (x := ⟨#[]⟩) (y := ⟨#[]⟩) (ok := false) (by rw [if_neg h1])
    have hr := fun W => RKind_calls W s (by omega)
    have hk1 : kindL s.data.toList ≠ 1 := fun e => h1 ((kind_one _).1 e)
    generalize kindL s.data.toList = k at *
    have hk2 : ((k : Int) != 1) = true := bne_iff_ne.2 (by omega)
    have hk3 : ((k : Int) == 1) = false := beq_eq_false_iff_ne.2 (by omega)
    have HS := Lib.hid hsp
    have HR := Lib.hid hr
    clear hsp hr h1 hk1
    go_enter Tryd.func13, Tryd.ntmps13
    go_wp2_with fail
    (with_reducible refine HS.out.mono ?_)
    rintro e w1 ⟨rfl, hf1⟩
    have HF1 := Lib.hid hf1
    clear hf1
    go_wp2_with fail
    (with_reducible refine (HR.out _).mono ?_)
    rintro e w2 ⟨rfl, hw⟩
    rw [hw]
    clear hw w2
    go_wp2_with fail
    go_ret
    exact ⟨rfl, HF1.out⟩

set_option maxHeartbeats 2000000 in
set_option maxRecDepth 100000 in
theorem AddressSplits_walk (w : World) (hM : ML w) (s0 : ByteArray) (hs0 : s0.size ≤ 140737488351232) (A : Option Addr) (cap : Nat) (l : List Int) (hr : RdV w A (l.map (.int .i64))) (hb : ∀ x, x ∈ l → Bd .i64 x) (hl : l.length ≤ maxLen) :
    Calls Tryd.prog 5 #[.string s0, .slice A l.length cap] w fun e w' => e = .returned (.bool true) ∧ Fr [] w w' := by
  have hsh := fun W => short09_calls s0 60 60 rfl W (by omega) (by decide)
  have h60 := shortB_size s0 60
  generalize shortB s0 60 = s at *
  have hmf : ∀ W, Fr [] w W → Calls Tryd.prog 11 #[.slice A l.length cap, .bool false] W fun e w' => e = .returned (.string (madeA l false)) ∧ w' = W := fun W hf => made_calls W A cap l (hr.keep hf (by simp)) hb hl false
  have zf := madeA_size l false
  generalize madeA l false = a at *
  have ho : ∀ W, Fr [] w W → ∀ x : ByteArray, x.size ≤ 1000 → Calls Tryd.prog 13 #[.string x] W fun e w' => e = .returned (.bool true) ∧ Fr [] W w' := fun W hf x hx => splits_calls W (hM.keep hf) x hx
  have haw := awake09_calls w hM
  have g0 : (9223372036854775807 < 1 + a.size) = False := eq_false (by omega)
  have g1 : (9223372036854775807 < 2 + a.size) = False := eq_false (by omega)
  have g2 : (9223372036854775807 < 1 + a.size + 9) = False := eq_false (by omega)
  have z1 : (⟨#[97, 64]⟩ ++ a : ByteArray).size ≤ 1000 := by rw [ByteArray.size_append]; show 2 + a.size ≤ _; omega
  have z2 : (⟨#[120]⟩ ++ a ++ ⟨#[64, 104, 111, 115, 116, 46, 111, 114, 103]⟩ : ByteArray).size ≤ 1000 := by rw [ByteArray.size_append, ByteArray.size_append]; show 1 + a.size + 9 ≤ _; omega
  have HSH := Lib.hid hsh
  have HMF := Lib.hid hmf
  have HO := Lib.hid ho
  clear hsh hmf ho hr hb hl hM hs0
  go_enter Tryd.func5, Tryd.ntmps5
  go_wp2_with fail
  (with_reducible refine haw.mono ?_)
  rintro e w1 ⟨rfl, hf1⟩
  have HF := Lib.hid hf1
  clear hf1 haw
  go_wp2_with fail
  (with_reducible refine (HSH.out _).mono ?_)
  rintro e w2 ⟨rfl, hw⟩
  rw [← hw]
  clear hw w2
  go_wp2_with fail
  (with_reducible refine (HO.out _ HF.out s (by omega)).mono ?_)
  rintro e w2 ⟨rfl, hf2⟩
  have HF2 := Lib.hid (HF.out.then hf2)
  clear hf2 HF
  go_wp2_with fail
  (with_reducible refine (HMF.out _ HF2.out).mono ?_)
  rintro e w3 ⟨rfl, hw⟩
  rw [hw]
  clear hw w3
  go_wp2_with fail
  (with_reducible refine (HO.out _ HF2.out _ z2).mono ?_)
  rintro e w3 ⟨rfl, hf3⟩
  have HF3 := Lib.hid (HF2.out.then hf3)
  clear hf3 HF2
  go_wp2_with fail
  (with_reducible refine (HMF.out _ HF3.out).mono ?_)
  rintro e w5 ⟨rfl, hw⟩
  rw [hw]
  clear hw w5
  go_wp2_with fail
  (with_reducible refine (HO.out _ HF3.out _ z1).mono ?_)
  rintro e w5 ⟨rfl, hf5⟩
  have HF5 := Lib.hid (HF3.out.then hf5)
  clear hf5 HF3
  go_wp2_with fail
  go_ret
  exact ⟨rfl, HF5.out⟩
end Go.Proofs.YtfaopjoglgmoiaaDoor
