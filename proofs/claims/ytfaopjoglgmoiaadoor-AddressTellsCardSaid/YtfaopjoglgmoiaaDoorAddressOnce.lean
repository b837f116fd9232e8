/- The law AddressOnce: for any text and numbers the Go function returns true (its walk). -/
import Derived.Test.YtfaopjoglgmoiaaDoorAddrQ
import Derived.Test.YtfaopjoglgmoiaaDoorAddr6
import Derived.Test.YtfaopjoglgmoiaaDoorShort09
namespace Go.Proofs.YtfaopjoglgmoiaaDoor
open Go.RowKit Go.Lib
set_option linter.unusedVariables false
set_option linter.unusedSimpArgs false

set_option maxHeartbeats 2000000 in
set_option maxRecDepth 100000 in
theorem once_calls (w : World) (hM : ML w) (s : ByteArray) (hs : s.size ≤ 1000) :
    Calls Tryd.prog 9 #[.string s] w fun e w' => e = .returned (.bool true) ∧ Fr [] w w' := by
  have hm := fun W h => Mail_calls W h s (by omega)
  have hp := fun W h => Phone_calls W h s (by omega)
  generalize s.data.toList = l at hm hp
  have HM := Lib.hid hM
  by_cases h1 : mailL (mailOf l) = true
  · have e1 : mailS l = (bL (mailOf l), true) := by unfold mailS mailR; rw [if_pos h1]
    have e2 : phoneS l = (⟨#[]⟩, false) := by unfold phoneS phoneR; rw [not_both h1]; rfl
    have hz := mail_short h1
    have hm2 := fun W h => Mail_calls W h (bL (mailOf l)) (by rw [bL_size]; omega)
    have hk := fun W h => Kind_calls W h (bL (mailOf l)) (by rw [bL_size]; omega)
    have e3 : mailS (mailOf l) = (bL (mailOf l), true) := by unfold mailS mailR; rw [mailOf_id h1, if_pos h1]
    rw [bL_data] at hm2 hk
    rw [e1] at hm
    rw [e2] at hp
    rw [e3] at hm2
    rw [(kind_one _).2 h1] at hk
    have hz2 : (bL (mailOf l)).size ≤ 40 := by rw [bL_size]; exact hz
    simp only at hm hp hm2
    clear e1 e2 e3 h1 hz hM
    generalize bL (mailOf l) = a at *
    have hz3 : (a.size : Int) ≤ 40 := by omega
    have H1 := Lib.hid hm
    have H2 := Lib.hid hp
    have H3 := Lib.hid hm2
    have H4 := Lib.hid hk
    clear hm hp hm2 hk
    go_enter Tryd.func9, Tryd.ntmps9
    go_wp2_with fail
    (with_reducible refine (H1.out _ HM.out).mono ?_)
    rintro e w1 ⟨rfl, hf1⟩
    have HF1 := Lib.hid hf1
    clear hf1
    go_wp2_with fail
    (with_reducible refine (H2.out _ (HM.out.keep HF1.out)).mono ?_)
    rintro e w2 ⟨rfl, hf2⟩
    have HF2 := Lib.hid (HF1.out.then hf2)
    clear hf2
    go_wp2_with fail
    (with_reducible refine (H3.out _ (HM.out.keep HF2.out)).mono ?_)
    rintro e w3 ⟨rfl, hf3⟩
    have HF3 := Lib.hid (HF2.out.then hf3)
    clear hf3
    go_wp2_with fail
    (with_reducible refine (H4.out _ (HM.out.keep HF3.out)).mono ?_)
    rintro e w4 ⟨rfl, hf4⟩
    have HF4 := Lib.hid (HF3.out.then hf4)
    clear hf4
    go_wp2_with fail
    go_ret
    exact ⟨rfl, HF4.out⟩
  · have e1 : mailS l = (⟨#[]⟩, false) := by unfold mailS mailR; rw [if_neg h1]; rfl
    rw [e1] at hm
    simp only at hm
    clear e1 h1 hM
    have H1 := Lib.hid hm
    clear hm
    by_cases h2 : phoneL (phoneOf l) = true
    · have e2 : phoneS l = (bL (phoneOf l), true) := by unfold phoneS phoneR; rw [if_pos h2]
      have hz := phone_short h2
      have hm2 := fun W h => Phone_calls W h (bL (phoneOf l)) (by rw [bL_size]; omega)
      have hk := fun W h => Kind_calls W h (bL (phoneOf l)) (by rw [bL_size]; omega)
      have e3 : phoneS (phoneOf l) = (bL (phoneOf l), true) := by unfold phoneS phoneR; rw [phoneOf_id h2, if_pos h2]
      rw [bL_data] at hm2 hk
      rw [e2] at hp
      rw [e3] at hm2
      rw [(kind_two _).2 h2] at hk
      have hz2 : (bL (phoneOf l)).size ≤ 16 := by rw [bL_size]; exact hz
      simp only at hp hm2
      clear e2 e3 h2 hz
      generalize bL (phoneOf l) = a at *
      have hz3 : (a.size : Int) ≤ 16 := by omega
      have H2 := Lib.hid hp
      have H3 := Lib.hid hm2
      have H4 := Lib.hid hk
      clear hp hm2 hk
      go_enter Tryd.func9, Tryd.ntmps9
      go_wp2_with fail
      (with_reducible refine (H1.out _ HM.out).mono ?_)
      rintro e w1 ⟨rfl, hf1⟩
      have HF1 := Lib.hid hf1
      clear hf1
      go_wp2_with fail
      (with_reducible refine (H2.out _ (HM.out.keep HF1.out)).mono ?_)
      rintro e w2 ⟨rfl, hf2⟩
      have HF2 := Lib.hid (HF1.out.then hf2)
      clear hf2
      go_wp2_with fail
      (with_reducible refine (H3.out _ (HM.out.keep HF2.out)).mono ?_)
      rintro e w3 ⟨rfl, hf3⟩
      have HF3 := Lib.hid (HF2.out.then hf3)
      clear hf3
      go_wp2_with fail
      (with_reducible refine (H4.out _ (HM.out.keep HF3.out)).mono ?_)
      rintro e w4 ⟨rfl, hf4⟩
      have HF4 := Lib.hid (HF3.out.then hf4)
      clear hf4
      go_wp2_with fail
      go_ret
      exact ⟨rfl, HF4.out⟩
    · have e2 : phoneS l = (⟨#[]⟩, false) := by unfold phoneS phoneR; rw [if_neg h2]; rfl
      rw [e2] at hp
      simp only at hp
      clear e2 h2
      have H2 := Lib.hid hp
      clear hp
      go_enter Tryd.func9, Tryd.ntmps9
      go_wp2_with fail
      (with_reducible refine (H1.out _ HM.out).mono ?_)
      rintro e w1 ⟨rfl, hf1⟩
      have HF1 := Lib.hid hf1
      clear hf1
      go_wp2_with fail
      (with_reducible refine (H2.out _ (HM.out.keep HF1.out)).mono ?_)
      rintro e w2 ⟨rfl, hf2⟩
      have HF2 := Lib.hid (HF1.out.then hf2)
      clear hf2
      go_wp2_with fail
      go_ret
      exact ⟨rfl, HF2.out⟩

set_option maxHeartbeats 2000000 in
set_option maxRecDepth 100000 in
theorem AddressOnce_walk (w : World) (hM : ML w) (s0 : ByteArray) (hs0 : s0.size ≤ 140737488351232) (A : Option Addr) (cap : Nat) (l : List Int) (hr : RdV w A (l.map (.int .i64))) (hb : ∀ x, x ∈ l → Bd .i64 x) (hl : l.length ≤ maxLen) :
    Calls Tryd.prog 3 #[.string s0, .slice A l.length cap] w fun e w' => e = .returned (.bool true) ∧ Fr [] w w' := by
  have hsh := fun W => short09_calls s0 60 60 rfl W (by omega) (by decide)
  have h60 := shortB_size s0 60
  generalize shortB s0 60 = s at *
  have hmf : ∀ W, Fr [] w W → Calls Tryd.prog 11 #[.slice A l.length cap, .bool false] W fun e w' => e = .returned (.string (madeA l false)) ∧ w' = W := fun W hf => made_calls W A cap l (hr.keep hf (by simp)) hb hl false
  have hmt : ∀ W, Fr [] w W → Calls Tryd.prog 11 #[.slice A l.length cap, .bool true] W fun e w' => e = .returned (.string (madeA l true)) ∧ w' = W := fun W hf => made_calls W A cap l (hr.keep hf (by simp)) hb hl true
  have zf := madeA_size l false
  have zt := madeA_size l true
  generalize madeA l false = a at *
  generalize madeA l true = b at *
  have ho : ∀ W, Fr [] w W → ∀ x : ByteArray, x.size ≤ 1000 → Calls Tryd.prog 9 #[.string x] W fun e w' => e = .returned (.bool true) ∧ Fr [] W w' := fun W hf x hx => once_calls W (hM.keep hf) x hx
  have haw := awake09_calls w hM
  have g1 : (9223372036854775807 < 2 + a.size) = False := eq_false (by omega)
  have g2 : (9223372036854775807 < a.size + 5) = False := eq_false (by omega)
  have z1 : (⟨#[97, 64]⟩ ++ a : ByteArray).size ≤ 1000 := by rw [ByteArray.size_append]; show 2 + a.size ≤ _; omega
  have z2 : (a ++ ⟨#[64, 98, 46, 99, 100]⟩ : ByteArray).size ≤ 1000 := by rw [ByteArray.size_append]; show a.size + 5 ≤ _; omega
  have HSH := Lib.hid hsh
  have HMF := Lib.hid hmf
  have HMT := Lib.hid hmt
  have HO := Lib.hid ho
  clear hsh hmf hmt ho hr hb hl hM hs0
  go_enter Tryd.func3, Tryd.ntmps3
  go_wp2_with fail
  (with_reducible refine haw.mono ?_)
  rintro e w1 ⟨rfl, hf1⟩
  have HF := Lib.hid hf1
  clear hf1 haw
  go_wp2_with fail
  (with_reducible refine (HSH.out _).mono ?_)
  rintro e w2 ⟨rfl, hw⟩
  rw [← hw]
  clear hw w2
  go_wp2_with fail
  (with_reducible refine (HO.out _ HF.out s (by omega)).mono ?_)
  rintro e w2 ⟨rfl, hf2⟩
  have HF2 := Lib.hid (HF.out.then hf2)
  clear hf2 HF
  go_wp2_with fail
  (with_reducible refine (HMF.out _ HF2.out).mono ?_)
  rintro e w3 ⟨rfl, hw⟩
  rw [hw]
  clear hw w3
  go_wp2_with fail
  (with_reducible refine (HO.out _ HF2.out a (by omega)).mono ?_)
  rintro e w3 ⟨rfl, hf3⟩
  have HF3 := Lib.hid (HF2.out.then hf3)
  clear hf3 HF2
  go_wp2_with fail
  (with_reducible refine (HMT.out _ HF3.out).mono ?_)
  rintro e w4 ⟨rfl, hw⟩
  rw [hw]
  clear hw w4
  go_wp2_with fail
  (with_reducible refine (HO.out _ HF3.out b (by omega)).mono ?_)
  rintro e w4 ⟨rfl, hf4⟩
  have HF4 := Lib.hid (HF3.out.then hf4)
  clear hf4 HF3
  go_wp2_with fail
  (with_reducible refine (HMF.out _ HF4.out).mono ?_)
  rintro e w5 ⟨rfl, hw⟩
  rw [hw]
  clear hw w5
  go_wp2_with fail
  (with_reducible refine (HO.out _ HF4.out _ z1).mono ?_)
  rintro e w5 ⟨rfl, hf5⟩
  have HF5 := Lib.hid (HF4.out.then hf5)
  clear hf5 HF4
  go_wp2_with fail
  (with_reducible refine (HMF.out _ HF5.out).mono ?_)
  rintro e w6 ⟨rfl, hw⟩
  rw [hw]
  clear hw w6
  go_wp2_with fail
  (with_reducible refine (HO.out _ HF5.out _ z2).mono ?_)
  rintro e w6 ⟨rfl, hf6⟩
  have HF6 := Lib.hid (HF5.out.then hf6)
  clear hf6 HF5
  go_wp2_with fail
  go_ret
  exact ⟨rfl, HF6.out⟩
end Go.Proofs.YtfaopjoglgmoiaaDoor
