/- AddressTells: the walk (printed by wip/gentells.py). -/
import Derived.Test.YtfaopjoglgmoiaaDoorRAddr8
import Derived.Test.YtfaopjoglgmoiaaDoorAddressOnce
namespace Go.Proofs.YtfaopjoglgmoiaaDoor
open Go.RowKit Go.Lib
set_option linter.unusedVariables false
set_option linter.unusedSimpArgs false

theorem mailS_size (l : List UInt8) : (mailS l).1.size ≤ 1000 := by
  unfold mailS mailR
  split
  · rename_i h
    obtain ⟨a, b, _, _, h40, _, _⟩ := mail_parts h
    rw [bL_size]
    simp only
    omega
  · exact Nat.zero_le _
theorem phoneS_size (l : List UInt8) : (phoneS l).1.size ≤ 1000 := by
  unfold phoneS phoneR
  split
  · rename_i h
    have h16 := phone_short h
    rw [bL_size]
    simp only
    omega
  · exact Nat.zero_le _

set_option maxHeartbeats 4000000 in
set_option maxRecDepth 100000 in
theorem tells_calls (w : World) (hM : ML w) (s : ByteArray) (hs : s.size ≤ 1000) :
    Calls Tryd.prog 14 #[.string s] w fun e w' => e = .returned (.bool true) ∧ Fr [] w w' := by
  have h1 := fun W h => Mail_calls W h s (by omega)
  have h2 := fun W => RMail_calls W s (by omega)
  have h3 := fun W h => Phone_calls W h s (by omega)
  have h4 := fun W => RPhone_calls W s (by omega)
  have h5 := fun W h => Any_calls W h s (by omega)
  have h6 := fun W => RAny_calls W s (by omega)
  have h7 := fun W h => Kind_calls W h s (by omega)
  have h8 := fun W => RKind_calls W s (by omega)
  have h9 := fun W h => Mask_calls W h s (by omega)
  have h10 := fun W => RMask_calls W s (by omega)
  have za := mailS_size s.data.toList
  have zc := phoneS_size s.data.toList
  obtain ⟨a, x, e1⟩ : ∃ a b, mailS s.data.toList = (a, b) := ⟨_, _, rfl⟩
  obtain ⟨c, z, e2⟩ : ∃ a b, phoneS s.data.toList = (a, b) := ⟨_, _, rfl⟩
  obtain ⟨d, u, e3⟩ : ∃ a b, anyS s.data.toList = (a, b) := ⟨_, _, rfl⟩
  rw [e1] at h1 h2 za
  rw [e2] at h3 h4 zc
  rw [e3] at h5 h6
  simp only at h1 h2 h3 h4 h5 h6 za zc
  have h11 := fun W h => Kind_calls W h a (by omega)
  have h12 := fun W => RKind_calls W a (by omega)
  have h13 := fun W h => Mask_calls W h c (by omega)
  have h14 := fun W => RMask_calls W c (by omega)
  generalize kindL s.data.toList = k at h7 h8
  generalize bL (maskL s.data.toList) = m at h9 h10
  generalize kindL a.data.toList = k2 at h11 h12
  generalize bL (maskL c.data.toList) = m2 at h13 h14
  have HM := Lib.hid hM
  have H1 := Lib.hid h1
  have H2 := Lib.hid h2
  have H3 := Lib.hid h3
  have H4 := Lib.hid h4
  have H5 := Lib.hid h5
  have H6 := Lib.hid h6
  have H7 := Lib.hid h7
  have H8 := Lib.hid h8
  have H9 := Lib.hid h9
  have H10 := Lib.hid h10
  have H11 := Lib.hid h11
  have H12 := Lib.hid h12
  have H13 := Lib.hid h13
  have H14 := Lib.hid h14
  clear hM e1 e2 e3 za zc h1 h2 h3 h4 h5 h6 h7 h8 h9 h10 h11 h12 h13 h14
  go_enter Tryd.func14, Tryd.ntmps14
  have HF0 : Hid (Fr [] w w) := Lib.hid (Fr.refl _ _)
  go_wp2_with fail
  (with_reducible refine (H1.out _ (HM.out.keep HF0.out)).mono ?_)
  rintro e w1 ⟨rfl, hf⟩
  have HF1 := Lib.hid (HF0.out.then hf)
  clear hf HF0
  go_wp2_with fail
  (with_reducible refine (H2.out _).mono ?_)
  rintro e w2 ⟨rfl, hf⟩
  have HF2 := Lib.hid (HF1.out.then hf)
  clear hf HF1
  go_wp2_with fail
  (with_reducible refine (H3.out _ (HM.out.keep HF2.out)).mono ?_)
  rintro e w3 ⟨rfl, hf⟩
  have HF3 := Lib.hid (HF2.out.then hf)
  clear hf HF2
  go_wp2_with fail
  (with_reducible refine (H4.out _).mono ?_)
  rintro e w4 ⟨rfl, hf⟩
  have HF4 := Lib.hid (HF3.out.then hf)
  clear hf HF3
  go_wp2_with fail
  (with_reducible refine (H5.out _ (HM.out.keep HF4.out)).mono ?_)
  rintro e w5 ⟨rfl, hf⟩
  have HF5 := Lib.hid (HF4.out.then hf)
  clear hf HF4
  go_wp2_with fail
  (with_reducible refine (H6.out _).mono ?_)
  rintro e w6 ⟨rfl, hf⟩
  have HF6 := Lib.hid (HF5.out.then hf)
  clear hf HF5
  go_wp2_with fail
  (with_reducible refine (H7.out _ (HM.out.keep HF6.out)).mono ?_)
  rintro e w7 ⟨rfl, hf⟩
  have HF7 := Lib.hid (HF6.out.then hf)
  clear hf HF6
  go_wp2_with fail
  (with_reducible refine (H8.out _).mono ?_)
  rintro e w8 ⟨rfl, hw⟩
  rw [hw]
  clear hw w8
  go_wp2_with fail
  (with_reducible refine (H9.out _ (HM.out.keep HF7.out)).mono ?_)
  rintro e w9 ⟨rfl, hf⟩
  have HF8 := Lib.hid (HF7.out.then hf)
  clear hf HF7
  go_wp2_with fail
  (with_reducible refine (H10.out _).mono ?_)
  rintro e w10 ⟨rfl, hf⟩
  have HF9 := Lib.hid (HF8.out.then hf)
  clear hf HF8
  go_wp2_with fail
  (with_reducible refine (H11.out _ (HM.out.keep HF9.out)).mono ?_)
  rintro e w11 ⟨rfl, hf⟩
  have HF10 := Lib.hid (HF9.out.then hf)
  clear hf HF9
  go_wp2_with fail
  (with_reducible refine (H12.out _).mono ?_)
  rintro e w12 ⟨rfl, hw⟩
  rw [hw]
  clear hw w12
  go_wp2_with fail
  (with_reducible refine (H13.out _ (HM.out.keep HF10.out)).mono ?_)
  rintro e w13 ⟨rfl, hf⟩
  have HF11 := Lib.hid (HF10.out.then hf)
  clear hf HF10
  go_wp2_with fail
  (with_reducible refine (H14.out _).mono ?_)
  rintro e w14 ⟨rfl, hf⟩
  have HF12 := Lib.hid (HF11.out.then hf)
  clear hf HF11
  go_wp2_with fail
  go_ret
  exact ⟨rfl, HF12.out⟩

set_option maxHeartbeats 2000000 in
set_option maxRecDepth 100000 in
theorem AddressTells_walk (w : World) (hM : ML w) (s0 : ByteArray) (hs0 : s0.size ≤ 140737488351232) (A : Option Addr) (cap : Nat) (l : List Int) (hr : RdV w A (l.map (.int .i64))) (hb : ∀ x, x ∈ l → Bd .i64 x) (hl : l.length ≤ maxLen) (t0 : ByteArray) (ht0 : t0.size ≤ 140737488351232) :
    Calls Tryd.prog 6 #[.string s0, .slice A l.length cap, .string t0] w fun e w' => e = .returned (.bool true) ∧ Fr [] w w' := by
  have hsh := fun W => short09_calls s0 60 60 rfl W (by omega) (by decide)
  have h60 := shortB_size s0 60
  generalize shortB s0 60 = s at *
  have hst := fun W => short09_calls t0 10 10 rfl W (by omega) (by decide)
  have h10 := shortB_size t0 10
  generalize shortB t0 10 = t at *
  have hmf : ∀ W, Fr [] w W → Calls Tryd.prog 11 #[.slice A l.length cap, .bool false] W fun e w' => e = .returned (.string (madeA l false)) ∧ w' = W := fun W hf => made_calls W A cap l (hr.keep hf (by simp)) hb hl false
  have hmt : ∀ W, Fr [] w W → Calls Tryd.prog 11 #[.slice A l.length cap, .bool true] W fun e w' => e = .returned (.string (madeA l true)) ∧ w' = W := fun W hf => made_calls W A cap l (hr.keep hf (by simp)) hb hl true
  have zf := madeA_size l false
  have zt := madeA_size l true
  generalize madeA l false = a at *
  generalize madeA l true = b at *
  have ho : ∀ W, Fr [] w W → ∀ x : ByteArray, x.size ≤ 1000 → Calls Tryd.prog 14 #[.string x] W fun e w' => e = .returned (.bool true) ∧ Fr [] W w' := fun W hf x hx => tells_calls W (hM.keep hf) x hx
  have haw := awake09_calls w hM
  have g1 : (9223372036854775807 < a.size + 1) = False := eq_false (by omega)
  have g2 : (9223372036854775807 < a.size + 1 + t.size) = False := eq_false (by omega)
  have g3 : (9223372036854775807 < a.size + 1 + t.size + 5) = False := eq_false (by omega)
  have g4 : (9223372036854775807 < t.size + a.size) = False := eq_false (by omega)
  have g5 : (9223372036854775807 < t.size + a.size + 1) = False := eq_false (by omega)
  have g6 : (9223372036854775807 < t.size + a.size + 1 + t.size) = False := eq_false (by omega)
  have g7 : (9223372036854775807 < t.size + a.size + 1 + t.size + 7) = False := eq_false (by omega)
  have g8 : (9223372036854775807 < 1 + b.size) = False := eq_false (by omega)
  have g9 : (9223372036854775807 < 1 + b.size + t.size) = False := eq_false (by omega)
  have z1 : (a ++ ⟨#[64]⟩ ++ t ++ ⟨#[120, 46, 111, 114, 103]⟩ : ByteArray).size ≤ 1000 := by rw [ByteArray.size_append, ByteArray.size_append, ByteArray.size_append]; show a.size + 1 + t.size + 5 ≤ _; omega
  have z2 : (t ++ a ++ ⟨#[43]⟩ ++ t ++ ⟨#[64, 97, 45, 98, 46, 100, 101]⟩ : ByteArray).size ≤ 1000 := by rw [ByteArray.size_append, ByteArray.size_append, ByteArray.size_append, ByteArray.size_append]; show t.size + a.size + 1 + t.size + 7 ≤ _; omega
  have z3 : (⟨#[32]⟩ ++ b ++ t : ByteArray).size ≤ 1000 := by rw [ByteArray.size_append, ByteArray.size_append]; show 1 + b.size + t.size ≤ _; omega
  have HSH := Lib.hid hsh
  have HST := Lib.hid hst
  have HMF := Lib.hid hmf
  have HMT := Lib.hid hmt
  have HO := Lib.hid ho
  clear hsh hst hmf hmt ho hr hb hl hM hs0 ht0
  go_enter Tryd.func6, Tryd.ntmps6
  go_wp2_with fail
  (with_reducible refine haw.mono ?_)
  rintro e w1 ⟨rfl, hf1⟩
  have HF0 := Lib.hid hf1
  clear hf1 haw
  go_wp2_with fail
  (with_reducible refine (HSH.out _).mono ?_)
  rintro e w2 ⟨rfl, hw⟩
  rw [← hw]
  clear hw w2
  go_wp2_with fail
  (with_reducible refine (HST.out _).mono ?_)
  rintro e w2 ⟨rfl, hw⟩
  rw [← hw]
  clear hw w2
  go_wp2_with fail
  (with_reducible refine (HMF.out _ HF0.out).mono ?_)
  rintro e w2 ⟨rfl, hw⟩
  rw [hw]
  clear hw w2
  go_wp2_with fail
  (with_reducible refine (HMT.out _ HF0.out).mono ?_)
  rintro e w2 ⟨rfl, hw⟩
  rw [hw]
  clear hw w2
  go_wp2_with fail
  (with_reducible refine (HO.out _ HF0.out s (by omega)).mono ?_)
  rintro e w2 ⟨rfl, hf⟩
  have HF1 := Lib.hid (HF0.out.then hf)
  clear hf HF0
  go_wp2_with fail
  (with_reducible refine (HO.out _ HF1.out a (by omega)).mono ?_)
  rintro e w3 ⟨rfl, hf⟩
  have HF2 := Lib.hid (HF1.out.then hf)
  clear hf HF1
  go_wp2_with fail
  (with_reducible refine (HO.out _ HF2.out b (by omega)).mono ?_)
  rintro e w4 ⟨rfl, hf⟩
  have HF3 := Lib.hid (HF2.out.then hf)
  clear hf HF2
  go_wp2_with fail
  (with_reducible refine (HO.out _ HF3.out _ z1).mono ?_)
  rintro e w5 ⟨rfl, hf⟩
  have HF4 := Lib.hid (HF3.out.then hf)
  clear hf HF3
  go_wp2_with fail
  (with_reducible refine (HO.out _ HF4.out _ z2).mono ?_)
  rintro e w6 ⟨rfl, hf⟩
  have HF5 := Lib.hid (HF4.out.then hf)
  clear hf HF4
  go_wp2_with fail
  (with_reducible refine (HO.out _ HF5.out _ z3).mono ?_)
  rintro e w7 ⟨rfl, hf⟩
  have HF6 := Lib.hid (HF5.out.then hf)
  clear hf HF5
  go_wp2_with fail
  go_ret
  exact ⟨rfl, HF6.out⟩
end Go.Proofs.YtfaopjoglgmoiaaDoor
