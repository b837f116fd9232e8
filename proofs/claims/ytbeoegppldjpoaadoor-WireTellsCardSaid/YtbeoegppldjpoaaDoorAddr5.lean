/- Addresses: the contracts of Mail, Phone, Any, Split, Mask. -/
import Derived.Test.YtbeoegppldjpoaaDoorAddr4
import Derived.Test.YtbeoegppldjpoaaDoorBld
import Derived.Shelf.Strings.SlTrimAscii
namespace Go.Proofs.YtbeoegppldjpoaaDoor
open Go.RowKit Go.Lib
set_option linter.unusedVariables false
set_option linter.unusedSimpArgs false

theorem ascii_ofA {cs : ByteArray} (h : (cs.data.toList.all fun b => decide (b.toNat < 128)) = true) : ∀ (j : Nat) (b : UInt8), cs.data.toList[j]? = some b → b.toNat < 128 := fun j b hb => by
  have := List.all_eq_true.1 h b (List.mem_of_getElem? hb)
  simpa using this
theorem Trim_calls (w : World) (s : ByteArray) (hs : s.size ≤ 1000000) :
    Calls Tryd.prog 31 #[.string s, .string ⟨#[32, 9]⟩] w fun e w' => e = .returned (.string (bL (Lib.trimS s.data.toList [32, 9]))) ∧ Fr [] w w' :=
  (Any.strings_Trim_laid Tryd.lays160 (by kernel_rfl) s ⟨#[32, 9]⟩ w (by omega) (by decide) (ascii_ofA (by decide))).mono fun e w' h => ⟨h.1, Fr.of_below h.2⟩
theorem trimS_len (l cs : List UInt8) : (Lib.trimS l cs).length ≤ l.length := by
  have h1 : (Lib.trimLeftS l cs).length ≤ l.length := by
    unfold Lib.trimLeftS
    exact (List.dropWhile_suffix _).length_le
  have h2 : ∀ m, (Lib.trimRightS m cs).length ≤ m.length := fun m => by
    unfold Lib.trimRightS
    rw [List.length_reverse]
    exact Nat.le_trans (List.dropWhile_suffix _).length_le (by rw [List.length_reverse]; exact Nat.le_refl _)
  unfold Lib.trimS
  first
  | exact Nat.le_trans (h2 _) h1
  | exact Nat.le_trans (List.dropWhile_suffix _).length_le (h2 _)
  | omega

/-- What Mail tells. -/
def mailS (l : List UInt8) : ByteArray × Bool := (bL (mailR l).1, (mailR l).2)
def phoneS (l : List UInt8) : ByteArray × Bool := (bL (phoneR l).1, (phoneR l).2)
theorem kind_one (l : List UInt8) : kindL l = 1 ↔ mailL l = true := by
  unfold kindL
  split
  · simp [*]
  · split <;> simp [*]
theorem phone_notmail {l : List UInt8} (h : phoneL l = true) : mailL l = false := by
  have hn : cutL 64 l = none := by
    refine cutL_not fun hm => ?_
    unfold phoneL at h
    simp only [Bool.and_eq_true] at h
    obtain ⟨_, _, h0, _, ha⟩ := h
    cases l with
    | nil => cases hm
    | cons x l =>
      simp only [List.getElem?_cons_zero, beq_iff_eq, Option.some.injEq] at h0
      subst h0
      rcases List.mem_cons.1 hm with h1 | h1
      · cases h1
      · have := List.all_eq_true.1 ha 64 (by simpa using h1)
        cases this
  unfold mailL
  rw [hn]
theorem kind_two (l : List UInt8) : kindL l = 2 ↔ phoneL l = true := by
  unfold kindL
  constructor
  · intro h
    split at h
    · cases h
    · split at h
      · assumption
      · cases h
  · intro h
    rw [phone_notmail h, h]
    rfl
theorem right_mail (l : List UInt8) (s : ByteArray) (h : s = bL (mailOf l)) : (if kindL s.data.toList = 1 then (s, true) else (⟨#[]⟩, false)) = mailS l := by
  subst h
  rw [bL_data]
  unfold mailS mailR
  by_cases hm : mailL (mailOf l) = true
  · rw [if_pos ((kind_one _).2 hm), if_pos hm]
  · rw [if_neg (fun h => hm ((kind_one _).1 h)), if_neg hm]
    rfl
theorem right_phone (l : List UInt8) (s : ByteArray) (h : s = bL (phoneOf l)) : (if kindL s.data.toList = 2 then (s, true) else (⟨#[]⟩, false)) = phoneS l := by
  subst h
  rw [bL_data]
  unfold phoneS phoneR
  by_cases hm : phoneL (phoneOf l) = true
  · rw [if_pos ((kind_two _).2 hm), if_pos hm]
  · rw [if_neg (fun h => hm ((kind_two _).1 h)), if_neg hm]
    rfl
theorem bL_app (a b : List UInt8) : bL a ++ bL b = bL (a ++ b) := by
  apply ByteArray.ext
  simp [bL]

set_option maxHeartbeats 4000000 in
set_option maxRecDepth 100000 in
theorem Mail_calls (w : World) (hM : ML w) (s : ByteArray) (hs : s.size ≤ 100000) :
    Calls Tryd.prog 19 #[.string s] w fun e w' => e = .returned (.tuple #[.string (mailS s.data.toList).1, .bool (mailS s.data.toList).2]) ∧ Fr [] w w' := by
  have ht := Trim_calls w s (by omega)
  have htl := trimS_len s.data.toList [32, 9]
  rw [len_size] at htl
  obtain ⟨T, hT⟩ : ∃ T, T = (Lib.trimS s.data.toList [32, 9]).map lowC := ⟨_, rfl⟩
  have hTs : (bL T).size ≤ 100000 := by rw [hT, bL_size, List.length_map]; omega
  have hlo := fun W => lower_calls W (bL (Lib.trimS s.data.toList [32, 9])) (by rw [bL_size]; omega)
  rw [bL_data, ← hT] at hlo
  have hmo : mailOf s.data.toList = plusL T := by rw [hT]; rfl
  obtain ⟨P, hP⟩ : ∃ P, P = bL (plusL T) := ⟨_, rfl⟩
  have hres := right_mail s.data.toList P (by rw [hP, hmo])
  obtain ⟨R1, R2, hR⟩ : ∃ a b, mailS s.data.toList = (a, b) := ⟨_, _, rfl⟩
  rw [hR] at hres ⊢
  simp only
  have hPs : P.size ≤ 200000 := by
    rw [hP, bL_size]
    rw [bL_size] at hTs
    unfold plusL
    cases h : cutL 43 T with
    | none => simp only; omega
    | some p =>
      obtain ⟨a, b⟩ := p
      obtain ⟨e, -⟩ := cutL_some h
      simp only
      cases h2 : cutL 64 b with
      | none => simp only; omega
      | some q =>
        obtain ⟨c, d⟩ := q
        obtain ⟨e2, -⟩ := cutL_some h2
        rw [e, e2] at hTs
        simp at hTs ⊢
        omega
  have hrt := fun W h => right_calls W h P (by omega) 1 (show (1 : Int) = ((1 : Nat) : Int) from rfl) hres
  have hc1 := fun W h => cut_calls W h (bL T) 43 (by omega)
  have hzz := cutS_sizes 43 (bL T)
  have hc2 := fun W h => cut_calls W h (cutS 43 (bL T)).2.1 64 (by omega)
  have HT := Lib.hid ht
  have HLO := Lib.hid hlo
  have HRT := Lib.hid hrt
  have HC1 := Lib.hid hc1
  have HC2 := Lib.hid hc2
  have HM := Lib.hid hM
  have HP := Lib.hid hP
  have HZ := Lib.hid hzz
  clear ht hlo hrt hc1 hc2 hM hP hzz hR hres hmo hT htl
  go_enter Tryd.func19, Tryd.ntmps19
  go_wp2_with fail
  (with_reducible refine HT.out.mono ?_)
  rintro e w1 ⟨rfl, hf1⟩
  have HF1 := Lib.hid hf1
  clear hf1 HT
  go_wp2_with fail
  (with_reducible refine (HLO.out _).mono ?_)
  rintro e w2 ⟨rfl, hf2⟩
  have HF2 := Lib.hid (HF1.out.then hf2)
  clear hf2 HLO HF1
  go_wp2_with fail
  (with_reducible refine (HC1.out _ (HM.out.keep HF2.out)).mono ?_)
  rintro e w3 ⟨rfl, hf3⟩
  have HF3 := Lib.hid (HF2.out.then hf3)
  clear hf3 HC1 HF2
  go_wp2_with fail
  (with_reducible refine (HC2.out _ (HM.out.keep HF3.out)).mono ?_)
  rintro e w4 ⟨rfl, hf4⟩
  have HF4 := Lib.hid (HF3.out.then hf4)
  clear hf4 HC2 HF3
  cases h1 : cutL 43 T with
  | none =>
    have e1 : cutS 43 (bL T) = (bL T, ⟨#[]⟩, false) := by
      unfold cutS
      rw [bL_data, h1]
    have e2 : P = bL T := by rw [HP.out]; unfold plusL; rw [h1]
    rw [e1]
    have e3 : cutS 64 ⟨#[]⟩ = (⟨#[]⟩, ⟨#[]⟩, false) := rfl
    simp only [e3]
    clear e1 e3 h1 HZ HP
    subst e2
    go_wp2_with fail
    (with_reducible refine (HRT.out _ (HM.out.keep HF4.out)).mono ?_)
    rintro e w5 ⟨rfl, hf5⟩
    have HF5 := Lib.hid (HF4.out.then hf5)
    clear hf5
    go_wp2_with fail
    go_ret2
    exact ⟨rfl, HF5.out⟩
  | some p =>
    obtain ⟨a, b⟩ := p
    have e1 : cutS 43 (bL T) = (bL a, bL b, true) := by
      unfold cutS
      rw [bL_data, h1]
    have hZ := HZ.out
    rw [e1] at hZ ⊢
    simp only at hZ ⊢
    cases h2 : cutL 64 b with
    | none =>
      have e2 : cutS 64 (bL b) = (bL b, ⟨#[]⟩, false) := by
        unfold cutS
        rw [bL_data, h2]
      have e3 : P = bL T := by rw [HP.out]; unfold plusL; rw [h1]; simp only; rw [h2]
      rw [e2]
      simp only
      clear e1 e2 h1 h2 HZ HP hZ
      subst e3
      go_wp2_with fail
      (with_reducible refine (HRT.out _ (HM.out.keep HF4.out)).mono ?_)
      rintro e w5 ⟨rfl, hf5⟩
      have HF5 := Lib.hid (HF4.out.then hf5)
      clear hf5
      go_wp2_with fail
      go_ret2
      exact ⟨rfl, HF5.out⟩
    | some q =>
      obtain ⟨c, d⟩ := q
      have e2 : cutS 64 (bL b) = (bL c, bL d, true) := by
        unfold cutS
        rw [bL_data, h2]
      have e3 : bL a ++ ⟨#[64]⟩ ++ bL d = P := by
        rw [HP.out]
        unfold plusL
        rw [h1]
        simp only
        rw [h2]
        simp only
        rw [show (⟨#[64]⟩ : ByteArray) = bL [64] from rfl, bL_app, bL_app]
        congr 1
        simp
      rw [e2]
      simp only
      have hda : (bL d).size ≤ 100000 := by
        obtain ⟨e4, -⟩ := cutL_some h2
        have := hZ.2
        rw [bL_size, e4] at this
        simp at this
        rw [bL_size]
        omega
      have haa : (bL a).size ≤ 100000 := by omega
      clear e1 e2 h1 h2 HZ HP hZ
      generalize bL a = A at *
      generalize bL d = E at *
      have g1 : (9223372036854775807 < A.size + 1) = False := eq_false (by omega)
      have g2 : (9223372036854775807 < A.size + 1 + E.size) = False := eq_false (by omega)
      go_wp2_with fail
      (try rw [e3])
      (with_reducible refine (HRT.out _ (HM.out.keep HF4.out)).mono ?_)
      rintro e w5 ⟨rfl, hf5⟩
      have HF5 := Lib.hid (HF4.out.then hf5)
      clear hf5
      go_wp2_with fail
      go_ret2
      exact ⟨rfl, HF5.out⟩
theorem bty_builder : BTy 55 := ⟨by kernel_rfl, by decide⟩
theorem bes_contains : ∀ n, n < 256 → Lib.contains [32, 9, 45, 46, 40, 41] [UInt8.ofNat n] = besN n := by decide +kernel
theorem one_byte (s : ByteArray) (i : Nat) (h : i < s.size) : (s.extract i (i + 1)).data.toList = [s[i]] := by
  have h' : i < s.data.toList.length := by rw [len_size]; exact h
  rw [ByteArray.data_extract, Array.toList_extract, List.extract_eq_take_drop, Nat.add_sub_cancel_left, List.drop_eq_getElem_cons h']
  rfl

def anyS (l : List UInt8) : ByteArray × Bool := (bL (anyR l).1, (anyR l).2)
end Go.Proofs.YtbeoegppldjpoaaDoor
