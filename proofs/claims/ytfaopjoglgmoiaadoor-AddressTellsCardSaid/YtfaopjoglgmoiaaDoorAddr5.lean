/- Addresses: the contracts of Mail, Phone, Any, Split, Mask. -/
import Derived.Test.YtfaopjoglgmoiaaDoorAddr4
import Derived.Test.YtfaopjoglgmoiaaDoorBld
import Derived.Shelf.Strings.SlTrimAscii
namespace Go.Proofs.YtfaopjoglgmoiaaDoor
open Go.RowKit Go.Lib
set_option linter.unusedVariables false
set_option linter.unusedSimpArgs false

theorem ascii_ofA {cs : ByteArray} (h : (cs.data.toList.all fun b => decide (b.toNat < 128)) = true) : ∀ (j : Nat) (b : UInt8), cs.data.toList[j]? = some b → b.toNat < 128 := fun j b hb => by
  have := List.all_eq_true.1 h b (List.mem_of_getElem? hb)
  simpa using this
theorem Trim_calls (w : World) (s : ByteArray) (hs : s.size ≤ 1000000) :
    Calls Tryd.prog 20 #[.string s, .string ⟨#[32, 9]⟩] w fun e w' => e = .returned (.string (bL (Lib.trimS s.data.toList [32, 9]))) ∧ Fr [] w w' :=
  (Any.strings_Trim_laid Tryd.lays160 (by kernel_rfl) s ⟨#[32, 9]⟩ w (by omega) (by decide) (ascii_ofA (by decide))).mono fun e w' h => ⟨h.1, Fr.of_below h.2⟩
theorem trimS_len (l cs : List UInt8) : (Lib.trimS l cs).length ≤ l.length := by
  have h1 : (Lib.trimLeftS l cs).length ≤ l.length := by
    unfold Lib.trimLeftS
    exact (List.dropWhile_suffix _).length_le
  have h2 : ∀ m, (Lib.trimRightS m cs).length ≤ m.length := fun m => by
    unfold Lib.trimRightS
    rw [List.length_reverse]
    exact Nat.le_trans (List.dropWhile_suffix _).length_le (by rw [List.length_reverse]; exact Nat.le_refl _)
  unfold Lib.trimS
  first
  | exact Nat.le_trans (h2 _) h1
  | exact Nat.le_trans (List.dropWhile_suffix _).length_le (h2 _)
  | omega

/-- What Mail tells. -/
def mailS (l : List UInt8) : ByteArray × Bool := (bL (mailR l).1, (mailR l).2)
def phoneS (l : List UInt8) : ByteArray × Bool := (bL (phoneR l).1, (phoneR l).2)
theorem kind_one (l : List UInt8) : kindL l = 1 ↔ mailL l = true := by
  unfold kindL
  split
  · simp [*]
  · split <;> simp [*]
theorem phone_notmail {l : List UInt8} (h : phoneL l = true) : mailL l = false := by
  have hn : cutL 64 l = none := by
    refine cutL_not fun hm => ?_
    unfold phoneL at h
    simp only [Bool.and_eq_true] at h
    obtain ⟨_, _, h0, _, ha⟩ := h
    cases l with
    | nil => cases hm
    | cons x l =>
      simp only [List.getElem?_cons_zero, beq_iff_eq, Option.some.injEq] at h0
      subst h0
      rcases List.mem_cons.1 hm with h1 | h1
      · cases h1
      · have := List.all_eq_true.1 ha 64 (by simpa using h1)
        cases this
  unfold mailL
  rw [hn]
theorem kind_two (l : List UInt8) : kindL l = 2 ↔ phoneL l = true := by
  unfold kindL
  constructor
  · intro h
    split at h
    · cases h
    · split at h
      · assumption
      · cases h
  · intro h
    rw [phone_notmail h, h]
    rfl
theorem right_mail (l : List UInt8) (s : ByteArray) (h : s = bL (mailOf l)) : (if kindL s.data.toList = 1 then (s, true) else (⟨#[]⟩, false)) = mailS l := by
  subst h
  rw [bL_data]
  unfold mailS mailR
  by_cases hm : mailL (mailOf l) = true
  · rw [if_pos ((kind_one _).2 hm), if_pos hm]
  · rw [if_neg (fun h => hm ((kind_one _).1 h)), if_neg hm]
    rfl
theorem right_phone (l : List UInt8) (s : ByteArray) (h : s = bL (phoneOf l)) : (if kindL s.data.toList = 2 then (s, true) else (⟨#[]⟩, false)) = phoneS l := by
  subst h
  rw [bL_data]
  unfold phoneS phoneR
  by_cases hm : phoneL (phoneOf l) = true
  · rw [if_pos ((kind_two _).2 hm), if_pos hm]
  · rw [if_neg (fun h => hm ((kind_two _).1 h)), if_neg hm]
    rfl
theorem bL_app (a b : List UInt8) : bL a ++ bL b = bL (a ++ b) := by
  apply ByteArray.ext
  simp [bL]

set_option maxHeartbeats 4000000 in
set_option maxRecDepth 100000 in
theorem Mail_calls (w : World) (hM : ML w) (s : ByteArray) (hs : s.size ≤ 100000) :
    Calls Tryd.prog 12 #[.string s] w fun e w' => e = .returned (.tuple #[.string (mailS s.data.toList).1, .bool (mailS s.data.toList).2]) ∧ Fr [] w w' := by
  have ht := Trim_calls w s (by omega)
  have htl := trimS_len s.data.toList [32, 9]
  rw [len_size] at htl
  obtain ⟨T, hT⟩ : ∃ T, T = (Lib.trimS s.data.toList [32, 9]).map lowC := ⟨_, rfl⟩
  have hTs : (bL T).size ≤ 100000 := by rw [hT, bL_size, List.length_map]; omega
  have hlo := fun W => lower_calls W (bL (Lib.trimS s.data.toList [32, 9])) (by rw [bL_size]; omega)
  rw [bL_data, ← hT] at hlo
  have hmo : mailOf s.data.toList = plusL T := by rw [hT]; rfl
  obtain ⟨P, hP⟩ : ∃ P, P = bL (plusL T) := ⟨_, rfl⟩
  have hres := right_mail s.data.toList P (by rw [hP, hmo])
  obtain ⟨R1, R2, hR⟩ : ∃ a b, mailS s.data.toList = (a, b) := ⟨_, _, rfl⟩
  rw [hR] at hres ⊢
  simp only
  have hPs : P.size ≤ 200000 := by
    rw [hP, bL_size]
    rw [bL_size] at hTs
    unfold plusL
    cases h : cutL 43 T with
    | none => simp only; omega
    | some p =>
      obtain ⟨a, b⟩ := p
      obtain ⟨e, -⟩ := cutL_some h
      simp only
      cases h2 : cutL 64 b with
      | none => simp only; omega
      | some q =>
        obtain ⟨c, d⟩ := q
        obtain ⟨e2, -⟩ := cutL_some h2
        rw [e, e2] at hTs
        simp at hTs ⊢
        omega
  have hrt := fun W h => right_calls W h P (by omega) 1 (show (1 : Int) = ((1 : Nat) : Int) from rfl) hres
  have hc1 := fun W h => cut_calls W h (bL T) 43 (by omega)
  have hzz := cutS_sizes 43 (bL T)
  have hc2 := fun W h => cut_calls W h (cutS 43 (bL T)).2.1 64 (by omega)
  have HT := Lib.hid ht
  have HLO := Lib.hid hlo
  have HRT := Lib.hid hrt
  have HC1 := Lib.hid hc1
  have HC2 := Lib.hid hc2
  have HM := Lib.hid hM
  have HP := Lib.hid hP
  have HZ := Lib.hid hzz
  clear ht hlo hrt hc1 hc2 hM hP hzz hR hres hmo hT htl
  go_enter Tryd.func12, Tryd.ntmps12
  go_wp2_with fail
  (with_reducible refine HT.out.mono ?_)
  rintro e w1 ⟨rfl, hf1⟩
  have HF1 := Lib.hid hf1
  clear hf1 HT
  go_wp2_with fail
  (with_reducible refine (HLO.out _).mono ?_)
  rintro e w2 ⟨rfl, hf2⟩
  have HF2 := Lib.hid (HF1.out.then hf2)
  clear hf2 HLO HF1
  go_wp2_with fail
  (with_reducible refine (HC1.out _ (HM.out.keep HF2.out)).mono ?_)
  rintro e w3 ⟨rfl, hf3⟩
  have HF3 := Lib.hid (HF2.out.then hf3)
  clear hf3 HC1 HF2
  go_wp2_with fail
  (with_reducible refine (HC2.out _ (HM.out.keep HF3.out)).mono ?_)
  rintro e w4 ⟨rfl, hf4⟩
  have HF4 := Lib.hid (HF3.out.then hf4)
  clear hf4 HC2 HF3
  cases h1 : cutL 43 T with
  | none =>
    have e1 : cutS 43 (bL T) = (bL T, ⟨#[]⟩, false) := by
      unfold cutS
      rw [bL_data, h1]
    have e2 : P = bL T := by rw [HP.out]; unfold plusL; rw [h1]
    rw [e1]
    have e3 : cutS 64 ⟨#[]⟩ = (⟨#[]⟩, ⟨#[]⟩, false) := rfl
    simp only [e3]
    clear e1 e3 h1 HZ HP
    subst e2
    go_wp2_with fail
    (with_reducible refine (HRT.out _ (HM.out.keep HF4.out)).mono ?_)
    rintro e w5 ⟨rfl, hf5⟩
    have HF5 := Lib.hid (HF4.out.then hf5)
    clear hf5
    go_wp2_with fail
    go_ret2
    exact ⟨rfl, HF5.out⟩
  | some p =>
    obtain ⟨a, b⟩ := p
    have e1 : cutS 43 (bL T) = (bL a, bL b, true) := by
      unfold cutS
      rw [bL_data, h1]
    have hZ := HZ.out
    rw [e1] at hZ ⊢
    simp only at hZ ⊢
    cases h2 : cutL 64 b with
    | none =>
      have e2 : cutS 64 (bL b) = (bL b, ⟨#[]⟩, false) := by
        unfold cutS
        rw [bL_data, h2]
      have e3 : P = bL T := by rw [HP.out]; unfold plusL; rw [h1]; simp only; rw [h2]
      rw [e2]
      simp only
      clear e1 e2 h1 h2 HZ HP hZ
      subst e3
      go_wp2_with fail
      (with_reducible refine (HRT.out _ (HM.out.keep HF4.out)).mono ?_)
      rintro e w5 ⟨rfl, hf5⟩
      have HF5 := Lib.hid (HF4.out.then hf5)
      clear hf5
      go_wp2_with fail
      go_ret2
      exact ⟨rfl, HF5.out⟩
    | some q =>
      obtain ⟨c, d⟩ := q
      have e2 : cutS 64 (bL b) = (bL c, bL d, true) := by
        unfold cutS
        rw [bL_data, h2]
      have e3 : bL a ++ ⟨#[64]⟩ ++ bL d = P := by
        rw [HP.out]
        unfold plusL
        rw [h1]
        simp only
        rw [h2]
        simp only
        rw [show (⟨#[64]⟩ : ByteArray) = bL [64] from rfl, bL_app, bL_app]
        congr 1
        simp
      rw [e2]
      simp only
      have hda : (bL d).size ≤ 100000 := by
        obtain ⟨e4, -⟩ := cutL_some h2
        have := hZ.2
        rw [bL_size, e4] at this
        simp at this
        rw [bL_size]
        omega
      have haa : (bL a).size ≤ 100000 := by omega
      clear e1 e2 h1 h2 HZ HP hZ
      generalize bL a = A at *
      generalize bL d = E at *
      have g1 : (9223372036854775807 < A.size + 1) = False := eq_false (by omega)
      have g2 : (9223372036854775807 < A.size + 1 + E.size) = False := eq_false (by omega)
      go_wp2_with fail
      (try rw [e3])
      (with_reducible refine (HRT.out _ (HM.out.keep HF4.out)).mono ?_)
      rintro e w5 ⟨rfl, hf5⟩
      have HF5 := Lib.hid (HF4.out.then hf5)
      clear hf5
      go_wp2_with fail
      go_ret2
      exact ⟨rfl, HF5.out⟩
theorem bty_builder : BTy 45 := ⟨by kernel_rfl, by decide⟩
theorem bes_contains : ∀ n, n < 256 → Lib.contains [32, 9, 45, 46, 40, 41] [UInt8.ofNat n] = besN n := by decide +kernel
theorem one_byte (s : ByteArray) (i : Nat) (h : i < s.size) : (s.extract i (i + 1)).data.toList = [s[i]] := by
  have h' : i < s.data.toList.length := by rw [len_size]; exact h
  rw [ByteArray.data_extract, Array.toList_extract, List.extract_eq_take_drop, Nat.add_sub_cancel_left, List.drop_eq_getElem_cons h']
  rfl

set_option maxHeartbeats 2000000 in
set_option maxRecDepth 100000 in
theorem Phone_calls (w : World) (hM : ML w) (s : ByteArray) (hs : s.size ≤ 100000) :
    Calls Tryd.prog 17 #[.string s] w fun e w' => e = .returned (.tuple #[.string (phoneS s.data.toList).1, .bool (phoneS s.data.toList).2]) ∧ Fr [] w w' := by
  have hl := len_size s
  obtain ⟨P, hP⟩ : ∃ P, P = bL (phoneOf s.data.toList) := ⟨_, rfl⟩
  have hres := right_phone s.data.toList P hP
  obtain ⟨R1, R2, hR⟩ : ∃ a b, phoneS s.data.toList = (a, b) := ⟨_, _, rfl⟩
  rw [hR] at hres ⊢
  simp only
  have hPs : P.size ≤ 100000 := by
    rw [hP, bL_size]
    have : (phoneOf s.data.toList).length ≤ s.data.toList.length := List.length_filter_le _ _
    omega
  have hrt := fun W h => right_calls W h P (by omega) 2 (show (2 : Int) = ((2 : Nat) : Int) from rfl) hres
  have hct : ∀ (W : World), ML W → ∀ i (hi : i < s.size), Calls Tryd.prog 30 #[.string ⟨#[32, 9, 45, 46, 40, 41]⟩, .string (s.extract i (i + 1))] W fun e w' => e = .returned (.bool (besN (s[i]).toNat)) ∧ w' = W := fun W hW i hi => by
    obtain ⟨m, hm⟩ := hW
    have h := Tryd.strings_Contains ⟨#[32, 9, 45, 46, 40, 41]⟩ (s.extract i (i + 1)) m W (by decide) hm
    have hb := bes_contains (s[i]).toNat (s[i]).toNat_lt
    rw [one_byte s i hi, show (⟨#[32, 9, 45, 46, 40, 41]⟩ : ByteArray).data.toList = [32, 9, 45, 46, 40, 41] from rfl] at h
    rw [show UInt8.ofNat (s[i]).toNat = s[i] from UInt8.ofNat_toNat] at hb
    rw [hb] at h
    exact h
  have hb0 : BldN 45 5 w (w.alloc (.cells #[.pointer none, .slice none 0 0] 45)) w.heap.size [] ⟨#[]⟩ := BldN.make _ _ (Fr.refl _ _) rfl
  have HRT := Lib.hid hrt
  have HCT := Lib.hid hct
  have HM := Lib.hid hM
  have HP := Lib.hid hP
  have HB0 := Lib.hid hb0
  have HL := Lib.hid hl
  clear hrt hct hM hP hb0 hR hres hl
  go_enter Tryd.func17, Tryd.ntmps17
  go_wp2_with fail
  generalize w.alloc (.cells #[.pointer none, .slice none 0 0] 45) = W0 at HB0 ⊢
  generalize w.heap.size = b at HB0 ⊢
  go_loopw [8] (fun v8 wr => ∃ (i : Nat) (r : List Nat), v8 = .int .i64 i ∧ i ≤ s.size ∧ Hid (BldN 45 5 w wr b r (bL (phoneOf (s.data.toList.take i))))) (fun v8 _ => s.size - (intOf v8).toNat)
  case atStart => exact ⟨0, [], rfl, Nat.zero_le _, HB0.out⟩
  case round =>
    clear HB0
    obtain ⟨i, r, rfl, hi, H⟩ := hrel
    by_cases hlt : i < s.size
    · have hil : i < s.data.toList.length := by rw [HL.out]; exact hlt
      have htk : phoneOf (s.data.toList.take (i + 1)) = phoneOf (s.data.toList.take i) ++ (if besN (s[i]).toNat then [] else [s[i]]) := by
        unfold phoneOf
        rw [List.take_succ_eq_append_getElem hil, List.filter_append]
        congr 1
        have e : s.data.toList[i] = s[i] := rfl
        rw [e]
        cases hbb : besN (s[i]).toNat with
        | true => rw [List.filter_cons_of_neg (by rw [hbb]; decide), if_pos rfl]; rfl
        | false => rw [List.filter_cons_of_pos (by rw [hbb]; rfl), if_neg (by decide)]; rfl
      have hlen : (phoneOf (s.data.toList.take i)).length ≤ 100000 := by
        have : (phoneOf (s.data.toList.take i)).length ≤ (s.data.toList.take i).length := List.length_filter_le _ _
        rw [List.length_take] at this
        omega
      have hc := HCT.out wr (HM.out.keep H.out.fr) i hlt
      have hc255 := (s[i]).toNat_lt
      have hbo : bOf ((s[i]).toNat : Int) = bL [s[i]] := by
        unfold bOf bL
        simp
      have HTK := Lib.hid htk
      have HBO := Lib.hid hbo
      have HC := Lib.hid hc
      clear htk hbo hc
      cases hb : besN (s[i]).toNat with
      | true =>
        rw [hb] at HC HTK
        have HN : Hid (BldN 45 5 w wr b r (bL (phoneOf (s.data.toList.take (i + 1))))) := Lib.hid (by rw [HTK.out, if_pos rfl, List.append_nil]; exact H.out)
        clear hb H HTK HBO
        go_wp2_with fail
        (with_reducible refine HC.out.mono ?_)
        rintro e w2 ⟨rfl, hw⟩
        rw [hw]
        clear hw
        go_wp2_with fail
        exact ⟨⟨i + 1, r, by go_num, by omega, HN⟩, by simp only [intOf]; omega⟩
      | false =>
        rw [hb] at HC HTK
        clear hb
        go_wp2_with fail
        (with_reducible refine HC.out.mono ?_)
        rintro e w2 ⟨rfl, hw⟩
        rw [hw]
        clear hw
        go_wp2_with fail
        (with_reducible refine (WriteByte_calls 45 bty_builder b r _ _ _ (by omega) (by omega) H.out.bld (by rw [bL_size]; omega)).mono ?_)
        rintro e w3 ⟨rfl, r3, h3, hf3, hn3⟩
        have HN : Hid (BldN 45 5 w w3 b r3 (bL (phoneOf (s.data.toList.take (i + 1))))) := Lib.hid (by
          rw [HTK.out, if_neg (by decide), ← bL_app, ← HBO.out]
          exact H.out.step h3 hf3 hn3)
        clear H HTK HBO h3 hf3 hn3 HC
        go_wp2_with fail
        exact ⟨⟨i + 1, r3, by go_num, by omega, HN⟩, by simp only [intOf]; omega⟩
    · obtain rfl : i = s.size := by omega
      have hE : bL (phoneOf (s.data.toList.take s.size)) = P := by rw [HP.out, List.take_of_length_le (by rw [HL.out]; exact Nat.le_refl _)]
      rw [hE] at H
      clear HCT HP hE
      go_wp2_with fail
      (with_reducible refine (String_calls 45 bty_builder b r P _ H.out.bld).mono ?_)
      rintro e w2 ⟨rfl, h2, hf2⟩
      have HF2 := Lib.hid (H.out.fr.trans hf2 (fun k hk => .inr (H.out.new k (by simp [hk]))))
      clear h2 hf2 H
      go_wp2_with fail
      (with_reducible refine (HRT.out _ (HM.out.keep HF2.out)).mono ?_)
      rintro e w3 ⟨rfl, hf3⟩
      have HF3 := Lib.hid (HF2.out.then hf3)
      clear hf3
      go_wp2_with fail
      go_ret2
      exact ⟨rfl, HF3.out⟩

def anyS (l : List UInt8) : ByteArray × Bool := (bL (anyR l).1, (anyR l).2)
set_option maxRecDepth 100000 in
theorem Any_calls (w : World) (hM : ML w) (s : ByteArray) (hs : s.size ≤ 100000) :
    Calls Tryd.prog 16 #[.string s] w fun e w' => e = .returned (.tuple #[.string (anyS s.data.toList).1, .bool (anyS s.data.toList).2]) ∧ Fr [] w w' := by
  have hm := Mail_calls w hM s hs
  have hp := fun W h => Phone_calls W h s hs
  by_cases h : mailL (mailOf s.data.toList) = true
  · have e1 : mailS s.data.toList = (bL (mailOf s.data.toList), true) := by unfold mailS mailR; rw [if_pos h]
    have e2 : anyS s.data.toList = (bL (mailOf s.data.toList), true) := by unfold anyS anyR; rw [if_pos h]
    rw [e1] at hm
    rw [e2]
    simp only at hm ⊢
    generalize bL (mailOf s.data.toList) = A at *
    clear e1 e2 h hp hM
    go_enter Tryd.func16, Tryd.ntmps16
    go_wp2_with fail
    (with_reducible refine hm.mono ?_)
    rintro e w1 ⟨rfl, hf⟩
    go_wp2_with fail
    go_ret2
    exact ⟨rfl, hf⟩
  · have e1 : mailS s.data.toList = (⟨#[]⟩, false) := by unfold mailS mailR; rw [if_neg h]; rfl
    have e2 : anyS s.data.toList = phoneS s.data.toList := by unfold anyS anyR phoneS; rw [if_neg h]
    rw [e1] at hm
    rw [e2]
    simp only at hm
    generalize phoneS s.data.toList = A at *
    obtain ⟨A1, A2⟩ := A
    simp only at hp ⊢
    have HP := Lib.hid hp
    have HM := Lib.hid hM
    clear e1 e2 h hp hM
    go_enter Tryd.func16, Tryd.ntmps16
    go_wp2_with fail
    (with_reducible refine hm.mono ?_)
    rintro e w1 ⟨rfl, hf⟩
    go_wp2_with fail
    (with_reducible refine (HP.out _ (HM.out.keep hf)).mono ?_)
    rintro e w2 ⟨rfl, hf2⟩
    have HF := Lib.hid (hf.then hf2)
    clear hf hf2
    go_wp2_with fail
    go_ret2
    exact ⟨rfl, HF.out⟩
end Go.Proofs.YtfaopjoglgmoiaaDoor
