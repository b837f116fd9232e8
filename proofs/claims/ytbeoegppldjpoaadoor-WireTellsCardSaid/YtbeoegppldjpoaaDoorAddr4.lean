/- Addresses: the contracts of Kind, right, Split. -/
import Derived.Test.YtbeoegppldjpoaaDoorAddr3
import Derived.Deep.Cut
namespace Go.Proofs.YtbeoegppldjpoaaDoor
open Go.RowKit Go.Lib
set_option linter.unusedVariables false
set_option linter.unusedSimpArgs false

/-- A text cut at a byte, as strings.Cut tells it. -/
def cutS (c : UInt8) (s : ByteArray) : ByteArray × ByteArray × Bool := match cutL c s.data.toList with
  | none => (s, ⟨#[]⟩, false)
  | some p => (bL p.1, bL p.2, true)
theorem cut_calls (w : World) (hM : ML w) (s : ByteArray) (c : UInt8) (hs : s.size ≤ 1000000) :
    Calls Tryd.prog 32 #[.string s, .string ⟨#[c]⟩] w fun e w' => e = .returned (.tuple #[.string (cutS c s).1, .string (cutS c s).2.1, .bool (cutS c s).2.2]) ∧ Fr [] w w' := by
  obtain ⟨m, hm⟩ := hM
  refine (Tryd.strings_Cut s ⟨#[c]⟩ m w (by omega) hm).mono ?_
  rintro e w' ⟨rfl, n, rfl⟩
  refine ⟨?_, (Fr.refl _ _).drewN n⟩
  rw [show (⟨#[c]⟩ : ByteArray).data.toList = [c] from rfl, cut_one]
  unfold cutS
  cases cutL c s.data.toList with
  | none =>
    first
    | (simp only; done)
    | (simp only; rw [show (⟨s.data.toList.toArray⟩ : ByteArray) = s from bL_list s])
  | some p => rfl
theorem cutS_sizes (c : UInt8) (s : ByteArray) : (cutS c s).1.size ≤ s.size ∧ (cutS c s).2.1.size ≤ s.size := by
  unfold cutS
  cases h : cutL c s.data.toList with
  | none => exact ⟨Nat.le_refl _, Nat.zero_le _⟩
  | some p =>
    obtain ⟨a, b⟩ := p
    obtain ⟨e, -⟩ := cutL_some h
    have hl := len_size s
    rw [e, List.length_append, List.length_cons] at hl
    simp only [bL_size]
    omega
theorem phone_cases (s : ByteArray) (h9 : 9 ≤ s.size) : phoneL s.data.toList = (decide ((s.size : Int) ≤ 16) && ((((s[0]'(by omega)).toNat : Int) == 43) && ((((s[1]'(by omega)).toNat : Int) != 48) && (s.extract 1 s.size).data.toList.all fun c => digN c.toNat))) := by
  have hl := len_size s
  have b1 : ∀ c : UInt8, ((c.toNat : Int) == 43) = (some c == some 43) := fun c => by
    by_cases h : c = 43
    · subst h; rfl
    · rw [beq_eq_false_iff_ne.2 (fun e => h (Option.some.inj e)), beq_eq_false_iff_ne.2 (fun e => h (UInt8.toNat_inj.1 (by show c.toNat = 43; omega)))]
  have b2 : ∀ c : UInt8, ((c.toNat : Int) != 48) = (some c != some 48) := fun c => by
    by_cases h : c = 48
    · subst h; rfl
    · rw [bne_iff_ne.2 (fun e => h (Option.some.inj e)), bne_iff_ne.2 (fun e => h (UInt8.toNat_inj.1 (by show c.toNat = 48; omega)))]
  have e0 : s.data.toList[0]? = some (s[0]'(by omega)) := by
    rw [List.getElem?_eq_getElem (by omega)]
    rfl
  have e1 : s.data.toList[1]? = some (s[1]'(by omega)) := by
    rw [List.getElem?_eq_getElem (by omega)]
    rfl
  have e2 : (s.extract 1 s.size).data.toList = s.data.toList.drop 1 := by
    rw [ByteArray.data_extract, Array.toList_extract, List.extract_eq_take_drop]
    exact List.take_of_length_le (by rw [List.length_drop, hl]; omega)
  unfold phoneL
  rw [e0, e1, e2, b1, b2, hl, decide_eq_true h9, decide_eq_decide.2 (show s.size ≤ 16 ↔ (s.size : Int) ≤ 16 by omega), Bool.true_and]
theorem mail_cases {l a b : List UInt8} (h : cutL 64 l = some (a, b)) : mailL l = (decide (l.length ≤ 40) && (nameL a && hostL b)) := by
  unfold mailL
  rw [h]

set_option maxHeartbeats 4000000 in
set_option maxRecDepth 100000 in
theorem Kind_calls (w : World) (hM : ML w) (s : ByteArray) (hs : s.size ≤ 1000000) :
    Calls Tryd.prog 47 #[.string s] w fun e w' => e = .returned (.int .i64 (kindL s.data.toList)) ∧ Fr [] w w' := by
  have hl := len_size s
  have hc := cut_calls w hM s 64 hs
  obtain ⟨mb, hmb⟩ : ∃ mb, mb = mailL s.data.toList := ⟨_, rfl⟩
  obtain ⟨pb, hpb⟩ : ∃ pb, pb = phoneL s.data.toList := ⟨_, rfl⟩
  have hk : kindL s.data.toList = if mb then 1 else if pb then 2 else 0 := by rw [hmb, hpb]; rfl
  rw [hk]
  have hz := cutS_sizes 64 s
  have HC := Lib.hid hc
  have HMB := Lib.hid hmb
  have HPB := Lib.hid hpb
  have HL := Lib.hid hl
  have HM := Lib.hid hM
  clear hc hmb hpb hk hl hM
  go_enter Tryd.func47, Tryd.ntmps47
  go_wp2_with fail
  (with_reducible refine HC.out.mono ?_)
  rintro e w1 ⟨rfl, hf1⟩
  have HF1 := Lib.hid hf1
  have HM1 := Lib.hid (HM.out.keep hf1)
  clear hf1 HC
  obtain ⟨ca, hca⟩ : ∃ x, x = (cutS 64 s).1 := ⟨_, rfl⟩
  obtain ⟨cb, hcb⟩ : ∃ x, x = (cutS 64 s).2.1 := ⟨_, rfl⟩
  obtain ⟨ci, hci⟩ : ∃ x, x = (cutS 64 s).2.2 := ⟨_, rfl⟩
  have HCS := Lib.hid (show cutS 64 s = (ca, cb, ci) by rw [hca, hcb, hci])
  rw [← hca, ← hcb, ← hci]
  rw [← hca, ← hcb] at hz
  obtain ⟨hza, hzb⟩ := hz
  clear hca hcb hci
  have hn := fun W h => name_calls W h ca (by omega)
  have hh := fun W h => host_calls W h cb (by omega)
  have HN := Lib.hid hn
  have HH := Lib.hid hh
  clear hn hh
  go_upto_region 2 with fail
  go_cut [12] from 13 (fun s12 wx => s12 = .bool mb ∧ Hid (Fr [] w wx))
  case first =>
    cases ci with
    | false =>
      have hm0 : mb = false := by
        rw [HMB.out]
        have h := HCS.out
        unfold cutS at h
        unfold mailL
        cases hq : cutL 64 s.data.toList with
        | none => rfl
        | some p => rw [hq] at h; simp only [Prod.mk.injEq] at h; cases h.2.2
      clear HMB HCS
      subst hm0
      go_wp2_with fail
      go_meet
      exact ⟨rfl, HF1⟩
    | true =>
      obtain ⟨a, b, hab, rfl, rfl⟩ : ∃ a b, cutL 64 s.data.toList = some (a, b) ∧ ca = bL a ∧ cb = bL b := by
        have h := HCS.out
        unfold cutS at h
        cases hq : cutL 64 s.data.toList with
        | none => rw [hq] at h; simp only [Prod.mk.injEq] at h; cases h.2.2
        | some p => rw [hq] at h; simp only [Prod.mk.injEq] at h; exact ⟨p.1, p.2, rfl, h.1.symm, h.2.1.symm⟩
      have hmc : mb = (decide ((s.size : Int) ≤ 40) && (nameL a && hostL b)) := by
        rw [HMB.out, mail_cases hab, HL.out, decide_eq_decide.2 (show s.size ≤ 40 ↔ (s.size : Int) ≤ 40 by omega)]
      have hna := HN.out
      have hho := HH.out
      rw [bL_data] at hna hho
      generalize nameL a = na at *
      generalize hostL b = ho at *
      have HN2 := Lib.hid hna
      have HH2 := Lib.hid hho
      clear HN HH HMB HCS hna hho hab hza hzb
      by_cases h40 : (s.size : Int) ≤ 40
      · rw [decide_eq_true h40, Bool.true_and] at hmc
        cases na
        · rw [Bool.false_and] at hmc
          subst hmc
          go_wp2_with fail
          (with_reducible refine (HN2.out _ HM1.out).mono ?_)
          rintro e w2 ⟨rfl, hf2⟩
          have HF2 := Lib.hid (HF1.out.then hf2)
          clear hf2
          go_wp2_with fail
          go_meet
          exact ⟨rfl, HF2⟩
        · rw [Bool.true_and] at hmc
          go_wp2_with fail
          (with_reducible refine (HN2.out _ HM1.out).mono ?_)
          rintro e w2 ⟨rfl, hf2⟩
          have HF2 := Lib.hid (HF1.out.then hf2)
          clear hf2
          go_wp2_with fail
          (with_reducible refine (HH2.out _ (HM.out.keep HF2.out)).mono ?_)
          rintro e w3 ⟨rfl, hf3⟩
          have HF3 := Lib.hid (HF2.out.then hf3)
          clear hf3
          rw [← hmc]
          clear hmc
          go_wp2_with fail
          go_meet
          exact ⟨rfl, HF3⟩
      · rw [decide_eq_false h40, Bool.false_and] at hmc
        subst hmc
        go_wp2_with fail
        go_meet
        exact ⟨rfl, HF1⟩
  case rest =>
    obtain ⟨rfl, HF⟩ := hcut
    clear HF1 HM1 HCS HN HH HMB hza hzb
    cases mb with
    | true =>
      clear HPB
      go_wp2_with fail
      go_ret
      exact ⟨rfl, HF.out⟩
    | false =>
      by_cases h9 : (9 : Int) ≤ (s.size : Int)
      · have hpc := phone_cases s (by omega)
        have hod := fun W => only_digit W (s.extract 1 s.size)
        generalize ((s.extract 1 s.size).data.toList.all fun c => digN c.toNat) = al at hpc hod
        rw [← HPB.out] at hpc
        clear HPB
        by_cases h16 : (s.size : Int) ≤ 16
        · have hx0 : 0 < s.size := by omega
          have hx1 : 1 < s.size := by omega
          obtain ⟨d0, hd0⟩ : ∃ d : Bool, (((s[0]'hx0).toNat : Int) == 43) = d := ⟨_, rfl⟩
          obtain ⟨d1, hd1⟩ : ∃ d : Bool, (((s[1]'hx1).toNat : Int) != 48) = d := ⟨_, rfl⟩
          rw [decide_eq_true h16, hd0, hd1, Bool.true_and] at hpc
          have HO := Lib.hid hod
          clear hod
          cases d0
          · rw [Bool.false_and] at hpc
            subst hpc
            go_wp2_with fail
            go_ret
            exact ⟨rfl, HF.out⟩
          · cases d1
            · rw [Bool.true_and, Bool.false_and] at hpc
              subst hpc
              go_wp2_with fail
              go_ret
              exact ⟨rfl, HF.out⟩
            · rw [Bool.true_and, Bool.true_and] at hpc
              subst hpc
              cases pb
              all_goals
                go_wp2_with fail
                (with_reducible refine (HO.out _).mono ?_)
                rintro e w3 ⟨rfl, hf3⟩
                have HF3 := Lib.hid (HF.out.then hf3)
                clear hf3
                go_wp2_with fail
                go_ret
                exact ⟨rfl, HF3.out⟩
        · rw [decide_eq_false h16, Bool.false_and] at hpc
          subst hpc
          clear hod
          go_wp2_with fail
          go_ret
          exact ⟨rfl, HF.out⟩
      · have hp0 : pb = false := by
          rw [HPB.out]
          unfold phoneL
          rw [HL.out, decide_eq_false (show ¬ 9 ≤ s.size by omega), Bool.false_and]
        clear HPB
        subst hp0
        go_wp2_with fail
        go_ret
        exact ⟨rfl, HF.out⟩

set_option maxRecDepth 100000 in
theorem right_calls (w : World) (hM : ML w) (s : ByteArray) (hs : s.size ≤ 1000000) (k : Nat) {ki : Int} (hki : ki = k) {t : ByteArray} {b : Bool} (hr : (if kindL s.data.toList = k then (s, true) else (⟨#[]⟩, false)) = (t, b)) :
    Calls Tryd.prog 33 #[.string s, .int .i64 ki] w fun e w' => e = .returned (.tuple #[.string t, .bool b]) ∧ Fr [] w w' := by
  subst hki
  have hk := Kind_calls w hM s hs
  generalize kindL s.data.toList = kd at *
  clear hM
  by_cases h : kd = k
  · subst h
    rw [if_pos rfl] at hr
    injection hr with h1 h2
    subst h1 h2
    go_enter Tryd.func33, Tryd.ntmps33
    go_wp2_with fail
    (with_reducible refine hk.mono ?_)
    rintro e w1 ⟨rfl, hf⟩
    go_wp2_with fail
    go_ret2
    exact ⟨rfl, hf⟩
  · rw [if_neg h] at hr
    injection hr with h1 h2
    subst h1 h2
    have hne : ((kd : Int) != (k : Int)) = true := bne_iff_ne.2 (by omega)
    clear h
    go_enter Tryd.func33, Tryd.ntmps33
    go_wp2_with fail
    (with_reducible refine hk.mono ?_)
    rintro e w1 ⟨rfl, hf⟩
    go_wp2_with fail
    go_ret2
    exact ⟨rfl, hf⟩
end Go.Proofs.YtbeoegppldjpoaaDoor
