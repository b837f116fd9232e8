/- Addresses: the document's Any and Mask. -/
import Derived.Test.YtfaopjoglgmoiaaDoorRAddr7
namespace Go.Proofs.YtfaopjoglgmoiaaDoor
open Go.RowKit Go.Lib
set_option linter.unusedVariables false
set_option linter.unusedSimpArgs false

set_option maxHeartbeats 4000000 in
set_option maxRecDepth 100000 in
theorem RAny_calls (w : World) (s : ByteArray) (hs : s.size ≤ 100000) :
    Calls Tryd.prog 27 #[.string s] w fun e w' => e = .returned (.tuple #[.string (anyS s.data.toList).1, .bool (anyS s.data.toList).2]) ∧ Fr [] w w' := by
  have h1 := RMail_calls w s hs
  have h2 := fun W => RPhone_calls W s hs
  obtain ⟨a1, b1, e1⟩ : ∃ a b, mailS s.data.toList = (a, b) := ⟨_, _, rfl⟩
  obtain ⟨a2, b2, e2⟩ : ∃ a b, phoneS s.data.toList = (a, b) := ⟨_, _, rfl⟩
  have e3 : anyS s.data.toList = if b1 then (a1, true) else (a2, b2) := by
    unfold mailS mailR at e1
    unfold phoneS at e2
    unfold anyS anyR
    split at e1
    · rename_i hm
      injection e1 with f1 f2
      subst f1 f2
      rw [if_pos hm]
      rfl
    · rename_i hm
      injection e1 with f1 f2
      subst f2
      rw [if_neg hm, e2]
      rfl
  rw [e1] at h1
  rw [e2] at h2
  rw [e3]
  simp only at h1 h2
  have H1 := Lib.hid h1
  have H2 := Lib.hid h2
  clear h1 h2 e1 e2 e3
  cases b1
  · go_enter Tryd.func27, Tryd.ntmps27
    go_wp2_with fail
    (with_reducible refine H1.out.mono ?_)
    rintro e w1 ⟨rfl, hf1⟩
    have HF1 := Lib.hid hf1
    clear hf1
    go_wp2_with fail
    (with_reducible refine (H2.out _).mono ?_)
    rintro e w2 ⟨rfl, hf2⟩
    have HF2 := Lib.hid (HF1.out.then hf2)
    clear hf2
    go_wp2_with fail
    go_ret2
    exact ⟨rfl, HF2.out⟩
  · go_enter Tryd.func27, Tryd.ntmps27
    go_wp2_with fail
    (with_reducible refine H1.out.mono ?_)
    rintro e w1 ⟨rfl, hf1⟩
    have HF1 := Lib.hid hf1
    clear hf1
    go_wp2_with fail
    go_ret2
    exact ⟨rfl, HF1.out⟩

set_option maxHeartbeats 4000000 in
set_option maxRecDepth 100000 in
theorem RMask_calls (w : World) (s : ByteArray) (hs : s.size ≤ 100000) :
    Calls Tryd.prog 28 #[.string s] w fun e w' => e = .returned (.string (bL (maskL s.data.toList))) ∧ Fr [] w w' := by
  have hk := RKind_calls w s (by omega)
  have hl := len_size s
  by_cases h1 : mailL s.data.toList = true
  · obtain ⟨a, b, hab, e, h40, hna, hho⟩ := mail_parts h1
    rw [(kind_one _).2 h1] at hk
    have ha1 : 1 ≤ a.length := by
      cases a with
      | nil => cases hna
      | cons x a => simp
    have hsz : a.length + 1 + b.length = s.size := by
      rw [← hl, e, List.length_append, List.length_cons]; omega
    have hres : s.extract 0 1 ++ ⟨#[42, 42, 42]⟩ ++ s.extract a.length s.size = bL (maskL s.data.toList) := by
      apply bL_of
      rw [ByteArray.data_append, ByteArray.data_append, Array.toList_append, Array.toList_append, ext_take, ext_drop]
      unfold maskL
      rw [if_pos h1, hab]
      simp only [Option.map_some, Option.getD_some]
      congr 1
      conv => lhs; rw [e]
      exact List.drop_left' rfl
    have z1 : (s.extract 0 1).size = 1 := by rw [ByteArray.size_extract]; omega
    have z2 : (s.extract a.length s.size).size ≤ 40 := by rw [ByteArray.size_extract]; omega
    have hno := (cutL_some hab).2
    have hat : ∀ i (h : i < s.size), i < a.length → s[i]'h ≠ 64 := fun i h hi he => hno (by
      have h1 : s.data.toList[i]? = some (s[i]'h) := by rw [List.getElem?_eq_getElem (by omega)]; rfl
      rw [e, List.getElem?_append_left hi, he] at h1
      exact List.mem_of_getElem? h1)
    have haz : ∀ (h : a.length < s.size), s[a.length]'h = 64 := fun h => by
      have h1 : s.data.toList[a.length]? = some (s[a.length]'h) := by rw [List.getElem?_eq_getElem (by omega)]; rfl
      rw [e, List.getElem?_append_right (Nat.le_refl _), Nat.sub_self] at h1
      exact (Option.some.inj h1).symm
    rw [← hres]
    clear hres hab e hna hho h1 hno
    obtain ⟨k, hkk⟩ : ∃ k, k = a.length := ⟨_, rfl⟩
    rw [← hkk] at z2 hat haz ⊢
    have k2 : k < s.size := by omega
    have k3 : (1 : Int) ≤ (s.size : Int) := by omega
    have k4 : 1 ≤ s.size := by omega
    have g1 : (9223372036854775807 < (s.extract 0 1).size + 3) = False := eq_false (by omega)
    have g2 : (9223372036854775807 < (s.extract 0 1).size + 3 + (s.extract k s.size).size) = False := eq_false (by omega)
    have HAT := Lib.hid hat
    have HAZ := Lib.hid (haz k2)
    clear hat haz hkk hsz h40 ha1 z1 z2 hl
    go_enter Tryd.func28, Tryd.ntmps28
    go_wp2_with fail
    (with_reducible refine hk.mono ?_)
    rintro e w1 ⟨rfl, hw⟩
    have HW := Lib.hid hw
    clear hw hk
    go_wp2_with fail
    go_loopw [4] (fun v4 wr => ∃ i : Nat, v4 = .int .i64 i ∧ i ≤ k ∧ Hid (wr = w)) (fun v4 _ => s.size - (intOf v4).toNat)
    case atStart => exact ⟨0, rfl, Nat.zero_le _, HW⟩
    case round =>
      clear HW
      obtain ⟨i, rfl, hi, HW⟩ := hrel
      have hi0 : i < s.size := by omega
      by_cases hlt : i < k
      · have h64 := HAT.out i hi0 hlt
        have hd : ¬ ((s[i]'hi0).toNat : Int) = 64 := fun e => h64 (UInt8.toNat_inj.1 (by show _ = 64; omega))
        have hdb : (((s[i]'hi0).toNat : Int) == 64) = false := beq_eq_false_iff_ne.2 hd
        clear h64
        go_wp2_with fail
        exact ⟨⟨i + 1, by go_num, by omega, HW⟩, by simp only [intOf]; omega⟩
      · obtain rfl : i = k := by omega
        have hd : ((s[i]'hi0).toNat : Int) = 64 := by rw [HAZ.out]; rfl
        clear HAT HAZ
        go_wp2_with fail
        go_quiet (fail)
        go_wp2_with fail
        go_ret
        exact ⟨rfl, by rw [HW.out]; exact (Fr.refl _ _).drewN _⟩
  · have hm0 : mailL s.data.toList = false := by simpa using h1
    by_cases h2 : phoneL s.data.toList = true
    · rw [(kind_two _).2 h2] at hk
      have h16 := phone_short h2
      have h9 : 9 ≤ s.size := by
        unfold phoneL at h2
        simp only [Bool.and_eq_true, decide_eq_true_eq] at h2
        omega
      have hres : ⟨#[43, 42, 42, 42]⟩ ++ s.extract (s.size - 2) s.size = bL (maskL s.data.toList) := by
        apply bL_of
        rw [ByteArray.data_append, Array.toList_append, ext_drop]
        unfold maskL
        rw [hm0, h2, hl]
        rfl
      rw [← hres]
      have q1 : (0 : Int) ≤ (s.size : Int) - 2 := by omega
      have q2 : (s.size : Int) - 2 ≤ (s.size : Int) := by omega
      have q3 : ((s.size : Int) - 2).toNat = s.size - 2 := by omega
      have z2 : (s.extract (s.size - 2) s.size).size ≤ 40 := by rw [ByteArray.size_extract]; omega
      have g1 : (9223372036854775807 < 4 + (s.extract (s.size - 2) s.size).size) = False := eq_false (by omega)
      clear hres h2 hm0 h1 hl
      go_enter Tryd.func28, Tryd.ntmps28
      go_wp2_with fail
      (with_reducible refine hk.mono ?_)
      rintro e w1 ⟨rfl, hw⟩
      have HF := Lib.hid hw
      clear hw hk
      go_wp2_with fail
      go_ret
      exact ⟨rfl, by rw [HF.out]; exact Fr.refl _ _⟩
    · have hp0 : phoneL s.data.toList = false := by simpa using h2
      rw [show kindL s.data.toList = 0 from by unfold kindL; rw [hm0, hp0]; rfl] at hk
      rw [show maskL s.data.toList = [42, 42, 42] from by unfold maskL; rw [hm0, hp0]; rfl]
      clear h1 h2 hm0 hp0 hl
      go_enter Tryd.func28, Tryd.ntmps28
      go_wp2_with fail
      (with_reducible refine hk.mono ?_)
      rintro e w1 ⟨rfl, hw⟩
      have HF := Lib.hid hw
      clear hw hk
      go_wp2_with fail
      go_loopw [4] (fun v4 wr => v4 = .int .i64 0 ∧ Hid (wr = w)) (fun v4 _ => 1)
      case atStart => exact ⟨rfl, HF⟩
      case round =>
        clear HF
        obtain ⟨rfl, HF⟩ := hrel
        by_cases h0 : (0 : Int) < (s.size : Int)
        · go_wp2_with fail
          go_ret
          exact ⟨rfl, by rw [HF.out]; exact Fr.refl _ _⟩
        · go_wp2_with fail
          go_ret
          exact ⟨rfl, by rw [HF.out]; exact Fr.refl _ _⟩
end Go.Proofs.YtfaopjoglgmoiaaDoor
