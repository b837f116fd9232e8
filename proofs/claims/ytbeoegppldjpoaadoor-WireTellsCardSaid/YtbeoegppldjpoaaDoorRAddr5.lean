/- Addresses: the document's isMail, isPhone, Kind. -/
import Derived.Test.YtbeoegppldjpoaaDoorRAddr4
namespace Go.Proofs.YtbeoegppldjpoaaDoor
open Go.RowKit Go.Lib
set_option linter.unusedVariables false
set_option linter.unusedSimpArgs false

set_option maxHeartbeats 4000000 in
set_option maxRecDepth 100000 in
theorem rmail_calls (w : World) (s : ByteArray) (hs : s.size ≤ 1000000) :
    Calls Tryd.prog 48 #[.string s] w fun e w' => e = .returned (.bool (mailL s.data.toList)) ∧ w' = w := by
  have hl := len_size s
  obtain ⟨R, hR⟩ : ∃ R, R = mailL s.data.toList := ⟨_, rfl⟩
  rw [← hR]
  have HR := Lib.hid hR
  have HL := Lib.hid hl
  clear hR hl
  go_enter Tryd.func48, Tryd.ntmps48
  go_wp2_with fail
  go_loopw [3] (fun v3 wr => ∃ i : Nat, v3 = .int .i64 i ∧ i ≤ s.size ∧ wr = w ∧ Hid (64 ∉ s.data.toList.take i)) (fun v3 _ => s.size - (intOf v3).toNat)
  case atStart => exact ⟨0, rfl, Nat.zero_le _, rfl, show 64 ∉ s.data.toList.take 0 by simp⟩
  case round =>
    obtain ⟨i, rfl, hi, hwr, H⟩ := hrel
    have HW := Lib.hid hwr
    clear hwr
    by_cases hlt : i < s.size
    · have hil : i < s.data.toList.length := by rw [HL.out]; exact hlt
      have hg : s.data.toList[i] = s[i]'hlt := rfl
      by_cases h64 : s[i]'hlt = 64
      · have he : s.data.toList = s.data.toList.take i ++ 64 :: s.data.toList.drop (i + 1) := by
          rw [← h64, ← hg, ← List.drop_eq_getElem_cons hil, List.take_append_drop]
        have hcut : cutL 64 s.data.toList = some (s.data.toList.take i, s.data.toList.drop (i + 1)) := (congrArg (cutL 64) he).trans (cutL_app _ H.out)
        have hRe : R = (decide (s.size ≤ 40) && (nameL (s.data.toList.take i) && hostL (s.data.toList.drop (i + 1)))) := by
          rw [HR.out]
          unfold mailL
          rw [hcut, HL.out]
        have hd0 : ((s[i]'hlt).toNat : Int) = 64 := by rw [h64]; rfl
        have hc1 := rname_calls wr (s.extract 0 i) (by rw [ByteArray.size_extract]; omega)
        have hc2 := fun W => rhost_calls W (s.extract (i + 1) s.size) (by rw [ByteArray.size_extract]; omega)
        rw [ext_take] at hc1
        simp only [ext_drop] at hc2
        generalize nameL (s.data.toList.take i) = na at *
        generalize hostL (s.data.toList.drop (i + 1)) = ho at *
        have HC1 := Lib.hid hc1
        have HC2 := Lib.hid hc2
        have HRe := Lib.hid hRe
        clear hc1 hc2 hRe hcut he h64 hg HR H hil
        cases na
        · have hRf : R = false := by rw [HRe.out]; simp
          subst hRf
          clear HRe
          go_wp2_with fail
          (with_reducible refine HC1.out.mono ?_)
          rintro e w1 ⟨rfl, rfl⟩
          go_wp2_with fail
          (with_reducible refine (HC2.out _).mono ?_)
          rintro e w2 ⟨rfl, rfl⟩
          go_wp2_with fail
          go_ret
          exact ⟨rfl, HW.out⟩
        · cases ho
          · have hRf : R = false := by rw [HRe.out]; simp
            subst hRf
            clear HRe
            go_wp2_with fail
            (with_reducible refine HC1.out.mono ?_)
            rintro e w1 ⟨rfl, rfl⟩
            go_wp2_with fail
            (with_reducible refine (HC2.out _).mono ?_)
            rintro e w2 ⟨rfl, rfl⟩
            go_wp2_with fail
            go_ret
            exact ⟨rfl, HW.out⟩
          · by_cases h40 : (s.size : Int) ≤ 40
            · have hRf : R = true := by rw [HRe.out, decide_eq_true (by omega)]; rfl
              subst hRf
              clear HRe
              go_wp2_with fail
              (with_reducible refine HC1.out.mono ?_)
              rintro e w1 ⟨rfl, rfl⟩
              go_wp2_with fail
              (with_reducible refine (HC2.out _).mono ?_)
              rintro e w2 ⟨rfl, rfl⟩
              go_wp2_with fail
              go_ret
              exact ⟨rfl, HW.out⟩
            · have hRf : R = false := by rw [HRe.out, decide_eq_false (by omega)]; rfl
              subst hRf
              clear HRe
              go_wp2_with fail
              (with_reducible refine HC1.out.mono ?_)
              rintro e w1 ⟨rfl, rfl⟩
              go_wp2_with fail
              (with_reducible refine (HC2.out _).mono ?_)
              rintro e w2 ⟨rfl, rfl⟩
              go_wp2_with fail
              go_ret
              exact ⟨by show Ending.returned (Value.bool (decide ((s.size : Int) ≤ 40))) = _; rw [decide_eq_false (show ¬ (s.size : Int) ≤ 40 by omega)], HW.out⟩
      · have hd0 : ¬ ((s[i]'hlt).toNat : Int) = 64 := fun e => h64 (UInt8.toNat_inj.1 (by show _ = 64; omega))
        have hno : 64 ∉ s.data.toList.take (i + 1) := by
          rw [List.take_succ_eq_append_getElem hil, hg]
          simp [H.out, Ne.symm h64]
        have HN := Lib.hid hno
        clear hno hg h64 H
        go_wp2_with fail
        exact ⟨⟨i + 1, by go_num, by omega, HW.out, HN⟩, by simp only [intOf]; omega⟩
    · obtain rfl : i = s.size := by omega
      have hRf : R = false := by
        have h := H.out
        rw [← HL.out, List.take_length] at h
        rw [HR.out]
        unfold mailL
        rw [cutL_not h]
      clear HR H HL
      subst hRf
      go_wp2_with fail
      go_ret
      exact ⟨rfl, HW.out⟩

theorem all_drop_step (l : List UInt8) (i : Nat) (h : i < l.length) : ((l.drop i).all fun c => digN c.toNat) = (digN (l[i]).toNat && (l.drop (i + 1)).all fun c => digN c.toNat) := by
  rw [List.drop_eq_getElem_cons h, List.all_cons]

end Go.Proofs.YtbeoegppldjpoaaDoor
