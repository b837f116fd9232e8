/- Addresses: the document's name, label. -/
import Derived.Test.YtbeoegppldjpoaaDoorRAddr1
namespace Go.Proofs.YtbeoegppldjpoaaDoor
open Go.RowKit Go.Lib
set_option linter.unusedVariables false
set_option linter.unusedSimpArgs false

theorem u8_test (c : UInt8) (d : UInt8) : ((c.toNat : Int) == (d.toNat : Int)) = (c == d) := by
  by_cases h : c = d
  · subst h; simp
  · rw [beq_eq_false_iff_ne.2 h, beq_eq_false_iff_ne.2 (fun e => h (UInt8.toNat_inj.1 (by omega)))]
theorem pvL_at (l : List UInt8) (i : Nat) (h0 : i ≠ 0) (h : i - 1 < l.length) : pvL l i = l[i - 1] := by
  unfold pvL
  rw [if_neg h0, List.getD_eq_getElem?_getD, List.getElem?_eq_getElem h]
  rfl

set_option maxHeartbeats 4000000 in
set_option maxRecDepth 100000 in
theorem rname_calls (w : World) (s : ByteArray) (hs : s.size ≤ 1000000) :
    Calls Tryd.prog 60 #[.string s] w fun e w' => e = .returned (.bool (nameL s.data.toList)) ∧ w' = w := by
  have hl := len_size s
  obtain ⟨R, hR⟩ : ∃ R, R = nameL s.data.toList := ⟨_, rfl⟩
  have hR1 : s.size ≠ 0 → R = nmS 46 s.data.toList := fun h => by
    rw [hR]
    exact nameL_nmS _ (fun e => h (by rw [← hl, e]; rfl))
  have hR0 : s.size = 0 → R = false := fun h => by
    rw [hR, List.eq_nil_of_length_eq_zero (hl.trans h)]
    rfl
  rw [← hR]
  have HR := Lib.hid (And.intro hR0 hR1)
  have HL := Lib.hid hl
  clear hR hR0 hR1 hl
  go_enter Tryd.func60, Tryd.ntmps60
  go_wp2_with fail
  go_loopw [3] (fun v3 wr => ∃ i : Nat, v3 = .int .i64 i ∧ i ≤ s.size ∧ wr = w ∧ Hid (nmS 46 s.data.toList = nmS (pvL s.data.toList i) (s.data.toList.drop i))) (fun v3 _ => s.size - (intOf v3).toNat)
  case atStart => exact ⟨0, rfl, Nat.zero_le _, rfl, rfl⟩
  case round =>
    obtain ⟨i, rfl, hi, hwr, H⟩ := hrel
    have HW := Lib.hid hwr
    clear hwr
    by_cases hlt : i < s.size
    · have hil : i < s.data.toList.length := by rw [HL.out]; exact hlt
      have hst := nmS_step s.data.toList i hil
      have hg : s.data.toList[i] = s[i]'hlt := rfl
      rw [hg, HL.out] at hst
      have hRe : R = nmS (pvL s.data.toList i) (s.data.toList.drop i) := by rw [HR.out.2 (by omega)]; exact H.out
      rw [hst] at hRe
      have hH := H.out
      rw [hst] at hH
      clear hst H hg
      have hlc : ∀ x : Int, x = ((s[i]'hlt).toNat : Int) → Calls Tryd.prog 77 #[.int .u8 x] wr fun e w' => e = .returned (.bool (letN (s[i]'hlt).toNat)) ∧ w' = wr := fun x h => by rw [h]; exact rletter_calls wr (s[i]'hlt).toNat
      have h256 := (s[i]'hlt).toNat_lt
      have hi1 : i ≠ 0 → ((i : Int) - 1).toNat < s.size := fun h => by omega
      obtain ⟨d, hd⟩ : ∃ d, (s[i]'hlt).toNat = d := ⟨_, rfl⟩
      rw [hd] at hlc hRe hH h256
      have hno := let46 d
      generalize letN d = le at *
      cases le
      · by_cases h95 : d = 95
        · have hn : nmS 46 s.data.toList = nmS (pvL s.data.toList (i + 1)) (s.data.toList.drop (i + 1)) := by
            rw [hH, decide_eq_true h95, Bool.false_or, Bool.true_or, Bool.true_or, Bool.true_and]
          have HN := Lib.hid hn
          have HC := Lib.hid hlc
          have hd0 : ((s[i]'hlt).toNat : Int) = 95 := by omega
          clear hn hlc hRe hH hno
          go_wp2_with fail
          (with_reducible refine (HC.out _ (by omega)).mono ?_)
          rintro e w1 ⟨rfl, rfl⟩
          go_wp2_with fail
          exact ⟨⟨i + 1, by go_num, by omega, HW.out, HN⟩, by simp only [intOf]; omega⟩
        · by_cases h45 : d = 45
          · have hn : nmS 46 s.data.toList = nmS (pvL s.data.toList (i + 1)) (s.data.toList.drop (i + 1)) := by
              rw [hH, decide_eq_true h45, Bool.or_true, Bool.true_or, Bool.true_and]
            have HN := Lib.hid hn
            have HC := Lib.hid hlc
            have hd0 : ((s[i]'hlt).toNat : Int) = 45 := by omega
            clear hn hlc hRe hH hno h95
            go_wp2_with fail
            (with_reducible refine (HC.out _ (by omega)).mono ?_)
            rintro e w1 ⟨rfl, rfl⟩
            go_wp2_with fail
            exact ⟨⟨i + 1, by go_num, by omega, HW.out, HN⟩, by simp only [intOf]; omega⟩
          · rw [decide_eq_false h95, decide_eq_false h45] at hRe hH
            by_cases h46 : d = 46
            · rw [decide_eq_true h46] at hRe hH
              have hd0 : ((s[i]'hlt).toNat : Int) = 46 := by omega
              by_cases h0 : i = 0
              · have hRf : R = false := by
                  rw [hRe, show (pvL s.data.toList i == 46) = true from by rw [h0]; rfl]
                  rfl
                have HC := Lib.hid hlc
                clear hlc hRe hH hno h95 h45 HR hi1
                subst hRf
                subst h0
                go_wp2_with fail
                (with_reducible refine (HC.out _ (by omega)).mono ?_)
                rintro e w1 ⟨rfl, rfl⟩
                go_wp2_with fail
                go_ret
                exact ⟨rfl, HW.out⟩
              · by_cases hz : i + 1 = s.size
                · have hRf : R = false := by
                    rw [hRe, decide_eq_true hz]
                    simp
                  have HC := Lib.hid hlc
                  have hz' : ((i : Int) == (s.size : Int) - 1) = true := beq_iff_eq.2 (by omega)
                  clear hlc hRe hH hno h95 h45 HR hi1
                  subst hRf
                  go_wp2_with fail
                  (with_reducible refine (HC.out _ (by omega)).mono ?_)
                  rintro e w1 ⟨rfl, rfl⟩
                  go_wp2_with fail
                  go_ret
                  exact ⟨rfl, HW.out⟩
                · have hi2 := hi1 h0
                  have hp : pvL s.data.toList i = s[((i : Int) - 1).toNat]'hi2 := by
                    rw [pvL_at _ _ h0 (by rw [HL.out]; omega)]
                    have : ((i : Int) - 1).toNat = i - 1 := by omega
                    simp only [this]
                    rfl
                  have ht := u8_test (s[((i : Int) - 1).toNat]'hi2) 46
                  rw [hp] at hRe hH
                  rw [decide_eq_false hz] at hRe hH
                  have hz' : ((i : Int) == (s.size : Int) - 1) = false := beq_eq_false_iff_ne.2 (by omega)
                  have h0' : ((i : Int) == 0) = false := beq_eq_false_iff_ne.2 (by omega)
                  have hw1 : IntKind.i64.wrap ((i : Int) - 1) = (i : Int) - 1 := by rw [IntKind.wrap_i64]; omega
                  have hj0 : (0 : Int) ≤ (i : Int) - 1 := by omega
                  have hj1 : (i : Int) - 1 < (s.size : Int) := by omega
                  obtain ⟨q, hq⟩ : ∃ q, (s[((i : Int) - 1).toNat]'hi2 == 46) = q := ⟨_, rfl⟩
                  rw [hq] at hRe hH ht
                  have hi3 : i - 1 < s.size := by omega
                  have ht' : (((s[i - 1]'hi3).toNat : Int) == 46) = q := by
                    rw [← ht]
                    have : ((i : Int) - 1).toNat = i - 1 := by omega
                    simp only [this]
                    rfl
                  have h1i : (1 : Int) ≤ (i : Int) := by omega
                  cases q
                  · have hn : nmS 46 s.data.toList = nmS (pvL s.data.toList (i + 1)) (s.data.toList.drop (i + 1)) := hH
                    have HN := Lib.hid hn
                    have HC := Lib.hid hlc
                    clear hn hlc hRe hH hno h95 h45 ht hq hp hi1
                    go_wp2_with fail
                    (with_reducible refine (HC.out _ (by omega)).mono ?_)
                    rintro e w1 ⟨rfl, rfl⟩
                    go_wp2_with fail
                    exact ⟨⟨i + 1, by go_num, by omega, HW.out, HN⟩, by simp only [intOf]; omega⟩
                  · have hRf : R = false := hRe
                    have HC := Lib.hid hlc
                    clear hlc hRe hH hno h95 h45 HR ht hq hp hi1
                    subst hRf
                    go_wp2_with fail
                    (with_reducible refine (HC.out _ (by omega)).mono ?_)
                    rintro e w1 ⟨rfl, rfl⟩
                    go_wp2_with fail
                    go_ret
                    exact ⟨rfl, HW.out⟩
            · have hRf : R = false := by
                rw [hRe, decide_eq_false h46]
                rfl
              have HC := Lib.hid hlc
              have hd5 : ¬ ((s[i]'hlt).toNat : Int) = 95 := by omega
              have hd4 : ¬ ((s[i]'hlt).toNat : Int) = 45 := by omega
              have hd6 : ¬ ((s[i]'hlt).toNat : Int) = 46 := by omega
              clear hlc hRe hH hno h95 h45 HR hi1
              subst hRf
              go_wp2_with fail
              (with_reducible refine (HC.out _ (by omega)).mono ?_)
              rintro e w1 ⟨rfl, rfl⟩
              go_wp2_with fail
              go_ret
              exact ⟨rfl, HW.out⟩
      · have hn : nmS 46 s.data.toList = nmS (pvL s.data.toList (i + 1)) (s.data.toList.drop (i + 1)) := by
          rw [hH, Bool.true_or, Bool.true_or, Bool.true_or, Bool.true_and]
        have HN := Lib.hid hn
        have HC := Lib.hid hlc
        have h46 := hno rfl
        have hd6 : ¬ ((s[i]'hlt).toNat : Int) = 46 := by omega
        clear hn hlc hRe hH hno
        go_wp2_with fail
        (with_reducible refine (HC.out _ (by omega)).mono ?_)
        rintro e w1 ⟨rfl, rfl⟩
        go_wp2_with fail
        exact ⟨⟨i + 1, by go_num, by omega, HW.out, HN⟩, by simp only [intOf]; omega⟩
    · obtain rfl : i = s.size := by omega
      by_cases h0 : s.size = 0
      · have hRf := HR.out.1 h0
        clear HR H HL
        subst hRf
        have h0' : (s.size : Int) = 0 := by omega
        go_wp2_with fail
        go_ret
        exact ⟨by first | rfl | (congr; exact decide_eq_false (by omega)), HW.out⟩
      · have hRt : R = true := by
          rw [HR.out.2 h0, H.out, ← HL.out, List.drop_length]
          rfl
        clear HR H HL
        subst hRt
        have h0' : (1 : Int) ≤ (s.size : Int) := by omega
        go_wp2_with fail
        go_ret
        exact ⟨by first | rfl | (congr; exact decide_eq_true (by omega)), HW.out⟩

end Go.Proofs.YtbeoegppldjpoaaDoor
