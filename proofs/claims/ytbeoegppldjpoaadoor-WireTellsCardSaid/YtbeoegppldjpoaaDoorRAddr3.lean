/- Addresses: the document's label, host. -/
import Derived.Test.YtbeoegppldjpoaaDoorRAddr2
namespace Go.Proofs.YtbeoegppldjpoaaDoor
open Go.RowKit Go.Lib
set_option linter.unusedVariables false
set_option linter.unusedSimpArgs false

def lbS (b : Bool) : List UInt8 → Bool
  | [] => true
  | x :: r => (letN x.toNat || (decide (x.toNat = 45) && (!b && !r.isEmpty))) && lbS false r
theorem let45 : letN 45 = false := by decide
theorem lbS_eq : ∀ (r : List UInt8) (b : Bool) (x : UInt8), lbS b (x :: r) = (!(b && x == 45) && ((x :: r).getLast? != some 45 && (x :: r).all fun c => lbN c.toNat))
  | [], b, x => by
    by_cases h : x = 45
    · subst h
      simp [lbS, let45]
    · have h' : ¬ x.toNat = 45 := fun e => h (UInt8.toNat_inj.1 e)
      have hb : (x == 45) = false := beq_eq_false_iff_ne.2 h
      have hs : (some x != some (45 : UInt8)) = true := bne_iff_ne.2 (fun e => h (Option.some.inj e))
      simp [lbS, lbN, h', hb, hs]
  | y :: r, b, x => by
    have ih := lbS_eq r false y
    rw [lbS, ih, List.getLast?_cons_cons]
    by_cases h : x = 45
    · subst h
      have h1 : letN (45 : UInt8).toNat = false := let45
      simp only [h1, List.all_cons, lbN, List.isEmpty_cons, Bool.false_and]
      generalize ((y :: r).getLast? != some 45) = v
      generalize r.all _ = a
      generalize letN y.toNat = z
      generalize decide (y.toNat = 45) = q
      cases b <;> cases v <;> cases a <;> cases z <;> cases q <;> rfl
    · have h' : ¬ x.toNat = 45 := fun e => h (UInt8.toNat_inj.1 e)
      have hb : (x == 45) = false := beq_eq_false_iff_ne.2 h
      simp only [List.all_cons, lbN, decide_eq_false h', hb, Bool.and_false, Bool.false_and, Bool.or_false, Bool.not_false, Bool.true_and]
      generalize ((y :: r).getLast? != some 45) = v
      generalize r.all _ = a
      generalize letN y.toNat = z
      generalize decide (y.toNat = 45) = q
      generalize letN x.toNat = u
      cases v <;> cases a <;> cases z <;> cases q <;> cases u <;> rfl
theorem labelL_lbS (l : List UInt8) (h : l ≠ []) : labelL l = (decide (l.length ≤ 20) && lbS true l) := by
  cases l with
  | nil => exact absurd rfl h
  | cons x r =>
    rw [lbS_eq]
    unfold labelL
    have : ((x :: r).head? != some 45) = !(true && x == 45) := by
      by_cases h : x = 45
      · subst h; rfl
      · have hb : (x == 45) = false := beq_eq_false_iff_ne.2 h
        have hs : (some x != some (45 : UInt8)) = true := bne_iff_ne.2 (fun e => h (Option.some.inj e))
        rw [List.head?_cons, hs, hb]
        rfl
    rw [this]
    rfl
theorem lbS_step (l : List UInt8) (i : Nat) (h : i < l.length) : lbS (decide (i = 0)) (l.drop i) =
    ((letN (l[i]).toNat || (decide ((l[i]).toNat = 45) && (!decide (i = 0) && !decide (i + 1 = l.length)))) && lbS (decide (i + 1 = 0)) (l.drop (i + 1))) := by
  rw [List.drop_eq_getElem_cons h, lbS]
  have e1 : (l.drop (i + 1)).isEmpty = decide (i + 1 = l.length) := by
    by_cases he : i + 1 = l.length
    · rw [decide_eq_true he, he, List.drop_length]
      rfl
    · rw [decide_eq_false he, List.drop_eq_getElem_cons (by omega)]
      rfl
  rw [e1, decide_eq_false (show ¬ i + 1 = 0 by omega)]

set_option maxHeartbeats 4000000 in
set_option maxRecDepth 100000 in
theorem rlabel_calls (w : World) (s : ByteArray) (hs : s.size ≤ 1000000) :
    Calls Tryd.prog 78 #[.string s] w fun e w' => e = .returned (.bool (labelL s.data.toList)) ∧ w' = w := by
  have hl := len_size s
  obtain ⟨R, hR⟩ : ∃ R, R = labelL s.data.toList := ⟨_, rfl⟩
  have hR1 : s.size ≠ 0 → R = (decide (s.size ≤ 20) && lbS true s.data.toList) := fun h => by
    rw [hR, ← hl]
    exact labelL_lbS _ (fun e => h (by rw [← hl, e]; rfl))
  have hR0 : s.size = 0 → R = false := fun h => by
    rw [hR, List.eq_nil_of_length_eq_zero (hl.trans h)]
    rfl
  rw [← hR]
  have HR := Lib.hid (And.intro hR0 hR1)
  have HL := Lib.hid hl
  clear hR hR0 hR1 hl
  go_enter Tryd.func78, Tryd.ntmps78
  go_wp2_with fail
  go_loopw [3] (fun v3 wr => ∃ i : Nat, v3 = .int .i64 i ∧ i ≤ s.size ∧ wr = w ∧ Hid (lbS true s.data.toList = lbS (decide (i = 0)) (s.data.toList.drop i))) (fun v3 _ => s.size - (intOf v3).toNat)
  case atStart => exact ⟨0, rfl, Nat.zero_le _, rfl, rfl⟩
  case round =>
    obtain ⟨i, rfl, hi, hwr, H⟩ := hrel
    have HW := Lib.hid hwr
    clear hwr
    by_cases hlt : i < s.size
    · have hil : i < s.data.toList.length := by rw [HL.out]; exact hlt
      have hst := lbS_step s.data.toList i hil
      have hg : s.data.toList[i] = s[i]'hlt := rfl
      rw [hg, HL.out] at hst
      have hRe : R = (decide (s.size ≤ 20) && lbS (decide (i = 0)) (s.data.toList.drop i)) := by rw [HR.out.2 (by omega), H.out]
      rw [hst] at hRe
      have hH := H.out
      rw [hst] at hH
      clear hst H hg
      have hlc : ∀ x : Int, x = ((s[i]'hlt).toNat : Int) → Calls Tryd.prog 77 #[.int .u8 x] wr fun e w' => e = .returned (.bool (letN (s[i]'hlt).toNat)) ∧ w' = wr := fun x h => by rw [h]; exact rletter_calls wr (s[i]'hlt).toNat
      have h256 := (s[i]'hlt).toNat_lt
      obtain ⟨d, hd⟩ : ∃ d, (s[i]'hlt).toNat = d := ⟨_, rfl⟩
      rw [hd] at hlc hRe hH h256
      generalize letN d = le at *
      cases le
      · by_cases h45 : d = 45
        · rw [decide_eq_true h45] at hRe hH
          have hd0 : ((s[i]'hlt).toNat : Int) = 45 := by omega
          by_cases h0 : i = 0
          · have hRf : R = false := by
              rw [hRe, decide_eq_true h0]
              simp
            have HC := Lib.hid hlc
            clear hlc hRe hH HR
            subst hRf
            subst h0
            go_wp2_with fail
            (with_reducible refine (HC.out _ (by omega)).mono ?_)
            rintro e w1 ⟨rfl, rfl⟩
            go_wp2_with fail
            go_ret
            exact ⟨rfl, HW.out⟩
          · have h0' : ((i : Int) == 0) = false := beq_eq_false_iff_ne.2 (by omega)
            by_cases hz : i + 1 = s.size
            · have hRf : R = false := by
                rw [hRe, decide_eq_true hz]
                simp
              have HC := Lib.hid hlc
              have hz' : ((i : Int) == (s.size : Int) - 1) = true := beq_iff_eq.2 (by omega)
              clear hlc hRe hH HR
              subst hRf
              go_wp2_with fail
              (with_reducible refine (HC.out _ (by omega)).mono ?_)
              rintro e w1 ⟨rfl, rfl⟩
              go_wp2_with fail
              go_ret
              exact ⟨rfl, HW.out⟩
            · have hz' : ((i : Int) == (s.size : Int) - 1) = false := beq_eq_false_iff_ne.2 (by omega)
              have hn : lbS true s.data.toList = lbS (decide (i + 1 = 0)) (s.data.toList.drop (i + 1)) := by
                rw [hH, decide_eq_false h0, decide_eq_false hz]
                rfl
              have HN := Lib.hid hn
              have HC := Lib.hid hlc
              clear hn hlc hRe hH
              go_wp2_with fail
              (with_reducible refine (HC.out _ (by omega)).mono ?_)
              rintro e w1 ⟨rfl, rfl⟩
              go_wp2_with fail
              exact ⟨⟨i + 1, by go_num, by omega, HW.out, HN⟩, by simp only [intOf]; omega⟩
        · have hRf : R = false := by
            rw [hRe, decide_eq_false h45]
            simp
          have HC := Lib.hid hlc
          have hd4 : ¬ ((s[i]'hlt).toNat : Int) = 45 := by omega
          clear hlc hRe hH HR
          subst hRf
          go_wp2_with fail
          (with_reducible refine (HC.out _ (by omega)).mono ?_)
          rintro e w1 ⟨rfl, rfl⟩
          go_wp2_with fail
          go_ret
          exact ⟨rfl, HW.out⟩
      · have hn : lbS true s.data.toList = lbS (decide (i + 1 = 0)) (s.data.toList.drop (i + 1)) := by
          rw [hH, Bool.true_or, Bool.true_and]
        have HN := Lib.hid hn
        have HC := Lib.hid hlc
        clear hn hlc hRe hH
        go_wp2_with fail
        (with_reducible refine (HC.out _ (by omega)).mono ?_)
        rintro e w1 ⟨rfl, rfl⟩
        go_wp2_with fail
        exact ⟨⟨i + 1, by go_num, by omega, HW.out, HN⟩, by simp only [intOf]; omega⟩
    · obtain rfl : i = s.size := by omega
      by_cases h0 : s.size = 0
      · have hRf := HR.out.1 h0
        clear HR H HL
        subst hRf
        have h0' : ¬ (1 : Int) ≤ (s.size : Int) := by omega
        go_wp2_with fail
        go_ret
        exact ⟨by first | rfl | (congr; exact decide_eq_false (by omega)), HW.out⟩
      · have hRt : R = decide (s.size ≤ 20) := by
          rw [HR.out.2 h0, H.out, ← HL.out, List.drop_length]
          simp [lbS]
        clear HR H HL
        have h0' : (1 : Int) ≤ (s.size : Int) := by omega
        by_cases h20 : (s.size : Int) ≤ 20
        · rw [decide_eq_true (by omega)] at hRt
          subst hRt
          go_wp2_with fail
          go_ret
          exact ⟨by first | rfl | (congr; exact decide_eq_true (by omega)), HW.out⟩
        · rw [decide_eq_false (by omega)] at hRt
          subst hRt
          go_wp2_with fail
          go_ret
          exact ⟨by first | rfl | (congr; exact decide_eq_false (by omega)), HW.out⟩

end Go.Proofs.YtbeoegppldjpoaaDoor
