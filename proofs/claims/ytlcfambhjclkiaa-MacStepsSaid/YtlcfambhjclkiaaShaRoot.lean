/- Contracts of the document's layer 6: root, primes. -/
import Derived.Test.YtlcfambhjclkiaaShaRef
import Derived.Deep.Cut
import Derived.Deep.CutRange
import Derived.Laws.ShiftsVarLaws
namespace Go.Proofs.Ytlcfambhjclkiaa
open Go.RowKit
set_option linter.unusedVariables false
set_option linter.unusedSimpArgs false

theorem rtAt_le (p : Nat) (third : Bool) : ∀ j, rtAt p third j ≤ j * 17179869184
  | 0 => by rw [rtAt]; exact Nat.zero_le _
  | j + 1 => by
    have ih := rtAt_le p third j
    rw [rtAt]
    by_cases h : (decide (36 - j ≤ 34) && !rtOver p (rtAt p third j + 2 ^ (36 - j)) third) = true
    · rw [if_pos h]
      simp only [Bool.and_eq_true, decide_eq_true_eq] at h
      have h2 : 2 ^ (36 - j) ≤ 17179869184 := Nat.pow_le_pow_right (n := 2) (by decide) h.1
      rw [Nat.succ_mul]
      exact Nat.add_le_add ih h2
    · rw [if_neg h, Nat.succ_mul]
      exact Nat.le_trans ih (Nat.le_add_right _ _)
/-- Above the prime, by the two halves of its power. -/
def over2 (p q0 q1 : Nat) : Bool := decide (p < q0) || (q0 == p && decide (0 < q1))
def over3 (p r0 r1 : Nat) : Bool := decide (p < r0 / 4294967296) || (r0 / 4294967296 == p && (decide (0 < r0 % 4294967296) || decide (0 < r1)))
theorem sz22 (a b c d : Value) : (#[a, b] : Array Value).size = (#[c, d] : Array Value).size := rfl
theorem rtOver_false (p t : Nat) : rtOver p t false = over2 p (timesP t 0 t).1 (timesP t 0 t).2 := rfl
theorem rtOver_true (p t : Nat) : rtOver p t true = over3 p (timesP t (timesP t 0 t).1 (timesP t 0 t).2).1 (timesP t (timesP t 0 t).1 (timesP t 0 t).2).2 := rfl
theorem timesP_lt (a hi lo : Nat) : (timesP a hi lo).1 < 18446744073709551616 ∧ (timesP a hi lo).2 < 18446744073709551616 := ⟨Nat.mod_lt _ (by decide), Nat.mod_lt _ (by decide)⟩

set_option maxHeartbeats 4000000 in
set_option maxRecDepth 100000 in
theorem root_calls (w : World) (p : Nat) {pi : Int} (hpi : pi = p) (hp : p < 18446744073709551616) (third : Bool) :
    Calls Try.prog 38 #[.int .u64 pi, .bool third] w fun e w' => e = .returned (.int .u32 (rootP p third : Nat)) ∧ Fr [] w w' := by
  subst hpi
  have HR : Hid (rootP p third = rtAt p third 37 % 4294967296) := Lib.hid rfl
  go_enter Try.func38, Try.ntmps38
  go_wp2_with fail
  go_loopw [5, 6, 7, 8, 9] (fun v5 v6 v7 v8 v9 wr => ∃ m : Nat, m ≤ 37 ∧ v6 = .int .i64 ((m : Int) - 1) ∧ v5 = .int .u64 (rtAt p third (37 - m) : Nat) ∧ Hid (Fr [] w wr)) (fun _ v6 _ _ _ _ => (intOf v6 + 1).toNat)
  case atStart => exact ⟨37, by decide, rfl, by rw [rtAt]; rfl, Fr.refl _ _⟩
  case round =>
    obtain ⟨m, hm, rfl, rfl, H⟩ := hrel
    cases m with
    | zero =>
      as_aux_lemma =>
        have h37 := rtAt_le p third 37
        rw [show 37 - 0 = 37 from rfl]
        have hb : rtAt p third 37 < 18446744073709551616 := by omega
        have m1 := and64 _ hb
        generalize rtAt p third 37 = r at hb m1 HR
        go_wp2_with fail
        go_ret
        exact ⟨by rw [HR.out]; simp, H.out⟩
    | succ b =>
      have hle := rtAt_le p third (37 - (b + 1))
      have hbb : rtAt p third (37 - (b + 1)) < 1099511627776 := by omega
      rw [show (((b + 1 : Nat) : Int) - 1) = (b : Int) from by omega]
      have HE : Hid (rtAt p third (37 - b) = if decide (b ≤ 34) && !rtOver p (rtAt p third (37 - (b + 1)) + 2 ^ b) third then rtAt p third (37 - (b + 1)) + 2 ^ b else rtAt p third (37 - (b + 1))) := Lib.hid (by
        have e : 37 - b = (37 - (b + 1)) + 1 := by omega
        rw [e, rtAt, show 36 - (37 - (b + 1)) = b from by omega])
      generalize rtAt p third (37 - (b + 1)) = r at hbb HE
      have hpow : 2 ^ b ≤ 68719476736 := Nat.pow_le_pow_right (n := 2) (by decide) (show b ≤ 36 by omega)
      obtain ⟨B, hB, hBi⟩ : ∃ B : Nat, 2 ^ b = B ∧ ((2 : Int) ^ b) = (B : Int) := ⟨2 ^ b, rfl, by simp⟩
      rw [hB] at hpow HE
      have hw1 : IntKind.u64.wrap ((2 : Int) ^ b) = (B : Int) := by rw [hBi]; simp [IntKind.wrap, IntKind.bits, IntKind.signed]; omega
      obtain ⟨t, ht, hti⟩ : ∃ t : Nat, r + B = t ∧ (r : Int) + (B : Int) = (t : Int) := ⟨r + B, rfl, by omega⟩
      have hw2 : IntKind.u64.wrap ((r : Int) + (B : Int)) = (t : Int) := by rw [hti]; simp [IntKind.wrap, IntKind.bits, IntKind.signed]; omega
      rw [ht] at HE
      have ht64 : t < 18446744073709551616 := by omega
      clear hB hBi ht hti hpow hbb
      clear hle
      have hb0 : (0 : Int) ≤ (b : Int) := by omega
      have hb1 : (b : Int) ≤ 36 := by omega
      go_wp2_with fail
      have hT0 : Calls Try.prog 53 #[.int .u64 t, .int .u64 0, .int .u64 t] wr fun e w' => e = .returned (.agg #[.int .u64 ((timesP t 0 t).1 : Nat), .int .u64 ((timesP t 0 t).2 : Nat)]) ∧ Fr [] wr w' := times_calls wr t 0 t ht64 (by decide) ht64
      (with_reducible refine hT0.mono ?_)
      clear hT0
      rintro e w1 ⟨rfl, hf1⟩
      have hq := timesP_lt t 0 t
      have HT := Lib.hid (And.intro (rtOver_false p t) (rtOver_true p t))
      generalize (timesP t 0 t).1 = q0 at hq HT ⊢
      generalize (timesP t 0 t).2 = q1 at hq HT ⊢
      obtain ⟨hq0, hq1⟩ := hq
      have HF1 := Lib.hid (H.out.then hf1)
      clear hf1 H hw1 hw2
      go_upto_region 7 with fail
      have hg := heap_alloc_new w1 (.cells #[.int .u64 (q0 : Int), .int .u64 (q1 : Int)] 85)
      have HF2 := Lib.hid (HF1.out.alloc (.cells #[.int .u64 (q0 : Int), .int .u64 (q1 : Int)] 85))
      have HG1 : Hid (w.heap.size ≤ w1.heap.size) := Lib.hid HF1.out.size
      generalize w1.alloc (.cells #[.int .u64 (q0 : Int), .int .u64 (q1 : Int)] 85) = W2 at hg HF2 ⊢
      generalize w1.heap.size = g at hg HG1 ⊢
      have d0 : W2.cell? ⟨g, 0, none⟩ = some (.int .u64 (q0 : Int)) := by rw [Lib.cell_of_heap hg]; rfl
      have d1 : W2.cell? ⟨g, 1, none⟩ = some (.int .u64 (q1 : Int)) := by rw [Lib.cell_of_heap hg]; rfl
      have HG := Lib.hid hg
      clear hg HF1
      go_cut [9] from 10 to 73 (fun s9 wx => s9 = .bool (over2 p q0 q1) ∧ wx = W2)
      case first =>
        as_aux_lemma =>
          have e2 : over2 p q0 q1 = (decide (p < q0) || (q0 == p && decide (0 < q1))) := rfl
          rcases Nat.lt_trichotomy p q0 with h1 | h1 | h1
          · have h1' : (p : Int) < (q0 : Int) := by omega
            have hr : over2 p q0 q1 = true := by rw [e2, decide_eq_true h1, Bool.true_or]
            have HR2 := Lib.hid hr
            clear e2 hr
            go_wp2_with fail
            go_meet
            exact ⟨by rw [HR2.out], rfl⟩
          · subst h1
            by_cases h2 : 0 < q1
            · have h2' : (0 : Int) < (q1 : Int) := by omega
              have hr : over2 p p q1 = true := by rw [e2, decide_eq_true h2]; simp
              have HR2 := Lib.hid hr
              clear e2 hr
              go_wp2_with fail
              go_meet
              exact ⟨by rw [HR2.out], rfl⟩
            · obtain rfl : q1 = 0 := by omega
              have hr : over2 p p 0 = false := by rw [e2]; simp
              have HR2 := Lib.hid hr
              clear e2 hr
              go_wp2_with fail
              go_meet
              exact ⟨by rw [HR2.out], rfl⟩
          · have h1' : ¬ (p : Int) < (q0 : Int) := by omega
            have h3 : ((q0 : Int) == (p : Int)) = false := beq_eq_false_iff_ne.2 (by omega)
            have h4 : (q0 == p) = false := beq_eq_false_iff_ne.2 (by omega)
            have hr : over2 p q0 q1 = false := by rw [e2, h4, decide_eq_false (by omega)]; rfl
            have HR2 := Lib.hid hr
            clear e2 hr
            go_wp2_with fail
            go_meet
            exact ⟨by rw [HR2.out], rfl⟩
      case rest =>
        obtain ⟨rfl, rfl⟩ := hcut
        cases third with
        | false =>
          as_aux_lemma =>
            rw [HT.out.1] at HE
            have HP : Hid (37 - (b + 1) + 1 = 37 - b) := Lib.hid (by omega)
            generalize over2 p q0 q1 = ov at HE ⊢
            by_cases h34 : b ≤ 34
            · have h34' : (b : Int) ≤ 34 := by omega
              rw [decide_eq_true h34, Bool.true_and] at HE
              cases ov
              · have HE' : Hid (rtAt p false (37 - b) = t) := Lib.hid (by rw [HE.out]; rfl)
                clear HE
                go_wp2_with fail
                exact ⟨⟨b, by omega, rfl, by rw [HE'.out], HF2⟩, by simp [intOf]⟩
              · have HE' : Hid (rtAt p false (37 - b) = r) := Lib.hid (by rw [HE.out]; rfl)
                clear HE
                go_wp2_with fail
                exact ⟨⟨b, by omega, rfl, by rw [HE'.out], HF2⟩, by simp [intOf]⟩
            · have h34' : ¬ (b : Int) ≤ 34 := by omega
              have HE' : Hid (rtAt p false (37 - b) = r) := Lib.hid (by rw [HE.out, decide_eq_false h34, Bool.false_and]; rfl)
              clear HE
              go_wp2_with fail
              exact ⟨⟨b, by omega, rfl, by rw [HE'.out], HF2⟩, by simp [intOf]⟩
        | true =>
          rw [HT.out.2] at HE
          go_wp2_with fail
          (with_reducible refine (times_calls wc t q0 q1 ht64 hq0 hq1).mono ?_)
          rintro e w4 ⟨rfl, hf4⟩
          have hr := timesP_lt t q0 q1
          generalize (timesP t q0 q1).1 = r0 at hr HE ⊢
          generalize (timesP t q0 q1).2 = r1 at hr HE ⊢
          obtain ⟨hr0, hr1⟩ := hr
          have hg4 := (hf4.block g (lt_of_heap HG.out) (by simp)).trans HG.out
          have HF4 := Lib.hid (HF2.out.then hf4)
          have HG4 := Lib.hid hg4
          clear hf4 hg4 d0 d1
          have HR4 : Hid ((w4.setRow g #[.int .u64 (r0 : Int), .int .u64 (r1 : Int)]).heap[g]? = some (.cells #[.int .u64 (r0 : Int), .int .u64 (r1 : Int)] 85 (0, 0)) ∧ Fr [] w (w4.setRow g #[.int .u64 (r0 : Int), .int .u64 (r1 : Int)])) :=
            Lib.hid ⟨setRow_heap _ _ _ _ _ _ HG4.out, HF4.out.trans (fr_setRowQ _ _ _) (fun i hi => .inr (by have := HG1.out; simp at hi; omega))⟩
          go_upto_region 10 with (refine wpList_store_row rfl _ _ _ rfl g #[.int .u64 (r0 : Int), .int .u64 (r1 : Int)] rfl rfl 85 #[.int .u64 (q0 : Int), .int .u64 (q1 : Int)] HG4.out info2q (sz22 _ _ _ _) (by simp [Value.oneCell']) ?_)
          simp only [Act.put]
          generalize w4.setRow g #[.int .u64 (r0 : Int), .int .u64 (r1 : Int)] = W5 at HR4 ⊢
          have d0 : W5.cell? ⟨g, 0, none⟩ = some (.int .u64 (r0 : Int)) := by rw [Lib.cell_of_heap HR4.out.1]; rfl
          have d1 : W5.cell? ⟨g, 1, none⟩ = some (.int .u64 (r1 : Int)) := by rw [Lib.cell_of_heap HR4.out.1]; rfl
          obtain ⟨hh, hhh, hhi⟩ : ∃ hh : Nat, r0 / 4294967296 = hh ∧ (r0 : Int) / 4294967296 = (hh : Int) := ⟨_, rfl, by simp⟩
          have hm := and64 r0 hr0
          obtain ⟨ll, hll⟩ : ∃ ll : Nat, r0 % 4294967296 = ll := ⟨_, rfl⟩
          rw [hll] at hm
          clear HG4 HF4
          go_cut [9] from 10 to 73 (fun s9 wx => s9 = .bool (over3 p r0 r1) ∧ wx = W5)
          case first =>
            as_aux_lemma =>
              have e3 : over3 p r0 r1 = (decide (p < hh) || (hh == p && (decide (0 < ll) || decide (0 < r1)))) := by rw [over3, hhh, hll]
              rcases Nat.lt_trichotomy p hh with h1 | h1 | h1
              · have h1' : (p : Int) < (hh : Int) := by omega
                have hr : over3 p r0 r1 = true := by rw [e3, decide_eq_true h1, Bool.true_or]
                have HR2 := Lib.hid hr
                clear e3 hr
                go_wp2_with fail
                go_meet
                exact ⟨by rw [HR2.out], rfl⟩
              · subst h1
                by_cases h2 : 0 < ll
                · have h2' : (0 : Int) < (ll : Int) := by omega
                  have hr : over3 p r0 r1 = true := by rw [e3, decide_eq_true h2]; simp
                  have HR2 := Lib.hid hr
                  clear e3 hr
                  go_wp2_with fail
                  go_meet
                  exact ⟨by rw [HR2.out], rfl⟩
                · obtain rfl : ll = 0 := by omega
                  by_cases h3 : 0 < r1
                  · have h3' : (0 : Int) < (r1 : Int) := by omega
                    have hr : over3 p r0 r1 = true := by rw [e3, decide_eq_true h3]; simp
                    have HR2 := Lib.hid hr
                    clear e3 hr
                    go_wp2_with fail
                    go_meet
                    exact ⟨by rw [HR2.out], rfl⟩
                  · obtain rfl : r1 = 0 := by omega
                    have hr : over3 p r0 0 = false := by rw [e3]; simp
                    have HR2 := Lib.hid hr
                    clear e3 hr
                    go_wp2_with fail
                    go_meet
                    exact ⟨by rw [HR2.out], rfl⟩
              · have h1' : ¬ (p : Int) < (hh : Int) := by omega
                have h3 : ((hh : Int) == (p : Int)) = false := beq_eq_false_iff_ne.2 (by omega)
                have h4 : (hh == p) = false := beq_eq_false_iff_ne.2 (by omega)
                have hr : over3 p r0 r1 = false := by rw [e3, h4, decide_eq_false (by omega)]; rfl
                have HR2 := Lib.hid hr
                clear e3 hr
                go_wp2_with fail
                go_meet
                exact ⟨by rw [HR2.out], rfl⟩
          case rest =>
            obtain ⟨rfl, rfl⟩ := hcut
            generalize over3 p r0 r1 = ov at HE ⊢
            clear hm hhi hhh hll d0 d1
            by_cases h34 : b ≤ 34
            · have h34' : (b : Int) ≤ 34 := by omega
              rw [decide_eq_true h34, Bool.true_and] at HE
              cases ov
              · have HE' : Hid (rtAt p true (37 - b) = t) := Lib.hid (by rw [HE.out]; rfl)
                clear HE
                go_wp2_with fail
                exact ⟨⟨b, by omega, rfl, by rw [HE'.out], HR4.out.2⟩, by simp [intOf]⟩
              · have HE' : Hid (rtAt p true (37 - b) = r) := Lib.hid (by rw [HE.out]; rfl)
                clear HE
                go_wp2_with fail
                exact ⟨⟨b, by omega, rfl, by rw [HE'.out], HR4.out.2⟩, by simp [intOf]⟩
            · have h34' : ¬ (b : Int) ≤ 34 := by omega
              have HE' : Hid (rtAt p true (37 - b) = r) := Lib.hid (by rw [HE.out, decide_eq_false h34, Bool.false_and]; rfl)
              clear HE
              go_wp2_with fail
              exact ⟨⟨b, by omega, rfl, by rw [HE'.out], HR4.out.2⟩, by simp [intOf]⟩
end Go.Proofs.Ytlcfambhjclkiaa
