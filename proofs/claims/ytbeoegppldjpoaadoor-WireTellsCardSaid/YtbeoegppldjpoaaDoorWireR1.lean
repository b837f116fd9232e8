/- The contracts of the document's text and Check (layer 19). -/
import Derived.Test.YtbeoegppldjpoaaDoorWireHas
import Derived.Test.YtbeoegppldjpoaaDoorWireBytes2
namespace Go.Proofs.YtbeoegppldjpoaaDoor
open Go.RowKit
set_option linter.unusedVariables false
set_option linter.unusedSimpArgs false

set_option maxRecDepth 100000 in
theorem R19Text (W : World) (s : ByteArray) (has : Bool) (hs : s.size ≤ 140737488351232) :
    Calls Tryd.prog 35 #[.string s, .bool has] W fun e w' => e = .returned (.bool (tOK s has)) ∧ w' = W := by
  cases has with
  | false =>
    by_cases h0 : s.size = 0
    · obtain rfl := str_empty h0
      rw [show tOK ⟨#[]⟩ false = true from rfl]
      clear h0
      go_enter Tryd.func35, Tryd.ntmps35
      go_wp2_with fail
      go_ret
      exact ⟨rfl, rfl⟩
    · rw [tOK_no (by rw [decide_eq_true h0]; decide)]
      obtain ⟨h3, h4⟩ := str_ne h0
      clear h0
      go_enter Tryd.func35, Tryd.ntmps35
      go_wp2_with fail
      go_ret
      exact ⟨rfl, rfl⟩
  | true =>
    by_cases h1 : (1 : Int) ≤ (s.size : Int)
    · have ht : tOK s true = decide ((s.size : Int) ≤ 64) := by
        rw [tOK_yes (by rw [decide_eq_true (show s.size ≠ 0 by omega)])]
        exact decide_eq_decide.2 (by omega)
      rw [ht]
      clear ht
      by_cases h2 : (s.size : Int) ≤ 64
      · rw [decide_eq_true h2]
        go_enter Tryd.func35, Tryd.ntmps35
        go_wp2_with fail
        go_ret
        exact ⟨rfl, rfl⟩
      · rw [decide_eq_false h2]
        go_enter Tryd.func35, Tryd.ntmps35
        go_wp2_with fail
        go_ret
        exact ⟨rfl, rfl⟩
    · rw [tOK_no (by rw [decide_eq_false (show ¬ s.size ≠ 0 by omega)]; decide)]
      go_enter Tryd.func35, Tryd.ntmps35
      go_wp2_with fail
      go_ret
      exact ⟨rfl, rfl⟩

set_option maxHeartbeats 4000000 in
set_option maxRecDepth 100000 in
theorem R19Check (w : World) (k pu : Int) (so ma ot se pa : ByteArray) (hs : (Rq.mk k pu so ma ot se pa).short 140737488351232) :
    Calls Tryd.prog 22 #[.agg #[.int .i64 k, .int .i64 pu, .string so, .string ma, .string ot, .string se, .string pa]] w fun e w' => e = .returned (.bool (Rq.mk k pu so ma ot se pa).ok) ∧ Fr [] w w' := by
  have hok : (Rq.mk k pu so ma ot se pa).ok = (kIs k && rqOK (ptOf k) ⟨k, pu, so, ma, ot, se, pa⟩) := rfl
  rw [hok]
  clear hok
  have hof := fun W => Has_calls W k
  unfold HasPost at hof
  generalize ptOf k = p at *
  generalize kIs k = kb at *
  obtain ⟨p0, p1, p2, p3, p4⟩ := p
  have hf := rqOK_false (p := ⟨p0, p1, p2, p3, p4⟩) (r := ⟨k, pu, so, ma, ot, se, pa⟩) (kb := kb)
  have ht := rqOK_true (p := ⟨p0, p1, p2, p3, p4⟩) (r := ⟨k, pu, so, ma, ot, se, pa⟩) (kb := kb)
  generalize (kb && rqOK ⟨p0, p1, p2, p3, p4⟩ ⟨k, pu, so, ma, ot, se, pa⟩) = res at *
  simp only at hf ht
  obtain ⟨hs0, hs1, hs2, hs3, hs4⟩ := hs
  simp only at hs0 hs1 hs2 hs3 hs4
  have k1 := fun W => R19Text W ma p0 hs1
  have k2 := fun W => R19Text W ot p1 hs2
  have k3 := fun W => R19Text W se p2 hs3
  have k4 := fun W => R19Text W pa p3 hs4
  generalize tOK ma p0 = t0 at *
  generalize tOK ot p1 = t1 at *
  generalize tOK se p2 = t2 at *
  generalize tOK pa p3 = t3 at *
  simp only [Pt.val] at hof
  have HOF := Lib.hid hof
  have K1 := Lib.hid k1
  have K2 := Lib.hid k2
  have K3 := Lib.hid k3
  have K4 := Lib.hid k4
  have HRF := Lib.hid hf
  have HRT := Lib.hid ht
  have HSO := Lib.hid hs0
  clear hof k1 k2 k3 k4 hf ht hs0 hs1 hs2 hs3 hs4
  go_enter Tryd.func22, Tryd.ntmps22
  go_wp2_with fail
  have hr0 := heap_alloc_new w (.cells #[.int .i64 k, .int .i64 pu, .string so, .string ma, .string ot, .string se, .string pa] 23)
  have hF0 : Fr [] w (w.alloc (.cells #[.int .i64 k, .int .i64 pu, .string so, .string ma, .string ot, .string se, .string pa] 23)) := (Fr.refl _ _).alloc _
  generalize w.alloc (.cells #[.int .i64 k, .int .i64 pu, .string so, .string ma, .string ot, .string se, .string pa] 23) = W0 at *
  generalize w.heap.size = R at *
  (with_reducible refine (HOF.out _).mono ?_)
  rintro e w1 ⟨rfl, hf1⟩
  have hr1 := blk_keep hr0 hf1 (by simp)
  have hF1 := hF0.then hf1
  clear hr0 hF0 hf1 HOF
  have d3 : ∀ o1, (w1.alloc o1).cell? ⟨R, 3, none⟩ = some (.string ma) := fun o1 => (rq_cells (alloc_keep (o := o1) hr1)).2.2.2.1
  go_wp2_with fail
  clear d3
  have hq2 := heap_alloc_new w1 (.cells #[.bool p0, .bool p1, .bool p2, .bool p3, .bool p4] 39)
  have hr2 := alloc_keep (o := .cells #[.bool p0, .bool p1, .bool p2, .bool p3, .bool p4] 39) hr1
  have hF2 := hF1.alloc (.cells #[.bool p0, .bool p1, .bool p2, .bool p3, .bool p4] 39)
  generalize w1.alloc (.cells #[.bool p0, .bool p1, .bool p2, .bool p3, .bool p4] 39) = W2 at *
  generalize w1.heap.size = Q at *
  clear hr1 hF1
  obtain ⟨e0, e1, e2, e3, e4, e5, e6⟩ := rq_cells hr2
  have q1 : W2.cell? ⟨Q, 1, none⟩ = some (.bool p1) := by rw [Lib.cell_of_heap hq2]; rfl
  have q2 : W2.cell? ⟨Q, 2, none⟩ = some (.bool p2) := by rw [Lib.cell_of_heap hq2]; rfl
  have q3 : W2.cell? ⟨Q, 3, none⟩ = some (.bool p3) := by rw [Lib.cell_of_heap hq2]; rfl
  have q4 : W2.cell? ⟨Q, 4, none⟩ = some (.bool p4) := by rw [Lib.cell_of_heap hq2]; rfl
  have HF2 := Lib.hid hF2
  clear hF2 hr2 hq2
  (with_reducible refine (K1.out _).mono ?_)
  rintro e w3 ⟨rfl, hw3⟩
  rw [hw3]
  clear hw3 w3
  go_wp2_with fail
  (with_reducible refine (K2.out _).mono ?_)
  rintro e w3 ⟨rfl, hw3⟩
  rw [hw3]
  clear hw3 w3
  go_wp2_with fail
  (with_reducible refine (K3.out _).mono ?_)
  rintro e w3 ⟨rfl, hw3⟩
  rw [hw3]
  clear hw3 w3
  go_wp2_with fail
  (with_reducible refine (K4.out _).mono ?_)
  rintro e w3 ⟨rfl, hw3⟩
  rw [hw3]
  clear hw3 w3 K1 K2 K3 K4
  cases kb
  · skip
    obtain rfl := HRF.out rfl
    clear HRF HRT HSO
    cases p4
    all_goals
      go_wp2_with fail
      all_goals
        go_ret
        exact ⟨rfl, HF2.out⟩
  cases t0
  · skip
    obtain rfl := HRF.out rfl
    clear HRF HRT HSO
    cases p4
    all_goals
      go_wp2_with fail
      all_goals
        go_ret
        exact ⟨rfl, HF2.out⟩
  cases t1
  · skip
    obtain rfl := HRF.out rfl
    clear HRF HRT HSO
    cases p4
    all_goals
      go_wp2_with fail
      all_goals
        go_ret
        exact ⟨rfl, HF2.out⟩
  cases t2
  · skip
    obtain rfl := HRF.out rfl
    clear HRF HRT HSO
    cases p4
    all_goals
      go_wp2_with fail
      all_goals
        go_ret
        exact ⟨rfl, HF2.out⟩
  cases t3
  · skip
    obtain rfl := HRF.out rfl
    clear HRF HRT HSO
    cases p4
    all_goals
      go_wp2_with fail
      all_goals
        go_ret
        exact ⟨rfl, HF2.out⟩
  obtain rfl := HRT.out rfl
  clear HRF HRT
  have hsl := HSO.out
  have hq : soOK so = (decide ((1 : Int) ≤ (so.size : Int)) && decide ((so.size : Int) ≤ 20)) := by
    unfold soOK
    rw [decide_eq_decide.2 (show so.size ≠ 0 ↔ (1 : Int) ≤ (so.size : Int) by omega), decide_eq_decide.2 (show so.size ≤ 20 ↔ (so.size : Int) ≤ 20 by omega)]
  have HQ := Lib.hid hq
  clear hq HSO
  cases p4
  · by_cases h0 : pu = 0
    · have hb : (pu == 0) = true := beq_iff_eq.2 h0
      have HP := Lib.hid (show puOK pu false = true from decide_eq_true h0)
      clear h0
      by_cases h1 : (1 : Int) ≤ (so.size : Int)
      · by_cases h2 : (so.size : Int) ≤ 20
        · have HE := Lib.hid (show (puOK pu false && soOK so) = true by rw [HP.out, HQ.out, decide_eq_true h1, decide_eq_true h2]; rfl)
          clear HP HQ
          go_wp2_with fail
          go_ret
          exact ⟨by rw [HE.out]; first | rfl | (show Ending.returned (Value.bool (decide ((so.size : Int) ≤ 20))) = _; rw [decide_eq_false (by omega)]), HF2.out⟩
        · have HE := Lib.hid (show (puOK pu false && soOK so) = false by rw [HP.out, HQ.out, decide_eq_true h1, decide_eq_false h2]; rfl)
          clear HP HQ
          go_wp2_with fail
          go_ret
          exact ⟨by rw [HE.out]; first | rfl | (show Ending.returned (Value.bool (decide ((so.size : Int) ≤ 20))) = _; rw [decide_eq_false (by omega)]), HF2.out⟩
      · have HE := Lib.hid (show (puOK pu false && soOK so) = false by rw [HP.out, HQ.out, decide_eq_false h1]; rfl)
        clear HP HQ
        go_wp2_with fail
        go_ret
        exact ⟨by rw [HE.out]; first | rfl | (show Ending.returned (Value.bool (decide ((so.size : Int) ≤ 20))) = _; rw [decide_eq_false (by omega)]), HF2.out⟩
    · have hb : (pu == 0) = false := beq_eq_false_iff_ne.2 h0
      have HE := Lib.hid (show (puOK pu false && soOK so) = false by rw [show puOK pu false = false from decide_eq_false h0]; rfl)
      clear h0 HQ
      go_wp2_with fail
      go_ret
      exact ⟨by rw [HE.out]; first | rfl | (show Ending.returned (Value.bool (decide ((so.size : Int) ≤ 20))) = _; rw [decide_eq_false (by omega)]), HF2.out⟩
  · by_cases g1 : 2 ≤ pu
    · by_cases g2 : pu ≤ 4
      · have HP := Lib.hid (show puOK pu true = true by unfold puOK; rw [if_pos rfl, decide_eq_true g1, decide_eq_true g2]; rfl)
        by_cases h1 : (1 : Int) ≤ (so.size : Int)
        · by_cases h2 : (so.size : Int) ≤ 20
          · have HE := Lib.hid (show (puOK pu true && soOK so) = true by rw [HP.out, HQ.out, decide_eq_true h1, decide_eq_true h2]; rfl)
            clear HP HQ
            go_wp2_with fail
            go_ret
            exact ⟨by rw [HE.out]; first | rfl | (show Ending.returned (Value.bool (decide ((so.size : Int) ≤ 20))) = _; rw [decide_eq_false (by omega)]), HF2.out⟩
          · have HE := Lib.hid (show (puOK pu true && soOK so) = false by rw [HP.out, HQ.out, decide_eq_true h1, decide_eq_false h2]; rfl)
            clear HP HQ
            go_wp2_with fail
            go_ret
            exact ⟨by rw [HE.out]; first | rfl | (show Ending.returned (Value.bool (decide ((so.size : Int) ≤ 20))) = _; rw [decide_eq_false (by omega)]), HF2.out⟩
        · have HE := Lib.hid (show (puOK pu true && soOK so) = false by rw [HP.out, HQ.out, decide_eq_false h1]; rfl)
          clear HP HQ
          go_wp2_with fail
          go_ret
          exact ⟨by rw [HE.out]; first | rfl | (show Ending.returned (Value.bool (decide ((so.size : Int) ≤ 20))) = _; rw [decide_eq_false (by omega)]), HF2.out⟩
      · have HE := Lib.hid (show (puOK pu true && soOK so) = false by unfold puOK; rw [if_pos rfl, decide_eq_true g1, decide_eq_false g2]; rfl)
        clear HQ
        go_wp2_with fail
        go_ret
        exact ⟨by rw [HE.out]; first | rfl | (show Ending.returned (Value.bool (decide ((so.size : Int) ≤ 20))) = _; rw [decide_eq_false (by omega)]), HF2.out⟩
    · have HE := Lib.hid (show (puOK pu true && soOK so) = false by unfold puOK; rw [if_pos rfl, decide_eq_false g1]; rfl)
      clear HQ
      go_wp2_with fail
      go_ret
      exact ⟨by rw [HE.out]; first | rfl | (show Ending.returned (Value.bool (decide ((so.size : Int) ≤ 20))) = _; rw [decide_eq_false (by omega)]), HF2.out⟩
end Go.Proofs.YtbeoegppldjpoaaDoor
