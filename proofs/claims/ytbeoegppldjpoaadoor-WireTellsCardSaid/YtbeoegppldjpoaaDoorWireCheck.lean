/- The contracts of wire.Check: whether a request may be. -/
import Derived.Test.YtbeoegppldjpoaaDoorWireOf
namespace Go.Proofs.YtbeoegppldjpoaaDoor
open Go.RowKit
set_option linter.unusedVariables false
set_option linter.unusedSimpArgs false

theorem str_empty {t : ByteArray} (h : t.size = 0) : t = ⟨#[]⟩ := ByteArray.ext (Array.eq_empty_of_size_eq_zero h)
theorem str_ne {t : ByteArray} (h : t.size ≠ 0) : t.toList.isEmpty = false ∧ ¬ t.toList = [] := by
  have hne : t.toList.isEmpty = false := by
    rw [Lib.toList_data]
    cases hq : t.data.toList with
    | nil => exact absurd (by rw [← Array.length_toList, hq]; rfl : t.data.size = 0) h
    | cons a l => rfl
  exact ⟨hne, fun e => by rw [e] at hne; cases hne⟩
theorem blk_set {w : World} {b : Nat} {cs : Array Value} {T : TypeId} (j : Nat) (v : Value) (h : w.heap[b]? = some (.cells cs T (0, 0))) : (w.setCell ⟨b, j, none⟩ v).heap[b]? = some (.cells (cs.setIfInBounds j v) T (0, 0)) := by
  rw [setCell_eq_setRow w b j cs T (0, 0) v h]
  exact setRow_heap w b cs _ T (0, 0) h
theorem blk_keep {w w' : World} {E : Nat} {o : Obj} {S : List Nat} (h : w.heap[E]? = some o) (hf : Fr S w w') (hd : E ∉ S) : w'.heap[E]? = some o := (hf.block E (lt_of_heap h) hd).trans h
theorem tOK_no {s : ByteArray} {h : Bool} (h1 : h ≠ decide (s.size ≠ 0)) : tOK s h = false := by
  unfold tOK
  rw [show (h == decide (s.size ≠ 0)) = false from beq_eq_false_iff_ne.2 h1, Bool.false_and]
theorem tOK_yes {s : ByteArray} {h : Bool} (h1 : h = decide (s.size ≠ 0)) : tOK s h = decide (s.size ≤ 64) := by
  unfold tOK
  rw [show (h == decide (s.size ≠ 0)) = true from beq_iff_eq.2 h1, Bool.true_and]

/-- Behind the closure. -/
def ChkPost (w : World) (B : Nat) (x : Bool) (e : Ending) (w' : World) : Prop := e = .returned (.tuple #[]) ∧ w'.heap[B]? = some (.cells #[.bool x] 4 (0, 0)) ∧ Fr [B] w w'
theorem chk_end {w : World} {B : Nat} {b x : Bool} (h : w.heap[B]? = some (.cells #[.bool b] 4 (0, 0))) : ChkPost w B x (.returned (.tuple #[])) (w.setCell ⟨B, 0, none⟩ (.bool x)) :=
  ⟨rfl, blk_set 0 _ h, (Fr.refl _ _).setCell (.inl (by simp)) _⟩
set_option maxHeartbeats 2000000 in
set_option maxRecDepth 100000 in
theorem Check1_calls (w : World) (s : ByteArray) (has b : Bool) (B : Nat) (h : w.heap[B]? = some (.cells #[.bool b] 4 (0, 0))) (hs : s.size ≤ 140737488351232) :
    Calls Tryd.prog 20 #[.string s, .bool has, .pointer (some ⟨B, 0, none⟩)] w (ChkPost w B (b && tOK s has)) := by
  have hc : w.cell? ⟨B, 0, none⟩ = some (.bool b) := by rw [Lib.cell_of_heap h]; rfl
  have hz : w.frozen? ⟨B, 0, none⟩ = false := Lib.frozen_of_heap h 0
  have H := Lib.hid h
  clear h
  cases b
  · rw [Bool.false_and]
    go_enter Tryd.func20, Tryd.ntmps20
    go_wp2_with fail
    go_end0
    exact chk_end H.out
  · rw [Bool.true_and]
    by_cases h0 : s.size = 0
    · obtain rfl := str_empty h0
      clear h0
      cases has
      · rw [show tOK ⟨#[]⟩ false = true from rfl]
        go_enter Tryd.func20, Tryd.ntmps20
        go_wp2_with fail
        go_end0
        exact chk_end H.out
      · rw [show tOK ⟨#[]⟩ true = false from rfl]
        go_enter Tryd.func20, Tryd.ntmps20
        go_wp2_with fail
        go_end0
        exact chk_end H.out
    · obtain ⟨h1, h2⟩ := str_ne h0
      cases has
      · rw [tOK_no (by rw [decide_eq_true h0]; decide)]
        clear h0
        go_enter Tryd.func20, Tryd.ntmps20
        go_wp2_with fail
        go_end0
        exact chk_end H.out
      · rw [tOK_yes (by rw [decide_eq_true h0])]
        clear h0
        rw [show decide (s.size ≤ 64) = decide ((s.size : Int) ≤ 64) from decide_eq_decide.2 (by omega)]
        go_enter Tryd.func20, Tryd.ntmps20
        go_wp2_with fail
        go_end0
        exact chk_end H.out

theorem rqOK_false {p : Pt} {r : Rq} {kb : Bool} (h : (kb && tOK r.ma p.ma && tOK r.ot p.ot && tOK r.se p.se && tOK r.pa p.pa) = false) : (kb && rqOK p r) = false := by
  unfold rqOK
  revert h
  cases kb <;> cases tOK r.ma p.ma <;> cases tOK r.ot p.ot <;> cases tOK r.se p.se <;> cases tOK r.pa p.pa <;> simp
theorem rqOK_true {p : Pt} {r : Rq} {kb : Bool} (h : (kb && tOK r.ma p.ma && tOK r.ot p.ot && tOK r.se p.se && tOK r.pa p.pa) = true) : (kb && rqOK p r) = (puOK r.pu p.pu && soOK r.so) := by
  unfold rqOK
  revert h
  cases kb <;> cases tOK r.ma p.ma <;> cases tOK r.ot p.ot <;> cases tOK r.se p.se <;> cases tOK r.pa p.pa <;> simp
def Rq.val (r : Rq) : Value := .agg #[.int .i64 r.k, .int .i64 r.pu, .string r.so, .string r.ma, .string r.ot, .string r.se, .string r.pa]
set_option maxHeartbeats 4000000 in
set_option maxRecDepth 100000 in
theorem Check_calls (w : World) (k pu : Int) (so ma ot se pa : ByteArray) (hs : (Rq.mk k pu so ma ot se pa).short 140737488351232) :
    Calls Tryd.prog 9 #[.agg #[.int .i64 k, .int .i64 pu, .string so, .string ma, .string ot, .string se, .string pa]] w fun e w' => e = .returned (.bool (Rq.mk k pu so ma ot se pa).ok) ∧ Fr [] w w' := by
  have hmf : ∀ (fn : Fn) (first cap : Array Value) (w : World), (Instr.makeFunc fn first cap).run Tryd.prog w = .ok (.func fn first cap) w := fun _ _ _ _ => rfl
  have hok : (Rq.mk k pu so ma ot se pa).ok = (kIs k && rqOK (ptOf k) ⟨k, pu, so, ma, ot, se, pa⟩) := rfl
  rw [hok]
  clear hok
  have hof := fun W => of_calls W k
  generalize ptOf k = p at *
  generalize kIs k = kb at *
  obtain ⟨p0, p1, p2, p3, p4⟩ := p
  have hf := rqOK_false (p := ⟨p0, p1, p2, p3, p4⟩) (r := ⟨k, pu, so, ma, ot, se, pa⟩) (kb := kb)
  have ht := rqOK_true (p := ⟨p0, p1, p2, p3, p4⟩) (r := ⟨k, pu, so, ma, ot, se, pa⟩) (kb := kb)
  generalize (kb && rqOK ⟨p0, p1, p2, p3, p4⟩ ⟨k, pu, so, ma, ot, se, pa⟩) = res at *
  simp only at hf ht
  obtain ⟨hs0, hs1, hs2, hs3, hs4⟩ := hs
  simp only at hs0 hs1 hs2 hs3 hs4
  have k1 := fun W b B h => Check1_calls W ma p0 b B h hs1
  have k2 := fun W b B h => Check1_calls W ot p1 b B h hs2
  have k3 := fun W b B h => Check1_calls W se p2 b B h hs3
  have k4 := fun W b B h => Check1_calls W pa p3 b B h hs4
  generalize tOK ma p0 = t0 at *
  generalize tOK ot p1 = t1 at *
  generalize tOK se p2 = t2 at *
  generalize tOK pa p3 = t3 at *
  simp only [Pt.val] at hof
  have HOF := Lib.hid hof
  have K1 := Lib.hid k1
  have K2 := Lib.hid k2
  have K3 := Lib.hid k3
  have K4 := Lib.hid k4
  have HRF := Lib.hid hf
  have HRT := Lib.hid ht
  have HSO := Lib.hid hs0
  clear hof k1 k2 k3 k4 hf ht hs0 hs1 hs2 hs3 hs4
  go_enter Tryd.func9, Tryd.ntmps9
  go_wp2_with fail
  have hr0 := heap_alloc_new w (.cells #[.int .i64 k, .int .i64 pu, .string so, .string ma, .string ot, .string se, .string pa] 23)
  have hF0 : Fr [] w (w.alloc (.cells #[.int .i64 k, .int .i64 pu, .string so, .string ma, .string ot, .string se, .string pa] 23)) := (Fr.refl _ _).alloc _
  generalize w.alloc (.cells #[.int .i64 k, .int .i64 pu, .string so, .string ma, .string ot, .string se, .string pa] 23) = W0 at *
  generalize hR : w.heap.size = R at *
  (with_reducible refine (HOF.out _).mono ?_)
  rintro e w1 ⟨rfl, hf1⟩
  have hr1 := blk_keep hr0 hf1 (by simp)
  have hF1 := hF0.then hf1
  clear hr0 hF0 hf1 HOF
  have HR := Lib.hid hR
  clear hR
  have d3 : ∀ o1 o2, ((w1.alloc o1).alloc o2).cell? ⟨R, 3, none⟩ = some (.string ma) := fun o1 o2 => by
    rw [Lib.cell_of_heap (blk_keep hr1 (((Fr.refl [] w1).alloc o1).alloc o2) (by simp))]
    rfl
  go_wp2_with fail
  clear d3
  have hq2 : ((w1.alloc (.cells #[.bool p0, .bool p1, .bool p2, .bool p3, .bool p4] 43)).alloc (.cells #[.bool kb] 4)).heap[w1.heap.size]? = some (.cells #[.bool p0, .bool p1, .bool p2, .bool p3, .bool p4] 43 (0, 0)) := alloc_keep (heap_alloc_new _ _)
  have hb2 : ((w1.alloc (.cells #[.bool p0, .bool p1, .bool p2, .bool p3, .bool p4] 43)).alloc (.cells #[.bool kb] 4)).heap[w1.heap.size + 1]? = some (.cells #[.bool kb] 4 (0, 0)) := by
    have := heap_alloc_new (w1.alloc (.cells #[.bool p0, .bool p1, .bool p2, .bool p3, .bool p4] 43)) (.cells #[.bool kb] 4)
    simpa using this
  have hr2 := alloc_keep (o := .cells #[.bool kb] 4) (alloc_keep (o := .cells #[.bool p0, .bool p1, .bool p2, .bool p3, .bool p4] 43) hr1)
  have hF2 := (hF1.alloc (.cells #[.bool p0, .bool p1, .bool p2, .bool p3, .bool p4] 43)).alloc (.cells #[.bool kb] 4)
  generalize (w1.alloc (.cells #[.bool p0, .bool p1, .bool p2, .bool p3, .bool p4] 43)).alloc (.cells #[.bool kb] 4) = W2 at *
  have hRQ : R < w1.heap.size := lt_of_heap hr1
  have hwB : w.heap.size ≤ w1.heap.size + 1 := by have := hF1.size; omega
  clear hr1 hF1
  generalize hB : w1.heap.size + 1 = B at *
  generalize w1.heap.size = Q at *
  have hRB : R ∉ [B] := by simp; omega
  have hQB : Q ∉ [B] := by simp; omega
  have HWB := Lib.hid hwB
  clear hRQ hB hwB
  (with_reducible refine (K1.out _ _ _ hb2).mono ?_)
  rintro e w3 ⟨rfl, hb3, hf3⟩
  have hr3 := blk_keep hr2 hf3 hRB
  have hq3 := blk_keep hq2 hf3 hQB
  have hF3 := hF2.trans hf3 (fun i hi => .inr (by have := HWB.out; simp at hi; omega))
  clear hr2 hq2 hF2 hf3 hb2 K1
  have cr : w3.cell? ⟨R, 4, none⟩ = some (.string ot) := by rw [Lib.cell_of_heap hr3]; rfl
  have cq : w3.cell? ⟨Q, 1, none⟩ = some (.bool p1) := by rw [Lib.cell_of_heap hq3]; rfl
  go_wp2_with fail
  clear cr cq
  (with_reducible refine (K2.out _ _ _ hb3).mono ?_)
  rintro e w4 ⟨rfl, hb4, hf4⟩
  have hr4 := blk_keep hr3 hf4 hRB
  have hq4 := blk_keep hq3 hf4 hQB
  have hF4 := hF3.trans hf4 (fun i hi => .inr (by have := HWB.out; simp at hi; omega))
  clear hr3 hq3 hF3 hf4 hb3 K2
  have cr : w4.cell? ⟨R, 5, none⟩ = some (.string se) := by rw [Lib.cell_of_heap hr4]; rfl
  have cq : w4.cell? ⟨Q, 2, none⟩ = some (.bool p2) := by rw [Lib.cell_of_heap hq4]; rfl
  go_wp2_with fail
  clear cr cq
  (with_reducible refine (K3.out _ _ _ hb4).mono ?_)
  rintro e w5 ⟨rfl, hb5, hf5⟩
  have hr5 := blk_keep hr4 hf5 hRB
  have hq5 := blk_keep hq4 hf5 hQB
  have hF5 := hF4.trans hf5 (fun i hi => .inr (by have := HWB.out; simp at hi; omega))
  clear hr4 hq4 hF4 hf5 hb4 K3
  have cr : w5.cell? ⟨R, 6, none⟩ = some (.string pa) := by rw [Lib.cell_of_heap hr5]; rfl
  have cq : w5.cell? ⟨Q, 3, none⟩ = some (.bool p3) := by rw [Lib.cell_of_heap hq5]; rfl
  go_wp2_with fail
  clear cr cq
  (with_reducible refine (K4.out _ _ _ hb5).mono ?_)
  rintro e w6 ⟨rfl, hb6, hf6⟩
  have hr6 := blk_keep hr5 hf6 hRB
  have hq6 := blk_keep hq5 hf6 hQB
  have hF6 := hF5.trans hf6 (fun i hi => .inr (by have := HWB.out; simp at hi; omega))
  clear hr5 hq5 hF5 hf6 hb5 K4
  have cb : w6.cell? ⟨B, 0, none⟩ = some (.bool (kb && t0 && t1 && t2 && t3)) := by rw [Lib.cell_of_heap hb6]; rfl
  have cq : w6.cell? ⟨Q, 4, none⟩ = some (.bool p4) := by rw [Lib.cell_of_heap hq6]; rfl
  have cr1 : w6.cell? ⟨R, 1, none⟩ = some (.int .i64 pu) := by rw [Lib.cell_of_heap hr6]; rfl
  have cr2 : w6.cell? ⟨R, 2, none⟩ = some (.string so) := by rw [Lib.cell_of_heap hr6]; rfl
  have HF6 := Lib.hid hF6
  clear hF6 hb6 hq6 hr6 hRB hQB HWB
  generalize (kb && t0 && t1 && t2 && t3) = acc at *
  cases acc
  · obtain rfl := HRF.out rfl
    cases p4
    all_goals
      go_wp2_with fail
      go_ret
      exact ⟨rfl, HF6.out⟩
  · obtain rfl := HRT.out rfl
    clear HRF HRT
    cases p4
    · by_cases h1 : 0 ≤ pu
      · by_cases h2 : pu ≤ 0
        · by_cases h0 : so.size = 0
          · obtain rfl := str_empty h0
            clear h0
            go_wp2_with fail
            go_ret
            exact ⟨by rw [show soOK ⟨#[]⟩ = false from rfl, Bool.and_false]; first | done | rfl, HF6.out⟩
          · obtain ⟨h3, h4⟩ := str_ne h0
            have hq : soOK so = decide ((so.size : Int) ≤ 20) := by unfold soOK; rw [decide_eq_true h0, Bool.true_and]; exact decide_eq_decide.2 (by omega)
            have HQ := Lib.hid hq
            clear h0 hq
            have hsl := HSO.out
            go_wp2_with fail
            go_ret
            exact ⟨by rw [HQ.out, show puOK pu false = true from decide_eq_true (show pu = 0 by omega), Bool.true_and]; first | done | rfl, HF6.out⟩
        · go_wp2_with fail
          go_ret
          exact ⟨by rw [show puOK pu false = false from decide_eq_false (show ¬ pu = 0 by omega), Bool.false_and]; first | done | rfl, HF6.out⟩
      · go_wp2_with fail
        go_ret
        exact ⟨by rw [show puOK pu false = false from decide_eq_false (show ¬ pu = 0 by omega), Bool.false_and]; first | done | rfl, HF6.out⟩
    · by_cases h1 : 2 ≤ pu
      · by_cases h2 : pu ≤ 4
        · by_cases h0 : so.size = 0
          · obtain rfl := str_empty h0
            clear h0
            go_wp2_with fail
            go_ret
            exact ⟨by rw [show soOK ⟨#[]⟩ = false from rfl, Bool.and_false]; first | done | rfl, HF6.out⟩
          · obtain ⟨h3, h4⟩ := str_ne h0
            have hq : soOK so = decide ((so.size : Int) ≤ 20) := by unfold soOK; rw [decide_eq_true h0, Bool.true_and]; exact decide_eq_decide.2 (by omega)
            have HQ := Lib.hid hq
            clear h0 hq
            have hsl := HSO.out
            go_wp2_with fail
            go_ret
            exact ⟨by rw [HQ.out, show puOK pu true = true from by show (decide (2 ≤ pu) && decide (pu ≤ 4)) = true; rw [decide_eq_true (show 2 ≤ pu by omega), decide_eq_true (show pu ≤ 4 by omega)]; rfl, Bool.true_and]; first | done | rfl, HF6.out⟩
        · go_wp2_with fail
          go_ret
          exact ⟨by rw [show puOK pu true = false from by show (decide (2 ≤ pu) && decide (pu ≤ 4)) = false; rw [decide_eq_false (show ¬ pu ≤ 4 by omega), Bool.and_false], Bool.false_and]; first | done | rfl, HF6.out⟩
      · go_wp2_with fail
        go_ret
        exact ⟨by rw [show puOK pu true = false from by show (decide (2 ≤ pu) && decide (pu ≤ 4)) = false; rw [decide_eq_false (show ¬ 2 ≤ pu by omega), Bool.false_and], Bool.false_and]; first | done | rfl, HF6.out⟩

end Go.Proofs.YtbeoegppldjpoaaDoor
