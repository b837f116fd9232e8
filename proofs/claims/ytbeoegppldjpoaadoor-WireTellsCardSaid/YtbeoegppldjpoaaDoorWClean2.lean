/- The contract of wire.Clean: a request's addresses are written in one way. -/
import Derived.Test.YtbeoegppldjpoaaDoorWClean1
import Derived.Test.YtbeoegppldjpoaaDoorWireRead
namespace Go.Proofs.YtbeoegppldjpoaaDoor
open Go.RowKit
set_option linter.unusedVariables false
set_option linter.unusedSimpArgs false

def kOth (k : Int) : Bool := decide (k = 8) || decide (k = 11) || decide (k = 13)
def mC (s : ByteArray) (h : Bool) : ByteArray × Bool := if h then mailS s.data.toList else (s, true)
def cleanRq (r : Rq) : Rq × Bool :=
  if r.ok && (mC r.ma (ptOf r.k).ma).2 && (mC r.ot (kOth r.k)).2 then (⟨r.k, r.pu, r.so, (mC r.ma (ptOf r.k).ma).1, (mC r.ot (kOth r.k)).1, r.se, r.pa⟩, true) else (rqNo, false)
theorem clean_end {R : Ending → World → Prop} {tmps : Array Value} {W : World} {b : Nat} {x0 x1 x2 x3 x4 x5 x6 y : Value} (hb : tmps.getD 2 undef = .pointer (some ⟨b, 0, none⟩)) (hy : tmps.getD 3 undef = y) (hc : W.heap[b]? = some (.cells #[x0, x1, x2, x3, x4, x5, x6] 23 (0, 0))) (h : R (.returned (.tuple #[.agg #[x0, x1, x2, x3, x4, x5, x6], y])) W) :
    bodyPost Tryd.prog Tryd.f8 R Exit.ret { tmps := tmps, defers := [] } W := by
  have hres : Tryd.f8.results = #[.cell 2 23, .tmp 3] := by kernel_rfl
  obtain ⟨d0, d1, d2, d3, d4, d5, d6⟩ := rq_cells hc
  refine bodyPost_ret (v := .tuple #[.agg #[x0, x1, x2, x3, x4, x5, x6], y]) ?_ rfl h
  rw [Array.getD_eq_getD_getElem?] at hb hy
  simp only [results, hres]
  go_simp
theorem Clean1_calls (w : World) (hM : ML w) (R j : Nat) (cs : Array Value) (T : TypeId) (s : ByteArray) (hR : w.heap[R]? = some (.cells cs T (0, 0))) (hj : cs[j]? = some (.string s)) (hs : s.size ≤ 100000)
    (B : Nat) (b : Bool) (hB : w.heap[B]? = some (.cells #[.bool b] 4 (0, 0))) (hRB : R ≠ B) (has : Bool) :
    Calls Tryd.prog 18 #[.pointer (some ⟨R, j, none⟩), .bool has, .pointer (some ⟨B, 0, none⟩)] w (ClnPost w R B (cs.setIfInBounds j (.string (mC s has).1)) T (b && (mC s has).2)) := by
  cases has
  · refine (Clean1_no w _ _).mono ?_
    rintro e w' ⟨rfl, rfl⟩
    have h1 : cs.setIfInBounds j (.string (mC s false).1) = cs := by
      refine Array.ext (by simp) fun i h1 h2 => ?_
      rw [Array.getElem_setIfInBounds]
      split
      · subst j
        rw [Array.getElem?_eq_getElem h2] at hj
        exact (Option.some.inj hj).symm
      · rfl
    rw [h1]
    exact ⟨rfl, hR, by rw [show (mC s false).2 = true from rfl, Bool.and_true]; exact hB, Fr.refl _ _⟩
  · exact Clean1_yes w hM R j cs T s hR hj hs B b hB hRB _ _ rfl
set_option maxHeartbeats 4000000 in
set_option maxRecDepth 100000 in
theorem Clean_calls (w : World) (hM : ML w) (k pu : Int) (so ma ot se pa : ByteArray) (hs : (Rq.mk k pu so ma ot se pa).short 100000) :
    Calls Tryd.prog 8 #[.agg #[.int .i64 k, .int .i64 pu, .string so, .string ma, .string ot, .string se, .string pa]] w fun e w' => e = .returned (.tuple #[(cleanRq ⟨k, pu, so, ma, ot, se, pa⟩).1.val, .bool (cleanRq ⟨k, pu, so, ma, ot, se, pa⟩).2]) ∧ Fr [] w w' := by
  have hmf : ∀ (fn : Fn) (first cap : Array Value) (w : World), (Instr.makeFunc fn first cap).run Tryd.prog w = .ok (.func fn first cap) w := fun _ _ _ _ => rfl
  unfold cleanRq
  simp only
  have hck := fun W => Check_calls W k pu so ma ot se pa ⟨Nat.le_trans hs.1 (by decide), Nat.le_trans hs.2.1 (by decide), Nat.le_trans hs.2.2.1 (by decide), Nat.le_trans hs.2.2.2.1 (by decide), Nat.le_trans hs.2.2.2.2 (by decide)⟩
  have hof := fun W => of_calls W k
  generalize (Rq.mk k pu so ma ot se pa).ok = ok at *
  generalize ptOf k = p at *
  generalize kIs k = kb at *
  obtain ⟨p0, p1, p2, p3, p4⟩ := p
  obtain ⟨-, hs1, hs2, -, -⟩ := hs
  simp only at hs1 hs2 ⊢
  have k1 := fun W h R cs hR hj B b hB hRB => Clean1_calls W h R 3 cs 23 ma hR hj hs1 B b hB hRB p0
  have hcase : ((k == 8) = true ∧ kOth k = true) ∨ ((k == 8) = false ∧ (k == 11) = true ∧ kOth k = true) ∨ ((k == 8) = false ∧ (k == 11) = false ∧ (k == 13) = true ∧ kOth k = true) ∨ ((k == 8) = false ∧ (k == 11) = false ∧ (k == 13) = false ∧ kOth k = false) := by
    by_cases h8 : k = 8
    · exact .inl ⟨by rw [h8]; rfl, by rw [h8]; rfl⟩
    · by_cases h11 : k = 11
      · exact .inr (.inl ⟨by rw [h11]; rfl, by rw [h11]; rfl, by rw [h11]; rfl⟩)
      · by_cases h13 : k = 13
        · exact .inr (.inr (.inl ⟨by rw [h13]; rfl, by rw [h13]; rfl, by rw [h13]; rfl, by rw [h13]; rfl⟩))
        · exact .inr (.inr (.inr ⟨beq_eq_false_iff_ne.2 h8, beq_eq_false_iff_ne.2 h11, beq_eq_false_iff_ne.2 h13, by unfold kOth; rw [decide_eq_false h8, decide_eq_false h11, decide_eq_false h13]; rfl⟩))
  generalize kOth k = has at *
  have k2 := fun W h R cs hR hj B b hB hRB => Clean1_calls W h R 4 cs 23 ot hR hj hs2 B b hB hRB has
  generalize mC ot has = c2 at *
  obtain ⟨ot', is2⟩ := c2
  generalize mC ma p0 = c1 at *
  obtain ⟨ma', is1⟩ := c1
  simp only at k1 k2 ⊢
  simp only [Pt.val] at hof
  obtain ⟨res, hres⟩ : ∃ res, (ok && is1 && is2) = res := ⟨_, rfl⟩
  rw [hres]
  have HRES := Lib.hid hres
  clear hres
  have HOF := Lib.hid hof
  have HCK := Lib.hid hck
  have K1 := Lib.hid k1
  have K2 := Lib.hid k2
  have HM := Lib.hid hM
  have HC := Lib.hid hcase
  clear hof hck k1 k2 hs1 hs2 hM hcase
  go_enter Tryd.func8, Tryd.ntmps8
  go_wp2_with fail
  have hr0 := alloc_keep (o := .cells #[.int .i64 0, .int .i64 0, .string ⟨#[]⟩, .string ⟨#[]⟩, .string ⟨#[]⟩, .string ⟨#[]⟩, .string ⟨#[]⟩] 23) (heap_alloc_new w (.cells #[.int .i64 k, .int .i64 pu, .string so, .string ma, .string ot, .string se, .string pa] 23))
  have hz0 := heap_alloc_new (w.alloc (.cells #[.int .i64 k, .int .i64 pu, .string so, .string ma, .string ot, .string se, .string pa] 23)) (.cells #[.int .i64 0, .int .i64 0, .string ⟨#[]⟩, .string ⟨#[]⟩, .string ⟨#[]⟩, .string ⟨#[]⟩, .string ⟨#[]⟩] 23)
  have hF0 : Fr [] w ((w.alloc (.cells #[.int .i64 k, .int .i64 pu, .string so, .string ma, .string ot, .string se, .string pa] 23)).alloc (.cells #[.int .i64 0, .int .i64 0, .string ⟨#[]⟩, .string ⟨#[]⟩, .string ⟨#[]⟩, .string ⟨#[]⟩, .string ⟨#[]⟩] 23)) := ((Fr.refl _ _).alloc _).alloc _
  have hsz : (w.alloc (.cells #[.int .i64 k, .int .i64 pu, .string so, .string ma, .string ot, .string se, .string pa] 23)).heap.size = w.heap.size + 1 := by simp
  rw [hsz] at hz0
  clear hsz
  have hs0 : ((w.alloc (.cells #[.int .i64 k, .int .i64 pu, .string so, .string ma, .string ot, .string se, .string pa] 23)).alloc (.cells #[.int .i64 0, .int .i64 0, .string ⟨#[]⟩, .string ⟨#[]⟩, .string ⟨#[]⟩, .string ⟨#[]⟩, .string ⟨#[]⟩] 23)).heap.size = w.heap.size + 2 := by simp
  generalize (w.alloc (.cells #[.int .i64 k, .int .i64 pu, .string so, .string ma, .string ot, .string se, .string pa] 23)).alloc (.cells #[.int .i64 0, .int .i64 0, .string ⟨#[]⟩, .string ⟨#[]⟩, .string ⟨#[]⟩, .string ⟨#[]⟩, .string ⟨#[]⟩] 23) = W0 at *
  obtain ⟨Z, hZ⟩ : ∃ Z, w.heap.size + 1 = Z := ⟨_, rfl⟩
  obtain ⟨R, hR⟩ : ∃ R, w.heap.size = R := ⟨_, rfl⟩
  rw [hZ] at hz0
  rw [hR] at hr0
  have HZ := Lib.hid (show w.heap.size = R ∧ w.heap.size + 1 = Z ∧ W0.heap.size = R + 2 from ⟨hR, hZ, by omega⟩)
  rw [hZ]
  rw [hR]
  clear hZ hR hs0
  obtain ⟨c0, c1, c2, c3, c4, c5, c6⟩ := rq_cells hr0
  go_wp2_with fail
  clear c0 c1 c2 c3 c4 c5 c6
  (with_reducible refine (HOF.out _).mono ?_)
  rintro e w1 ⟨rfl, hf1⟩
  have hr1 := blk_keep hr0 hf1 (by simp)
  have hz1 := blk_keep hz0 hf1 (by simp)
  have hF1 := hF0.then hf1
  have HS1 := Lib.hid hf1.size
  clear hr0 hz0 hF0 hf1 HOF
  have d0 := fun o => (rq_cells (alloc_keep (o := o) hr1)).1
  have d1 := fun o => (rq_cells (alloc_keep (o := o) hr1)).2.1
  have d2 := fun o => (rq_cells (alloc_keep (o := o) hr1)).2.2.1
  have d3 := fun o => (rq_cells (alloc_keep (o := o) hr1)).2.2.2.1
  have d4 := fun o => (rq_cells (alloc_keep (o := o) hr1)).2.2.2.2.1
  have d5 := fun o => (rq_cells (alloc_keep (o := o) hr1)).2.2.2.2.2.1
  have d6 := fun o => (rq_cells (alloc_keep (o := o) hr1)).2.2.2.2.2.2
  go_wp2_with fail
  clear d0 d1 d2 d3 d4 d5 d6
  have hq2 := heap_alloc_new w1 (.cells #[.bool p0, .bool p1, .bool p2, .bool p3, .bool p4] 43)
  have hr2 := alloc_keep (o := (.cells #[.bool p0, .bool p1, .bool p2, .bool p3, .bool p4] 43)) hr1
  have hz2 := alloc_keep (o := (.cells #[.bool p0, .bool p1, .bool p2, .bool p3, .bool p4] 43)) hz1
  have hF2 := hF1.alloc (.cells #[.bool p0, .bool p1, .bool p2, .bool p3, .bool p4] 43)
  have hs2 : (w1.alloc (.cells #[.bool p0, .bool p1, .bool p2, .bool p3, .bool p4] 43)).heap.size = w1.heap.size + 1 := by simp
  generalize w1.alloc (.cells #[.bool p0, .bool p1, .bool p2, .bool p3, .bool p4] 43) = w2 at *
  clear hr1 hz1 hF1
  generalize hQ : w1.heap.size = Q at *
  have HQ := Lib.hid (show Q = w1.heap.size ∧ w2.heap.size = Q + 1 from ⟨hQ.symm, hs2⟩)
  clear hQ hs2
  (with_reducible refine (HCK.out _).mono ?_)
  rintro e w3 ⟨rfl, hf3⟩
  have hr3 := blk_keep hr2 hf3 (by simp)
  have hz3 := blk_keep hz2 hf3 (by simp)
  have hq3 := blk_keep hq2 hf3 (by simp)
  have hF3 := hF2.then hf3
  have HS3 := Lib.hid hf3.size
  clear hr2 hz2 hq2 hF2 hf3 HCK
  have dq := fun o => show (w3.alloc o).cell? ⟨Q, 0, none⟩ = some (.bool p0) from by rw [Lib.cell_of_heap (alloc_keep (o := o) hq3)]; rfl
  go_wp2_with fail
  clear dq hq3
  have hb4 := heap_alloc_new w3 (.cells #[.bool ok] 4)
  have hr4 := alloc_keep (o := .cells #[.bool ok] 4) hr3
  have hz4 := alloc_keep (o := .cells #[.bool ok] 4) hz3
  have hF4 := hF3.alloc (.cells #[.bool ok] 4)
  generalize w3.alloc (.cells #[.bool ok] 4) = w4 at *
  clear hr3 hz3 hF3
  generalize hB : w3.heap.size = B at *
  have HN := Lib.hid (show w.heap.size ≤ R ∧ w.heap.size ≤ B ∧ R ≠ B ∧ Z ≠ B ∧ R ≠ Z ∧ w.heap.size ≤ Z from by
    have h1 := HZ.out
    have h2 := HS1.out
    have h3 := HQ.out
    have h4 := HS3.out
    omega)
  clear hB HZ HS1 HQ HS3
  (with_reducible refine (K1.out _ (HM.out.keep hF4) _ _ hr4 rfl _ _ hb4 HN.out.2.2.1).mono ?_)
  rintro e w5 ⟨rfl, hr5, hb5, hf5⟩
  have hr5 : w5.heap[R]? = some (.cells #[.int .i64 k, .int .i64 pu, .string so, .string ma', .string ot, .string se, .string pa] 23 (0, 0)) := hr5
  have hz5 := blk_keep hz4 hf5 (by have := HN.out; simp; omega)
  have hF5 := hF4.trans hf5 (fun i hi => .inr (by simp at hi; have := HN.out; omega))
  clear hr4 hz4 hb4 hF4 hf5 K1
  obtain ⟨c0, c1, c2, c3, c4, c5, c6⟩ := rq_cells hr5
  have HR5 := Lib.hid hr5
  have HZ5 := Lib.hid hz5
  have HB5 := Lib.hid hb5
  have HF5 := Lib.hid hF5
  clear hr5 hz5 hb5 hF5
  rcases HC.out with ⟨g1, rfl⟩ | ⟨g1, g2, rfl⟩ | ⟨g1, g2, g3, rfl⟩ | ⟨g1, g2, g3, rfl⟩
  all_goals
    clear HC
    go_wp2_with fail
    (with_reducible refine (K2.out _ (HM.out.keep HF5.out) _ _ HR5.out rfl _ _ HB5.out HN.out.2.2.1).mono ?_)
    rintro e w6 ⟨rfl, hr6, hb6, hf6⟩
    have hr6 : w6.heap[R]? = some (.cells #[.int .i64 k, .int .i64 pu, .string so, .string ma', .string ot', .string se, .string pa] 23 (0, 0)) := hr6
    have HZ6 := Lib.hid (blk_keep HZ5.out hf6 (by have := HN.out; simp; omega))
    have HF6 := Lib.hid (HF5.out.trans hf6 (fun i hi => .inr (by simp at hi; have := HN.out; omega)))
    clear hf6 HR5 HZ5 HB5 HF5 K2 c0 c1 c2 c3 c4 c5 c6
    obtain ⟨c0, c1, c2, c3, c4, c5, c6⟩ := rq_cells hr6
    have cb : w6.cell? ⟨B, 0, none⟩ = some (.bool (ok && is1 && is2)) := by rw [Lib.cell_of_heap hb6]; rfl
    clear hr6 hb6
    rw [HRES.out] at cb
    clear HRES
    cases res
    · go_wp2_with (refine wpList_store_row rfl 23 _ _ rfl Z #[.int .i64 0, .int .i64 0, .string ⟨#[]⟩, .string ⟨#[]⟩, .string ⟨#[]⟩, .string ⟨#[]⟩, .string ⟨#[]⟩] rfl rfl 23 _ HZ6.out infoRq rfl (by simp [Value.oneCell']) ?_)
      refine clean_end (b := Z) rfl rfl (setRow_heap _ _ _ _ _ _ HZ6.out) ⟨rfl, setRow_fr2 _ _ HF6.out HN.out.2.2.2.2.2⟩
    · go_wp2_with (refine wpList_store_row rfl 23 _ _ rfl Z #[.int .i64 k, .int .i64 pu, .string so, .string ma', .string ot', .string se, .string pa] rfl rfl 23 _ HZ6.out infoRq rfl (by simp [Value.oneCell']) ?_)
      refine clean_end (b := Z) rfl rfl (setRow_heap _ _ _ _ _ _ HZ6.out) ⟨rfl, setRow_fr2 _ _ HF6.out HN.out.2.2.2.2.2⟩
end Go.Proofs.YtbeoegppldjpoaaDoor
