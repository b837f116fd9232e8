/- The contract of 'made' of the statements of layer 19: a request that may be, of any. -/
import Derived.Test.YtbeoegppldjpoaaDoorWireLess
import Derived.Test.YtbeoegppldjpoaaDoorWireHas
import Derived.Deep.Cut
import Derived.Deep.RegionHeld3
namespace Go.Proofs.YtbeoegppldjpoaaDoor
open Go.RowKit
set_option linter.unusedVariables false
set_option linter.unusedSimpArgs false

def madeP (p : Pt) (k pu : Int) (so ma ot se pa : ByteArray) : Rq := ⟨1 + k % 16, if p.pu = true then 2 + pu % 3 else 0, shortB (so ++ ⟨#[115]⟩) 20, if p.ma = true then shortB (ma ++ ⟨#[109]⟩) 64 else ⟨#[]⟩, if p.ot = true then shortB (ot ++ ⟨#[111]⟩) 64 else ⟨#[]⟩, if p.se = true then shortB (se ++ ⟨#[107]⟩) 64 else ⟨#[]⟩, if p.pa = true then shortB (pa ++ ⟨#[112]⟩) 64 else ⟨#[]⟩⟩
def rqMade (r : Rq) : Rq := madeP (ptOf (1 + r.k % 16)) r.k r.pu r.so r.ma r.ot r.se r.pa
theorem rem16 (k : Int) : (k.tmod 16 + 16).tmod 16 = k % 16 := by
  have h1 : -16 < k.tmod 16 := Int.lt_tmod_of_pos _ (by decide)
  rw [Int.tmod_eq_emod_of_nonneg (by omega)]
  have h2 := Int.tmod_eq_emod (a := k) (b := 16)
  split at h2
  · omega
  · simp at h2
    omega
theorem rem3 (k : Int) : (k.tmod 3 + 3).tmod 3 = k % 3 := by
  have h1 : -3 < k.tmod 3 := Int.lt_tmod_of_pos _ (by decide)
  rw [Int.tmod_eq_emod_of_nonneg (by omega)]
  have h2 := Int.tmod_eq_emod (a := k) (b := 3)
  split at h2
  · omega
  · simp at h2
    omega
theorem short1_size (x : ByteArray) (c : UInt8) (n : Nat) (hn : 1 ≤ n) : (shortB (x ++ ⟨#[c]⟩) n).size ≠ 0 := by
  have h : (x ++ ⟨#[c]⟩ : ByteArray).size = x.size + 1 := by rw [ByteArray.size_append]; rfl
  unfold shortB
  split
  · rw [ByteArray.size_extract]
    omega
  · omega
theorem tOK_made (x : ByteArray) (c : UInt8) (b : Bool) : tOK (if b = true then shortB (x ++ ⟨#[c]⟩) 64 else ⟨#[]⟩) b = true := by
  cases b
  · rfl
  · rw [if_pos rfl, tOK_yes (by rw [decide_eq_true (short1_size x c 64 (by decide))])]
    exact decide_eq_true (shortB_size _ _)
theorem rqMade_ok (r : Rq) : (rqMade r).ok = true := by
  have hk : kIs (1 + r.k % 16) = true := by unfold kIs; rw [decide_eq_true (by omega), decide_eq_true (by omega)]; rfl
  show (kIs (1 + r.k % 16) && rqOK (ptOf (1 + r.k % 16)) (rqMade r)) = true
  rw [hk, Bool.true_and]
  show (tOK (rqMade r).ma _ && tOK (rqMade r).ot _ && tOK (rqMade r).se _ && tOK (rqMade r).pa _ && puOK (rqMade r).pu _ && soOK (rqMade r).so) = true
  unfold rqMade madeP
  simp only [tOK_made, Bool.true_and]
  have h1 : soOK (shortB (r.so ++ ⟨#[115]⟩) 20) = true := by
    unfold soOK
    rw [decide_eq_true (short1_size r.so 115 20 (by decide)), decide_eq_true (shortB_size _ _)]
    rfl
  rw [h1, Bool.and_true]
  unfold puOK
  cases (ptOf (1 + r.k % 16)).pu
  · rfl
  · simp only [if_true, Bool.and_eq_true, decide_eq_true_eq]
    omega
theorem pt_cellsB {W : World} {R : Nat} {v0 v1 v2 v3 v4 : Value} {T : TypeId} (h : W.heap[R]? = some (.cells #[v0, v1, v2, v3, v4] T (0, 0))) :
    W.cell? ⟨R, 0, none⟩ = some v0 ∧ W.cell? ⟨R, 1, none⟩ = some v1 ∧ W.cell? ⟨R, 2, none⟩ = some v2 ∧ W.cell? ⟨R, 3, none⟩ = some v3 ∧ W.cell? ⟨R, 4, none⟩ = some v4 :=
  ⟨by rw [Lib.cell_of_heap h]; rfl, by rw [Lib.cell_of_heap h]; rfl, by rw [Lib.cell_of_heap h]; rfl, by rw [Lib.cell_of_heap h]; rfl, by rw [Lib.cell_of_heap h]; rfl⟩
theorem made_end {R : Ending → World → Prop} {tmps : Array Value} {W : World} {b : Nat} {x0 x1 x2 x3 x4 x5 x6 : Value} (hb : tmps.getD 2 undef = .pointer (some ⟨b, 0, none⟩)) (hc : W.heap[b]? = some (.cells #[x0, x1, x2, x3, x4, x5, x6] 23 (0, 0))) (h : R (.returned (.agg #[x0, x1, x2, x3, x4, x5, x6])) W) :
    bodyPost Tryd.prog Tryd.f6 R Exit.ret { tmps := tmps, defers := [] } W := by
  have hres : Tryd.f6.results = #[.cell 2 23] := by kernel_rfl
  obtain ⟨d0, d1, d2, d3, d4, d5, d6⟩ := rq_cells hc
  refine bodyPost_ret (v := .agg #[x0, x1, x2, x3, x4, x5, x6]) ?_ rfl h
  rw [Array.getD_eq_getD_getElem?] at hb
  simp only [results, hres]
  go_simp
/-- What lies about while a request is made: it came in at R, is made at X, and the result's place is Z. -/
structure Mk (w W : World) (R Z X : Nat) (cs : Array Value) (xs : Array Value) : Prop where
  hr : W.heap[R]? = some (.cells cs 23 (0, 0))
  hz : W.heap[Z]? = some (.cells #[.int .i64 0, .int .i64 0, .string ⟨#[]⟩, .string ⟨#[]⟩, .string ⟨#[]⟩, .string ⟨#[]⟩, .string ⟨#[]⟩] 23 (0, 0))
  hx : W.heap[X]? = some (.cells xs 23 (0, 0))
  fr : Fr [] w W
  wr : w.heap.size ≤ R
  wz : w.heap.size ≤ Z
  wx : w.heap.size ≤ X
  rx : R ≠ X
  zx : Z ≠ X
theorem Mk.new {w W : World} {R Z : Nat} {cs : Array Value} (hr : W.heap[R]? = some (.cells cs 23 (0, 0))) (hz : W.heap[Z]? = some (.cells #[.int .i64 0, .int .i64 0, .string ⟨#[]⟩, .string ⟨#[]⟩, .string ⟨#[]⟩, .string ⟨#[]⟩, .string ⟨#[]⟩] 23 (0, 0))) (hf : Fr [] w W) (hw : w.heap.size ≤ R ∧ w.heap.size ≤ Z) (xs : Array Value) : Mk w (W.alloc (.cells xs 23)).drew R Z W.heap.size cs xs :=
  ⟨alloc_keep hr, alloc_keep hz, heap_alloc_new _ _, (hf.alloc _).drew, hw.1, hw.2, hf.size, by have := lt_of_heap hr; omega, by have := lt_of_heap hz; omega⟩
theorem Mk.keep {w W W' : World} {R Z X : Nat} {cs xs : Array Value} (h : Mk w W R Z X cs xs) (hf : Fr [] W W') : Mk w W' R Z X cs xs :=
  ⟨blk_keep h.hr hf (by simp), blk_keep h.hz hf (by simp), blk_keep h.hx hf (by simp), h.fr.then hf, h.wr, h.wz, h.wx, h.rx, h.zx⟩
theorem Mk.set {w W : World} {R Z X : Nat} {cs xs : Array Value} (h : Mk w W R Z X cs xs) (j : Nat) (v : Value) : Mk w (W.setCell ⟨X, j, none⟩ v) R Z X cs (xs.setIfInBounds j v) :=
  ⟨blk_other h.hr h.rx, blk_other h.hz h.zx, blk_set j v h.hx, h.fr.setCell (.inr h.wx) _, h.wr, h.wz, h.wx, h.rx, h.zx⟩

set_option maxHeartbeats 4000000 in
set_option maxRecDepth 100000 in
theorem made_0 (w : World) (k pu : Int) (so ma ot se pa : ByteArray) (hs : (Rq.mk k pu so ma ot se pa).short 1000) (hk : ptOf (1 + k % 16) = ⟨true, false, false, true, false⟩) :
    Calls Tryd.prog 6 #[.agg #[.int .i64 k, .int .i64 pu, .string so, .string ma, .string ot, .string se, .string pa]] w fun e w' => e = .returned (rqMade ⟨k, pu, so, ma, ot, se, pa⟩).val ∧ Fr [] w w' := by
  have hm : rqMade ⟨k, pu, so, ma, ot, se, pa⟩ = madeP ⟨true, false, false, true, false⟩ k pu so ma ot se pa := by rw [← hk]; rfl
  rw [hm]
  clear hm
  obtain ⟨hs0, hs1, hs2, hs3, hs4⟩ := hs
  simp only at hs0 hs1 hs2 hs3 hs4
  have hki : kIs (1 + k % 16) = true := by unfold kIs; rw [decide_eq_true (by omega), decide_eq_true (by omega)]; rfl
  have hhas : ∀ W, Calls Tryd.prog 16 #[.int .i64 (1 + k % 16)] W fun e w' => e = .returned (.tuple #[(Pt.mk true false false true false).val, .bool true]) ∧ Fr [] W w' := fun W => by
    have h := Has_calls W (1 + k % 16)
    rw [hk, hki] at h
    exact h
  simp only [Pt.val] at hhas
  obtain ⟨T, hT, hT0, hT1⟩ : ∃ T, k.tmod 16 = T ∧ -16 < T ∧ T < 16 := ⟨_, rfl, Int.lt_tmod_of_pos _ (by decide), Int.tmod_lt_of_pos _ (by decide)⟩
  obtain ⟨q, hq, hqx, hq16⟩ : ∃ q : Nat, (T + 16).tmod 16 = (q : Int) ∧ (q : Int) = k % 16 ∧ q < 16 := ⟨(k % 16).toNat, by rw [← hT, rem16]; omega, by omega, by omega⟩
  obtain ⟨U, hU, hU0, hU1⟩ : ∃ U, pu.tmod 3 = U ∧ -3 < U ∧ U < 3 := ⟨_, rfl, Int.lt_tmod_of_pos _ (by decide), Int.tmod_lt_of_pos _ (by decide)⟩
  obtain ⟨u, hu, hux, hu3⟩ : ∃ u : Nat, (U + 3).tmod 3 = (u : Int) ∧ (u : Int) = pu % 3 ∧ u < 3 := ⟨(pu % 3).toNat, by rw [← hU, rem3]; omega, by omega, by omega⟩
  unfold madeP Rq.val
  try simp only
  rw [← hqx] at hhas ⊢
  rw [← hux]
  have hw1 : IntKind.i64.wrap (T + 16) = T + 16 := by rw [IntKind.wrap_i64]; omega
  have hw2 : IntKind.i64.wrap (1 + (q : Int)) = 1 + (q : Int) := by rw [IntKind.wrap_i64]; omega
  have hv1 : IntKind.i64.wrap (U + 3) = U + 3 := by rw [IntKind.wrap_i64]; omega
  have hv2 : IntKind.i64.wrap (2 + (u : Int)) = 2 + (u : Int) := by rw [IntKind.wrap_i64]; omega
  have ha0 : (so ++ ⟨#[115]⟩ : ByteArray).size = so.size + 1 := by rw [ByteArray.size_append]; rfl
  have hy0 := fun W => short19_calls (so ++ ⟨#[115]⟩) 20 20 rfl W (by omega) (by decide)
  have hg0 : (9223372036854775807 < so.size + (⟨#[115]⟩ : ByteArray).size) = False := by rw [show (⟨#[115]⟩ : ByteArray).size = 1 from rfl]; simp; omega
  have hh0 : (9223372036854775807 < so.size + 1) = False := by simp; omega
  generalize shortB (so ++ ⟨#[115]⟩) 20 = y0 at *
  have HY0 := Lib.hid hy0
  clear ha0 hy0
  have ha1 : (ma ++ ⟨#[109]⟩ : ByteArray).size = ma.size + 1 := by rw [ByteArray.size_append]; rfl
  have hy1 := fun W => short19_calls (ma ++ ⟨#[109]⟩) 64 64 rfl W (by omega) (by decide)
  have hg1 : (9223372036854775807 < ma.size + (⟨#[109]⟩ : ByteArray).size) = False := by rw [show (⟨#[109]⟩ : ByteArray).size = 1 from rfl]; simp; omega
  have hh1 : (9223372036854775807 < ma.size + 1) = False := by simp; omega
  generalize shortB (ma ++ ⟨#[109]⟩) 64 = y1 at *
  have HY1 := Lib.hid hy1
  clear ha1 hy1
  have ha2 : (ot ++ ⟨#[111]⟩ : ByteArray).size = ot.size + 1 := by rw [ByteArray.size_append]; rfl
  have hy2 := fun W => short19_calls (ot ++ ⟨#[111]⟩) 64 64 rfl W (by omega) (by decide)
  have hg2 : (9223372036854775807 < ot.size + (⟨#[111]⟩ : ByteArray).size) = False := by rw [show (⟨#[111]⟩ : ByteArray).size = 1 from rfl]; simp; omega
  have hh2 : (9223372036854775807 < ot.size + 1) = False := by simp; omega
  generalize shortB (ot ++ ⟨#[111]⟩) 64 = y2 at *
  have HY2 := Lib.hid hy2
  clear ha2 hy2
  have ha3 : (se ++ ⟨#[107]⟩ : ByteArray).size = se.size + 1 := by rw [ByteArray.size_append]; rfl
  have hy3 := fun W => short19_calls (se ++ ⟨#[107]⟩) 64 64 rfl W (by omega) (by decide)
  have hg3 : (9223372036854775807 < se.size + (⟨#[107]⟩ : ByteArray).size) = False := by rw [show (⟨#[107]⟩ : ByteArray).size = 1 from rfl]; simp; omega
  have hh3 : (9223372036854775807 < se.size + 1) = False := by simp; omega
  generalize shortB (se ++ ⟨#[107]⟩) 64 = y3 at *
  have HY3 := Lib.hid hy3
  clear ha3 hy3
  have ha4 : (pa ++ ⟨#[112]⟩ : ByteArray).size = pa.size + 1 := by rw [ByteArray.size_append]; rfl
  have hy4 := fun W => short19_calls (pa ++ ⟨#[112]⟩) 64 64 rfl W (by omega) (by decide)
  have hg4 : (9223372036854775807 < pa.size + (⟨#[112]⟩ : ByteArray).size) = False := by rw [show (⟨#[112]⟩ : ByteArray).size = 1 from rfl]; simp; omega
  have hh4 : (9223372036854775807 < pa.size + 1) = False := by simp; omega
  generalize shortB (pa ++ ⟨#[112]⟩) 64 = y4 at *
  have HY4 := Lib.hid hy4
  clear ha4 hy4
  have HHAS := Lib.hid hhas
  clear hhas hk hki hqx hux hs0 hs1 hs2 hs3 hs4
  go_enter Tryd.func6, Tryd.ntmps6
  go_wp2_with fail
  have hr0 := alloc_keep (o := .cells #[.int .i64 0, .int .i64 0, .string ⟨#[]⟩, .string ⟨#[]⟩, .string ⟨#[]⟩, .string ⟨#[]⟩, .string ⟨#[]⟩] 23) (heap_alloc_new w (.cells #[.int .i64 k, .int .i64 pu, .string so, .string ma, .string ot, .string se, .string pa] 23))
  have hz0 := heap_alloc_new (w.alloc (.cells #[.int .i64 k, .int .i64 pu, .string so, .string ma, .string ot, .string se, .string pa] 23)) (.cells #[.int .i64 0, .int .i64 0, .string ⟨#[]⟩, .string ⟨#[]⟩, .string ⟨#[]⟩, .string ⟨#[]⟩, .string ⟨#[]⟩] 23)
  have hF0 : Fr [] w ((w.alloc (.cells #[.int .i64 k, .int .i64 pu, .string so, .string ma, .string ot, .string se, .string pa] 23)).alloc (.cells #[.int .i64 0, .int .i64 0, .string ⟨#[]⟩, .string ⟨#[]⟩, .string ⟨#[]⟩, .string ⟨#[]⟩, .string ⟨#[]⟩] 23)) := ((Fr.refl _ _).alloc _).alloc _
  have hsz : (w.alloc (.cells #[.int .i64 k, .int .i64 pu, .string so, .string ma, .string ot, .string se, .string pa] 23)).heap.size = w.heap.size + 1 := by simp
  have hsz2 : ((w.alloc (.cells #[.int .i64 k, .int .i64 pu, .string so, .string ma, .string ot, .string se, .string pa] 23)).alloc (.cells #[.int .i64 0, .int .i64 0, .string ⟨#[]⟩, .string ⟨#[]⟩, .string ⟨#[]⟩, .string ⟨#[]⟩, .string ⟨#[]⟩] 23)).heap.size = w.heap.size + 2 := by simp
  rw [hsz] at hz0
  generalize (w.alloc (.cells #[.int .i64 k, .int .i64 pu, .string so, .string ma, .string ot, .string se, .string pa] 23)).alloc (.cells #[.int .i64 0, .int .i64 0, .string ⟨#[]⟩, .string ⟨#[]⟩, .string ⟨#[]⟩, .string ⟨#[]⟩, .string ⟨#[]⟩] 23) = W0 at *
  clear hsz
  obtain ⟨c0, c1, c2, c3, c4, c5, c6⟩ := rq_cells hr0
  have HR0 := Lib.hid hr0
  have HZ0 := Lib.hid hz0
  have HF0 := Lib.hid hF0
  have hZ1 : w.heap.size + 1 ≠ w.heap.size + 2 := by omega
  have hZ2 : w.heap.size ≠ w.heap.size + 2 := by omega
  have HZ1 := Lib.hid (show w.heap.size ≤ w.heap.size ∧ w.heap.size ≤ w.heap.size + 1 ∧ W0.heap.size = w.heap.size + 2 by omega)
  clear hr0 hz0 hF0 hZ1 hZ2 hsz2
  generalize w.heap.size + 1 = Z at *
  generalize hR : w.heap.size = R at *
  have HRR := Lib.hid hR
  clear hR
  go_cut [3] from 6 (fun s3 wx => ∃ X, s3 = .pointer (some ⟨X, 0, none⟩) ∧ Hid (Mk w wx R Z X #[.int .i64 k, .int .i64 pu, .string so, .string ma, .string ot, .string se, .string pa] #[.int .i64 (1 + (q : Int)), .int .i64 0, .string y0, .string ⟨#[]⟩, .string ⟨#[]⟩, .string ⟨#[]⟩, .string ⟨#[]⟩]))
  case first =>
    go_region_held3 (fun w' => w'.cell? ⟨R, 0, none⟩ = some (.int .i64 k) ∧ w'.cell? ⟨R, 2, none⟩ = some (.string so)) (first | exact ⟨c0, c2⟩ | go_keep) (first
      | (go_at_call 10; (with_reducible refine (HY0.out _).mono ?_); rintro e w9 ⟨rfl, rfl⟩))
    all_goals
      go_wp2_with fail
      go_meet
      exact ⟨_, rfl, Mk.new HR0.out HZ0.out HF0.out (by have := HZ1.out; have := HRR.out; omega) _⟩
  case rest =>
    obtain ⟨X, rfl, HM⟩ := hcut
    clear c0 c1 c2 c3 c4 c5 c6 HR0 HZ0 HF0 HZ1
    have x0 : wc.cell? ⟨X, 0, none⟩ = some (.int .i64 (1 + (q : Int))) := by rw [Lib.cell_of_heap HM.out.hx]; rfl
    go_wp2_with fail
    clear x0
    (with_reducible refine (HHAS.out _).mono ?_)
    rintro e w2 ⟨rfl, hf2⟩
    have HM2 := Lib.hid (HM.out.keep hf2)
    clear HM hf2 HHAS
    have d := fun o => (show (w2.alloc o).cell? ⟨R, 3, none⟩ = some (.string ma) by rw [Lib.cell_of_heap (alloc_keep HM2.out.hr)]; rfl)
    go_wp2_with fail
    clear d
    have hP := heap_alloc_new w2 (.cells #[.bool true, .bool false, .bool false, .bool true, .bool false] 39)
    have HM3 := Lib.hid (HM2.out.keep ((Fr.refl [] w2).alloc (.cells #[.bool true, .bool false, .bool false, .bool true, .bool false] 39)))
    have hPX : w2.heap.size ≠ X := by have := lt_of_heap HM2.out.hx; omega
    generalize w2.alloc (.cells #[.bool true, .bool false, .bool false, .bool true, .bool false] 39) = W0' at *
    generalize w2.heap.size = P at *
    have HPX := Lib.hid hPX
    clear hPX HM2
    (with_reducible refine (HY1.out _).mono ?_)
    rintro e w3 ⟨rfl, rfl⟩
    have xc : W0'.cell? ⟨X, 3, none⟩ = some (.string ⟨#[]⟩) := by rw [Lib.cell_of_heap HM3.out.hx]; rfl
    have xf : W0'.frozen? ⟨X, 3, none⟩ = false := Lib.frozen_of_heap HM3.out.hx 3
    have hP4 : (W0'.setCell ⟨X, 3, none⟩ (.string y1)).heap[P]? = some (.cells #[.bool true, .bool false, .bool false, .bool true, .bool false] 39 (0, 0)) := blk_other hP HPX.out
    have HM4 := Lib.hid (HM3.out.set 3 (.string y1))
    obtain ⟨p0, p1, p2, p3, p4⟩ := pt_cellsB hP4
    have dr : (W0'.setCell ⟨X, 3, none⟩ (.string y1)).cell? ⟨R, 6, none⟩ = some (.string pa) := by rw [Lib.cell_of_heap HM4.out.hr]; rfl
    go_wp2_with fail
    clear xc xf hP p0 p1 p2 p3 p4 dr
    have hP := hP4
    clear hP4
    have HM4' := HM4
    clear HM3 HM4
    have HM4 := HM4'
    clear HM4'
    generalize (W0'.setCell ⟨X, 3, none⟩ (.string y1)) = W4' at *
    (with_reducible refine (HY4.out _).mono ?_)
    rintro e w3 ⟨rfl, rfl⟩
    have xc : W4'.cell? ⟨X, 6, none⟩ = some (.string ⟨#[]⟩) := by rw [Lib.cell_of_heap HM4.out.hx]; rfl
    have xf : W4'.frozen? ⟨X, 6, none⟩ = false := Lib.frozen_of_heap HM4.out.hx 6
    have hP5 : (W4'.setCell ⟨X, 6, none⟩ (.string y4)).heap[P]? = some (.cells #[.bool true, .bool false, .bool false, .bool true, .bool false] 39 (0, 0)) := blk_other hP HPX.out
    have HM5 := Lib.hid (HM4.out.set 6 (.string y4))
    obtain ⟨p0, p1, p2, p3, p4⟩ := pt_cellsB hP5
    have HMe := HM5
    obtain ⟨l0, l1, l2, l3, l4, l5, l6⟩ := rq_cells HMe.out.hx
    go_wp2_with (refine wpList_store_row rfl 23 _ _ rfl Z #[.int .i64 (1 + (q : Int)), .int .i64 0, .string y0, .string y1, .string ⟨#[]⟩, .string ⟨#[]⟩, .string y4] rfl rfl 23 _ HMe.out.hz infoRq rfl (by simp [Value.oneCell']) ?_)
    exact made_end (b := Z) rfl (setRow_heap _ _ _ _ _ _ HMe.out.hz) ⟨rfl, setRow_fr2 _ _ HMe.out.fr HMe.out.wz⟩
set_option maxHeartbeats 4000000 in
set_option maxRecDepth 100000 in
theorem made_1 (w : World) (k pu : Int) (so ma ot se pa : ByteArray) (hs : (Rq.mk k pu so ma ot se pa).short 1000) (hk : ptOf (1 + k % 16) = ⟨true, false, true, false, false⟩) :
    Calls Tryd.prog 6 #[.agg #[.int .i64 k, .int .i64 pu, .string so, .string ma, .string ot, .string se, .string pa]] w fun e w' => e = .returned (rqMade ⟨k, pu, so, ma, ot, se, pa⟩).val ∧ Fr [] w w' := by
  have hm : rqMade ⟨k, pu, so, ma, ot, se, pa⟩ = madeP ⟨true, false, true, false, false⟩ k pu so ma ot se pa := by rw [← hk]; rfl
  rw [hm]
  clear hm
  obtain ⟨hs0, hs1, hs2, hs3, hs4⟩ := hs
  simp only at hs0 hs1 hs2 hs3 hs4
  have hki : kIs (1 + k % 16) = true := by unfold kIs; rw [decide_eq_true (by omega), decide_eq_true (by omega)]; rfl
  have hhas : ∀ W, Calls Tryd.prog 16 #[.int .i64 (1 + k % 16)] W fun e w' => e = .returned (.tuple #[(Pt.mk true false true false false).val, .bool true]) ∧ Fr [] W w' := fun W => by
    have h := Has_calls W (1 + k % 16)
    rw [hk, hki] at h
    exact h
  simp only [Pt.val] at hhas
  obtain ⟨T, hT, hT0, hT1⟩ : ∃ T, k.tmod 16 = T ∧ -16 < T ∧ T < 16 := ⟨_, rfl, Int.lt_tmod_of_pos _ (by decide), Int.tmod_lt_of_pos _ (by decide)⟩
  obtain ⟨q, hq, hqx, hq16⟩ : ∃ q : Nat, (T + 16).tmod 16 = (q : Int) ∧ (q : Int) = k % 16 ∧ q < 16 := ⟨(k % 16).toNat, by rw [← hT, rem16]; omega, by omega, by omega⟩
  obtain ⟨U, hU, hU0, hU1⟩ : ∃ U, pu.tmod 3 = U ∧ -3 < U ∧ U < 3 := ⟨_, rfl, Int.lt_tmod_of_pos _ (by decide), Int.tmod_lt_of_pos _ (by decide)⟩
  obtain ⟨u, hu, hux, hu3⟩ : ∃ u : Nat, (U + 3).tmod 3 = (u : Int) ∧ (u : Int) = pu % 3 ∧ u < 3 := ⟨(pu % 3).toNat, by rw [← hU, rem3]; omega, by omega, by omega⟩
  unfold madeP Rq.val
  try simp only
  rw [← hqx] at hhas ⊢
  rw [← hux]
  have hw1 : IntKind.i64.wrap (T + 16) = T + 16 := by rw [IntKind.wrap_i64]; omega
  have hw2 : IntKind.i64.wrap (1 + (q : Int)) = 1 + (q : Int) := by rw [IntKind.wrap_i64]; omega
  have hv1 : IntKind.i64.wrap (U + 3) = U + 3 := by rw [IntKind.wrap_i64]; omega
  have hv2 : IntKind.i64.wrap (2 + (u : Int)) = 2 + (u : Int) := by rw [IntKind.wrap_i64]; omega
  have ha0 : (so ++ ⟨#[115]⟩ : ByteArray).size = so.size + 1 := by rw [ByteArray.size_append]; rfl
  have hy0 := fun W => short19_calls (so ++ ⟨#[115]⟩) 20 20 rfl W (by omega) (by decide)
  have hg0 : (9223372036854775807 < so.size + (⟨#[115]⟩ : ByteArray).size) = False := by rw [show (⟨#[115]⟩ : ByteArray).size = 1 from rfl]; simp; omega
  have hh0 : (9223372036854775807 < so.size + 1) = False := by simp; omega
  generalize shortB (so ++ ⟨#[115]⟩) 20 = y0 at *
  have HY0 := Lib.hid hy0
  clear ha0 hy0
  have ha1 : (ma ++ ⟨#[109]⟩ : ByteArray).size = ma.size + 1 := by rw [ByteArray.size_append]; rfl
  have hy1 := fun W => short19_calls (ma ++ ⟨#[109]⟩) 64 64 rfl W (by omega) (by decide)
  have hg1 : (9223372036854775807 < ma.size + (⟨#[109]⟩ : ByteArray).size) = False := by rw [show (⟨#[109]⟩ : ByteArray).size = 1 from rfl]; simp; omega
  have hh1 : (9223372036854775807 < ma.size + 1) = False := by simp; omega
  generalize shortB (ma ++ ⟨#[109]⟩) 64 = y1 at *
  have HY1 := Lib.hid hy1
  clear ha1 hy1
  have ha2 : (ot ++ ⟨#[111]⟩ : ByteArray).size = ot.size + 1 := by rw [ByteArray.size_append]; rfl
  have hy2 := fun W => short19_calls (ot ++ ⟨#[111]⟩) 64 64 rfl W (by omega) (by decide)
  have hg2 : (9223372036854775807 < ot.size + (⟨#[111]⟩ : ByteArray).size) = False := by rw [show (⟨#[111]⟩ : ByteArray).size = 1 from rfl]; simp; omega
  have hh2 : (9223372036854775807 < ot.size + 1) = False := by simp; omega
  generalize shortB (ot ++ ⟨#[111]⟩) 64 = y2 at *
  have HY2 := Lib.hid hy2
  clear ha2 hy2
  have ha3 : (se ++ ⟨#[107]⟩ : ByteArray).size = se.size + 1 := by rw [ByteArray.size_append]; rfl
  have hy3 := fun W => short19_calls (se ++ ⟨#[107]⟩) 64 64 rfl W (by omega) (by decide)
  have hg3 : (9223372036854775807 < se.size + (⟨#[107]⟩ : ByteArray).size) = False := by rw [show (⟨#[107]⟩ : ByteArray).size = 1 from rfl]; simp; omega
  have hh3 : (9223372036854775807 < se.size + 1) = False := by simp; omega
  generalize shortB (se ++ ⟨#[107]⟩) 64 = y3 at *
  have HY3 := Lib.hid hy3
  clear ha3 hy3
  have ha4 : (pa ++ ⟨#[112]⟩ : ByteArray).size = pa.size + 1 := by rw [ByteArray.size_append]; rfl
  have hy4 := fun W => short19_calls (pa ++ ⟨#[112]⟩) 64 64 rfl W (by omega) (by decide)
  have hg4 : (9223372036854775807 < pa.size + (⟨#[112]⟩ : ByteArray).size) = False := by rw [show (⟨#[112]⟩ : ByteArray).size = 1 from rfl]; simp; omega
  have hh4 : (9223372036854775807 < pa.size + 1) = False := by simp; omega
  generalize shortB (pa ++ ⟨#[112]⟩) 64 = y4 at *
  have HY4 := Lib.hid hy4
  clear ha4 hy4
  have HHAS := Lib.hid hhas
  clear hhas hk hki hqx hux hs0 hs1 hs2 hs3 hs4
  go_enter Tryd.func6, Tryd.ntmps6
  go_wp2_with fail
  have hr0 := alloc_keep (o := .cells #[.int .i64 0, .int .i64 0, .string ⟨#[]⟩, .string ⟨#[]⟩, .string ⟨#[]⟩, .string ⟨#[]⟩, .string ⟨#[]⟩] 23) (heap_alloc_new w (.cells #[.int .i64 k, .int .i64 pu, .string so, .string ma, .string ot, .string se, .string pa] 23))
  have hz0 := heap_alloc_new (w.alloc (.cells #[.int .i64 k, .int .i64 pu, .string so, .string ma, .string ot, .string se, .string pa] 23)) (.cells #[.int .i64 0, .int .i64 0, .string ⟨#[]⟩, .string ⟨#[]⟩, .string ⟨#[]⟩, .string ⟨#[]⟩, .string ⟨#[]⟩] 23)
  have hF0 : Fr [] w ((w.alloc (.cells #[.int .i64 k, .int .i64 pu, .string so, .string ma, .string ot, .string se, .string pa] 23)).alloc (.cells #[.int .i64 0, .int .i64 0, .string ⟨#[]⟩, .string ⟨#[]⟩, .string ⟨#[]⟩, .string ⟨#[]⟩, .string ⟨#[]⟩] 23)) := ((Fr.refl _ _).alloc _).alloc _
  have hsz : (w.alloc (.cells #[.int .i64 k, .int .i64 pu, .string so, .string ma, .string ot, .string se, .string pa] 23)).heap.size = w.heap.size + 1 := by simp
  have hsz2 : ((w.alloc (.cells #[.int .i64 k, .int .i64 pu, .string so, .string ma, .string ot, .string se, .string pa] 23)).alloc (.cells #[.int .i64 0, .int .i64 0, .string ⟨#[]⟩, .string ⟨#[]⟩, .string ⟨#[]⟩, .string ⟨#[]⟩, .string ⟨#[]⟩] 23)).heap.size = w.heap.size + 2 := by simp
  rw [hsz] at hz0
  generalize (w.alloc (.cells #[.int .i64 k, .int .i64 pu, .string so, .string ma, .string ot, .string se, .string pa] 23)).alloc (.cells #[.int .i64 0, .int .i64 0, .string ⟨#[]⟩, .string ⟨#[]⟩, .string ⟨#[]⟩, .string ⟨#[]⟩, .string ⟨#[]⟩] 23) = W0 at *
  clear hsz
  obtain ⟨c0, c1, c2, c3, c4, c5, c6⟩ := rq_cells hr0
  have HR0 := Lib.hid hr0
  have HZ0 := Lib.hid hz0
  have HF0 := Lib.hid hF0
  have hZ1 : w.heap.size + 1 ≠ w.heap.size + 2 := by omega
  have hZ2 : w.heap.size ≠ w.heap.size + 2 := by omega
  have HZ1 := Lib.hid (show w.heap.size ≤ w.heap.size ∧ w.heap.size ≤ w.heap.size + 1 ∧ W0.heap.size = w.heap.size + 2 by omega)
  clear hr0 hz0 hF0 hZ1 hZ2 hsz2
  generalize w.heap.size + 1 = Z at *
  generalize hR : w.heap.size = R at *
  have HRR := Lib.hid hR
  clear hR
  go_cut [3] from 6 (fun s3 wx => ∃ X, s3 = .pointer (some ⟨X, 0, none⟩) ∧ Hid (Mk w wx R Z X #[.int .i64 k, .int .i64 pu, .string so, .string ma, .string ot, .string se, .string pa] #[.int .i64 (1 + (q : Int)), .int .i64 0, .string y0, .string ⟨#[]⟩, .string ⟨#[]⟩, .string ⟨#[]⟩, .string ⟨#[]⟩]))
  case first =>
    go_region_held3 (fun w' => w'.cell? ⟨R, 0, none⟩ = some (.int .i64 k) ∧ w'.cell? ⟨R, 2, none⟩ = some (.string so)) (first | exact ⟨c0, c2⟩ | go_keep) (first
      | (go_at_call 10; (with_reducible refine (HY0.out _).mono ?_); rintro e w9 ⟨rfl, rfl⟩))
    all_goals
      go_wp2_with fail
      go_meet
      exact ⟨_, rfl, Mk.new HR0.out HZ0.out HF0.out (by have := HZ1.out; have := HRR.out; omega) _⟩
  case rest =>
    obtain ⟨X, rfl, HM⟩ := hcut
    clear c0 c1 c2 c3 c4 c5 c6 HR0 HZ0 HF0 HZ1
    have x0 : wc.cell? ⟨X, 0, none⟩ = some (.int .i64 (1 + (q : Int))) := by rw [Lib.cell_of_heap HM.out.hx]; rfl
    go_wp2_with fail
    clear x0
    (with_reducible refine (HHAS.out _).mono ?_)
    rintro e w2 ⟨rfl, hf2⟩
    have HM2 := Lib.hid (HM.out.keep hf2)
    clear HM hf2 HHAS
    have d := fun o => (show (w2.alloc o).cell? ⟨R, 3, none⟩ = some (.string ma) by rw [Lib.cell_of_heap (alloc_keep HM2.out.hr)]; rfl)
    go_wp2_with fail
    clear d
    have hP := heap_alloc_new w2 (.cells #[.bool true, .bool false, .bool true, .bool false, .bool false] 39)
    have HM3 := Lib.hid (HM2.out.keep ((Fr.refl [] w2).alloc (.cells #[.bool true, .bool false, .bool true, .bool false, .bool false] 39)))
    have hPX : w2.heap.size ≠ X := by have := lt_of_heap HM2.out.hx; omega
    generalize w2.alloc (.cells #[.bool true, .bool false, .bool true, .bool false, .bool false] 39) = W0' at *
    generalize w2.heap.size = P at *
    have HPX := Lib.hid hPX
    clear hPX HM2
    (with_reducible refine (HY1.out _).mono ?_)
    rintro e w3 ⟨rfl, rfl⟩
    have xc : W0'.cell? ⟨X, 3, none⟩ = some (.string ⟨#[]⟩) := by rw [Lib.cell_of_heap HM3.out.hx]; rfl
    have xf : W0'.frozen? ⟨X, 3, none⟩ = false := Lib.frozen_of_heap HM3.out.hx 3
    have hP4 : (W0'.setCell ⟨X, 3, none⟩ (.string y1)).heap[P]? = some (.cells #[.bool true, .bool false, .bool true, .bool false, .bool false] 39 (0, 0)) := blk_other hP HPX.out
    have HM4 := Lib.hid (HM3.out.set 3 (.string y1))
    obtain ⟨p0, p1, p2, p3, p4⟩ := pt_cellsB hP4
    have dr : (W0'.setCell ⟨X, 3, none⟩ (.string y1)).cell? ⟨R, 5, none⟩ = some (.string se) := by rw [Lib.cell_of_heap HM4.out.hr]; rfl
    go_wp2_with fail
    clear xc xf hP p0 p1 p2 p3 p4 dr
    have hP := hP4
    clear hP4
    have HM4' := HM4
    clear HM3 HM4
    have HM4 := HM4'
    clear HM4'
    generalize (W0'.setCell ⟨X, 3, none⟩ (.string y1)) = W4' at *
    (with_reducible refine (HY3.out _).mono ?_)
    rintro e w3 ⟨rfl, rfl⟩
    have xc : W4'.cell? ⟨X, 5, none⟩ = some (.string ⟨#[]⟩) := by rw [Lib.cell_of_heap HM4.out.hx]; rfl
    have xf : W4'.frozen? ⟨X, 5, none⟩ = false := Lib.frozen_of_heap HM4.out.hx 5
    have hP5 : (W4'.setCell ⟨X, 5, none⟩ (.string y3)).heap[P]? = some (.cells #[.bool true, .bool false, .bool true, .bool false, .bool false] 39 (0, 0)) := blk_other hP HPX.out
    have HM5 := Lib.hid (HM4.out.set 5 (.string y3))
    obtain ⟨p0, p1, p2, p3, p4⟩ := pt_cellsB hP5
    have HMe := HM5
    obtain ⟨l0, l1, l2, l3, l4, l5, l6⟩ := rq_cells HMe.out.hx
    go_wp2_with (refine wpList_store_row rfl 23 _ _ rfl Z #[.int .i64 (1 + (q : Int)), .int .i64 0, .string y0, .string y1, .string ⟨#[]⟩, .string y3, .string ⟨#[]⟩] rfl rfl 23 _ HMe.out.hz infoRq rfl (by simp [Value.oneCell']) ?_)
    exact made_end (b := Z) rfl (setRow_heap _ _ _ _ _ _ HMe.out.hz) ⟨rfl, setRow_fr2 _ _ HMe.out.fr HMe.out.wz⟩
set_option maxHeartbeats 4000000 in
set_option maxRecDepth 100000 in
theorem made_2 (w : World) (k pu : Int) (so ma ot se pa : ByteArray) (hs : (Rq.mk k pu so ma ot se pa).short 1000) (hk : ptOf (1 + k % 16) = ⟨true, false, false, false, true⟩) :
    Calls Tryd.prog 6 #[.agg #[.int .i64 k, .int .i64 pu, .string so, .string ma, .string ot, .string se, .string pa]] w fun e w' => e = .returned (rqMade ⟨k, pu, so, ma, ot, se, pa⟩).val ∧ Fr [] w w' := by
  have hm : rqMade ⟨k, pu, so, ma, ot, se, pa⟩ = madeP ⟨true, false, false, false, true⟩ k pu so ma ot se pa := by rw [← hk]; rfl
  rw [hm]
  clear hm
  obtain ⟨hs0, hs1, hs2, hs3, hs4⟩ := hs
  simp only at hs0 hs1 hs2 hs3 hs4
  have hki : kIs (1 + k % 16) = true := by unfold kIs; rw [decide_eq_true (by omega), decide_eq_true (by omega)]; rfl
  have hhas : ∀ W, Calls Tryd.prog 16 #[.int .i64 (1 + k % 16)] W fun e w' => e = .returned (.tuple #[(Pt.mk true false false false true).val, .bool true]) ∧ Fr [] W w' := fun W => by
    have h := Has_calls W (1 + k % 16)
    rw [hk, hki] at h
    exact h
  simp only [Pt.val] at hhas
  obtain ⟨T, hT, hT0, hT1⟩ : ∃ T, k.tmod 16 = T ∧ -16 < T ∧ T < 16 := ⟨_, rfl, Int.lt_tmod_of_pos _ (by decide), Int.tmod_lt_of_pos _ (by decide)⟩
  obtain ⟨q, hq, hqx, hq16⟩ : ∃ q : Nat, (T + 16).tmod 16 = (q : Int) ∧ (q : Int) = k % 16 ∧ q < 16 := ⟨(k % 16).toNat, by rw [← hT, rem16]; omega, by omega, by omega⟩
  obtain ⟨U, hU, hU0, hU1⟩ : ∃ U, pu.tmod 3 = U ∧ -3 < U ∧ U < 3 := ⟨_, rfl, Int.lt_tmod_of_pos _ (by decide), Int.tmod_lt_of_pos _ (by decide)⟩
  obtain ⟨u, hu, hux, hu3⟩ : ∃ u : Nat, (U + 3).tmod 3 = (u : Int) ∧ (u : Int) = pu % 3 ∧ u < 3 := ⟨(pu % 3).toNat, by rw [← hU, rem3]; omega, by omega, by omega⟩
  unfold madeP Rq.val
  try simp only
  rw [← hqx] at hhas ⊢
  rw [← hux]
  have hw1 : IntKind.i64.wrap (T + 16) = T + 16 := by rw [IntKind.wrap_i64]; omega
  have hw2 : IntKind.i64.wrap (1 + (q : Int)) = 1 + (q : Int) := by rw [IntKind.wrap_i64]; omega
  have hv1 : IntKind.i64.wrap (U + 3) = U + 3 := by rw [IntKind.wrap_i64]; omega
  have hv2 : IntKind.i64.wrap (2 + (u : Int)) = 2 + (u : Int) := by rw [IntKind.wrap_i64]; omega
  have ha0 : (so ++ ⟨#[115]⟩ : ByteArray).size = so.size + 1 := by rw [ByteArray.size_append]; rfl
  have hy0 := fun W => short19_calls (so ++ ⟨#[115]⟩) 20 20 rfl W (by omega) (by decide)
  have hg0 : (9223372036854775807 < so.size + (⟨#[115]⟩ : ByteArray).size) = False := by rw [show (⟨#[115]⟩ : ByteArray).size = 1 from rfl]; simp; omega
  have hh0 : (9223372036854775807 < so.size + 1) = False := by simp; omega
  generalize shortB (so ++ ⟨#[115]⟩) 20 = y0 at *
  have HY0 := Lib.hid hy0
  clear ha0 hy0
  have ha1 : (ma ++ ⟨#[109]⟩ : ByteArray).size = ma.size + 1 := by rw [ByteArray.size_append]; rfl
  have hy1 := fun W => short19_calls (ma ++ ⟨#[109]⟩) 64 64 rfl W (by omega) (by decide)
  have hg1 : (9223372036854775807 < ma.size + (⟨#[109]⟩ : ByteArray).size) = False := by rw [show (⟨#[109]⟩ : ByteArray).size = 1 from rfl]; simp; omega
  have hh1 : (9223372036854775807 < ma.size + 1) = False := by simp; omega
  generalize shortB (ma ++ ⟨#[109]⟩) 64 = y1 at *
  have HY1 := Lib.hid hy1
  clear ha1 hy1
  have ha2 : (ot ++ ⟨#[111]⟩ : ByteArray).size = ot.size + 1 := by rw [ByteArray.size_append]; rfl
  have hy2 := fun W => short19_calls (ot ++ ⟨#[111]⟩) 64 64 rfl W (by omega) (by decide)
  have hg2 : (9223372036854775807 < ot.size + (⟨#[111]⟩ : ByteArray).size) = False := by rw [show (⟨#[111]⟩ : ByteArray).size = 1 from rfl]; simp; omega
  have hh2 : (9223372036854775807 < ot.size + 1) = False := by simp; omega
  generalize shortB (ot ++ ⟨#[111]⟩) 64 = y2 at *
  have HY2 := Lib.hid hy2
  clear ha2 hy2
  have ha3 : (se ++ ⟨#[107]⟩ : ByteArray).size = se.size + 1 := by rw [ByteArray.size_append]; rfl
  have hy3 := fun W => short19_calls (se ++ ⟨#[107]⟩) 64 64 rfl W (by omega) (by decide)
  have hg3 : (9223372036854775807 < se.size + (⟨#[107]⟩ : ByteArray).size) = False := by rw [show (⟨#[107]⟩ : ByteArray).size = 1 from rfl]; simp; omega
  have hh3 : (9223372036854775807 < se.size + 1) = False := by simp; omega
  generalize shortB (se ++ ⟨#[107]⟩) 64 = y3 at *
  have HY3 := Lib.hid hy3
  clear ha3 hy3
  have ha4 : (pa ++ ⟨#[112]⟩ : ByteArray).size = pa.size + 1 := by rw [ByteArray.size_append]; rfl
  have hy4 := fun W => short19_calls (pa ++ ⟨#[112]⟩) 64 64 rfl W (by omega) (by decide)
  have hg4 : (9223372036854775807 < pa.size + (⟨#[112]⟩ : ByteArray).size) = False := by rw [show (⟨#[112]⟩ : ByteArray).size = 1 from rfl]; simp; omega
  have hh4 : (9223372036854775807 < pa.size + 1) = False := by simp; omega
  generalize shortB (pa ++ ⟨#[112]⟩) 64 = y4 at *
  have HY4 := Lib.hid hy4
  clear ha4 hy4
  have HHAS := Lib.hid hhas
  clear hhas hk hki hqx hux hs0 hs1 hs2 hs3 hs4
  go_enter Tryd.func6, Tryd.ntmps6
  go_wp2_with fail
  have hr0 := alloc_keep (o := .cells #[.int .i64 0, .int .i64 0, .string ⟨#[]⟩, .string ⟨#[]⟩, .string ⟨#[]⟩, .string ⟨#[]⟩, .string ⟨#[]⟩] 23) (heap_alloc_new w (.cells #[.int .i64 k, .int .i64 pu, .string so, .string ma, .string ot, .string se, .string pa] 23))
  have hz0 := heap_alloc_new (w.alloc (.cells #[.int .i64 k, .int .i64 pu, .string so, .string ma, .string ot, .string se, .string pa] 23)) (.cells #[.int .i64 0, .int .i64 0, .string ⟨#[]⟩, .string ⟨#[]⟩, .string ⟨#[]⟩, .string ⟨#[]⟩, .string ⟨#[]⟩] 23)
  have hF0 : Fr [] w ((w.alloc (.cells #[.int .i64 k, .int .i64 pu, .string so, .string ma, .string ot, .string se, .string pa] 23)).alloc (.cells #[.int .i64 0, .int .i64 0, .string ⟨#[]⟩, .string ⟨#[]⟩, .string ⟨#[]⟩, .string ⟨#[]⟩, .string ⟨#[]⟩] 23)) := ((Fr.refl _ _).alloc _).alloc _
  have hsz : (w.alloc (.cells #[.int .i64 k, .int .i64 pu, .string so, .string ma, .string ot, .string se, .string pa] 23)).heap.size = w.heap.size + 1 := by simp
  have hsz2 : ((w.alloc (.cells #[.int .i64 k, .int .i64 pu, .string so, .string ma, .string ot, .string se, .string pa] 23)).alloc (.cells #[.int .i64 0, .int .i64 0, .string ⟨#[]⟩, .string ⟨#[]⟩, .string ⟨#[]⟩, .string ⟨#[]⟩, .string ⟨#[]⟩] 23)).heap.size = w.heap.size + 2 := by simp
  rw [hsz] at hz0
  generalize (w.alloc (.cells #[.int .i64 k, .int .i64 pu, .string so, .string ma, .string ot, .string se, .string pa] 23)).alloc (.cells #[.int .i64 0, .int .i64 0, .string ⟨#[]⟩, .string ⟨#[]⟩, .string ⟨#[]⟩, .string ⟨#[]⟩, .string ⟨#[]⟩] 23) = W0 at *
  clear hsz
  obtain ⟨c0, c1, c2, c3, c4, c5, c6⟩ := rq_cells hr0
  have HR0 := Lib.hid hr0
  have HZ0 := Lib.hid hz0
  have HF0 := Lib.hid hF0
  have hZ1 : w.heap.size + 1 ≠ w.heap.size + 2 := by omega
  have hZ2 : w.heap.size ≠ w.heap.size + 2 := by omega
  have HZ1 := Lib.hid (show w.heap.size ≤ w.heap.size ∧ w.heap.size ≤ w.heap.size + 1 ∧ W0.heap.size = w.heap.size + 2 by omega)
  clear hr0 hz0 hF0 hZ1 hZ2 hsz2
  generalize w.heap.size + 1 = Z at *
  generalize hR : w.heap.size = R at *
  have HRR := Lib.hid hR
  clear hR
  go_cut [3] from 6 (fun s3 wx => ∃ X, s3 = .pointer (some ⟨X, 0, none⟩) ∧ Hid (Mk w wx R Z X #[.int .i64 k, .int .i64 pu, .string so, .string ma, .string ot, .string se, .string pa] #[.int .i64 (1 + (q : Int)), .int .i64 0, .string y0, .string ⟨#[]⟩, .string ⟨#[]⟩, .string ⟨#[]⟩, .string ⟨#[]⟩]))
  case first =>
    go_region_held3 (fun w' => w'.cell? ⟨R, 0, none⟩ = some (.int .i64 k) ∧ w'.cell? ⟨R, 2, none⟩ = some (.string so)) (first | exact ⟨c0, c2⟩ | go_keep) (first
      | (go_at_call 10; (with_reducible refine (HY0.out _).mono ?_); rintro e w9 ⟨rfl, rfl⟩))
    all_goals
      go_wp2_with fail
      go_meet
      exact ⟨_, rfl, Mk.new HR0.out HZ0.out HF0.out (by have := HZ1.out; have := HRR.out; omega) _⟩
  case rest =>
    obtain ⟨X, rfl, HM⟩ := hcut
    clear c0 c1 c2 c3 c4 c5 c6 HR0 HZ0 HF0 HZ1
    have x0 : wc.cell? ⟨X, 0, none⟩ = some (.int .i64 (1 + (q : Int))) := by rw [Lib.cell_of_heap HM.out.hx]; rfl
    go_wp2_with fail
    clear x0
    (with_reducible refine (HHAS.out _).mono ?_)
    rintro e w2 ⟨rfl, hf2⟩
    have HM2 := Lib.hid (HM.out.keep hf2)
    clear HM hf2 HHAS
    have d := fun o => (show (w2.alloc o).cell? ⟨R, 3, none⟩ = some (.string ma) by rw [Lib.cell_of_heap (alloc_keep HM2.out.hr)]; rfl)
    go_wp2_with fail
    clear d
    have hP := heap_alloc_new w2 (.cells #[.bool true, .bool false, .bool false, .bool false, .bool true] 39)
    have HM3 := Lib.hid (HM2.out.keep ((Fr.refl [] w2).alloc (.cells #[.bool true, .bool false, .bool false, .bool false, .bool true] 39)))
    have hPX : w2.heap.size ≠ X := by have := lt_of_heap HM2.out.hx; omega
    generalize w2.alloc (.cells #[.bool true, .bool false, .bool false, .bool false, .bool true] 39) = W0' at *
    generalize w2.heap.size = P at *
    have HPX := Lib.hid hPX
    clear hPX HM2
    (with_reducible refine (HY1.out _).mono ?_)
    rintro e w3 ⟨rfl, rfl⟩
    have xc : W0'.cell? ⟨X, 3, none⟩ = some (.string ⟨#[]⟩) := by rw [Lib.cell_of_heap HM3.out.hx]; rfl
    have xf : W0'.frozen? ⟨X, 3, none⟩ = false := Lib.frozen_of_heap HM3.out.hx 3
    have hP4 : (W0'.setCell ⟨X, 3, none⟩ (.string y1)).heap[P]? = some (.cells #[.bool true, .bool false, .bool false, .bool false, .bool true] 39 (0, 0)) := blk_other hP HPX.out
    have HM4 := Lib.hid (HM3.out.set 3 (.string y1))
    obtain ⟨p0, p1, p2, p3, p4⟩ := pt_cellsB hP4
    have dr : (W0'.setCell ⟨X, 3, none⟩ (.string y1)).cell? ⟨R, 1, none⟩ = some (.int .i64 pu) := by rw [Lib.cell_of_heap HM4.out.hr]; rfl
    have xc1 : (W0'.setCell ⟨X, 3, none⟩ (.string y1)).cell? ⟨X, 1, none⟩ = some (.int .i64 0) := by rw [Lib.cell_of_heap HM4.out.hx]; rfl
    have xf1 : (W0'.setCell ⟨X, 3, none⟩ (.string y1)).frozen? ⟨X, 1, none⟩ = false := Lib.frozen_of_heap HM4.out.hx 1
    have HMe := Lib.hid (HM4.out.set 1 (.int .i64 (2 + (u : Int))))
    obtain ⟨l0, l1, l2, l3, l4, l5, l6⟩ := rq_cells HMe.out.hx
    go_wp2_with (refine wpList_store_row rfl 23 _ _ rfl Z #[.int .i64 (1 + (q : Int)), .int .i64 (2 + (u : Int)), .string y0, .string y1, .string ⟨#[]⟩, .string ⟨#[]⟩, .string ⟨#[]⟩] rfl rfl 23 _ HMe.out.hz infoRq rfl (by simp [Value.oneCell']) ?_)
    exact made_end (b := Z) rfl (setRow_heap _ _ _ _ _ _ HMe.out.hz) ⟨rfl, setRow_fr2 _ _ HMe.out.fr HMe.out.wz⟩
set_option maxHeartbeats 4000000 in
set_option maxRecDepth 100000 in
theorem made_3 (w : World) (k pu : Int) (so ma ot se pa : ByteArray) (hs : (Rq.mk k pu so ma ot se pa).short 1000) (hk : ptOf (1 + k % 16) = ⟨true, false, true, true, false⟩) :
    Calls Tryd.prog 6 #[.agg #[.int .i64 k, .int .i64 pu, .string so, .string ma, .string ot, .string se, .string pa]] w fun e w' => e = .returned (rqMade ⟨k, pu, so, ma, ot, se, pa⟩).val ∧ Fr [] w w' := by
  have hm : rqMade ⟨k, pu, so, ma, ot, se, pa⟩ = madeP ⟨true, false, true, true, false⟩ k pu so ma ot se pa := by rw [← hk]; rfl
  rw [hm]
  clear hm
  obtain ⟨hs0, hs1, hs2, hs3, hs4⟩ := hs
  simp only at hs0 hs1 hs2 hs3 hs4
  have hki : kIs (1 + k % 16) = true := by unfold kIs; rw [decide_eq_true (by omega), decide_eq_true (by omega)]; rfl
  have hhas : ∀ W, Calls Tryd.prog 16 #[.int .i64 (1 + k % 16)] W fun e w' => e = .returned (.tuple #[(Pt.mk true false true true false).val, .bool true]) ∧ Fr [] W w' := fun W => by
    have h := Has_calls W (1 + k % 16)
    rw [hk, hki] at h
    exact h
  simp only [Pt.val] at hhas
  obtain ⟨T, hT, hT0, hT1⟩ : ∃ T, k.tmod 16 = T ∧ -16 < T ∧ T < 16 := ⟨_, rfl, Int.lt_tmod_of_pos _ (by decide), Int.tmod_lt_of_pos _ (by decide)⟩
  obtain ⟨q, hq, hqx, hq16⟩ : ∃ q : Nat, (T + 16).tmod 16 = (q : Int) ∧ (q : Int) = k % 16 ∧ q < 16 := ⟨(k % 16).toNat, by rw [← hT, rem16]; omega, by omega, by omega⟩
  obtain ⟨U, hU, hU0, hU1⟩ : ∃ U, pu.tmod 3 = U ∧ -3 < U ∧ U < 3 := ⟨_, rfl, Int.lt_tmod_of_pos _ (by decide), Int.tmod_lt_of_pos _ (by decide)⟩
  obtain ⟨u, hu, hux, hu3⟩ : ∃ u : Nat, (U + 3).tmod 3 = (u : Int) ∧ (u : Int) = pu % 3 ∧ u < 3 := ⟨(pu % 3).toNat, by rw [← hU, rem3]; omega, by omega, by omega⟩
  unfold madeP Rq.val
  try simp only
  rw [← hqx] at hhas ⊢
  rw [← hux]
  have hw1 : IntKind.i64.wrap (T + 16) = T + 16 := by rw [IntKind.wrap_i64]; omega
  have hw2 : IntKind.i64.wrap (1 + (q : Int)) = 1 + (q : Int) := by rw [IntKind.wrap_i64]; omega
  have hv1 : IntKind.i64.wrap (U + 3) = U + 3 := by rw [IntKind.wrap_i64]; omega
  have hv2 : IntKind.i64.wrap (2 + (u : Int)) = 2 + (u : Int) := by rw [IntKind.wrap_i64]; omega
  have ha0 : (so ++ ⟨#[115]⟩ : ByteArray).size = so.size + 1 := by rw [ByteArray.size_append]; rfl
  have hy0 := fun W => short19_calls (so ++ ⟨#[115]⟩) 20 20 rfl W (by omega) (by decide)
  have hg0 : (9223372036854775807 < so.size + (⟨#[115]⟩ : ByteArray).size) = False := by rw [show (⟨#[115]⟩ : ByteArray).size = 1 from rfl]; simp; omega
  have hh0 : (9223372036854775807 < so.size + 1) = False := by simp; omega
  generalize shortB (so ++ ⟨#[115]⟩) 20 = y0 at *
  have HY0 := Lib.hid hy0
  clear ha0 hy0
  have ha1 : (ma ++ ⟨#[109]⟩ : ByteArray).size = ma.size + 1 := by rw [ByteArray.size_append]; rfl
  have hy1 := fun W => short19_calls (ma ++ ⟨#[109]⟩) 64 64 rfl W (by omega) (by decide)
  have hg1 : (9223372036854775807 < ma.size + (⟨#[109]⟩ : ByteArray).size) = False := by rw [show (⟨#[109]⟩ : ByteArray).size = 1 from rfl]; simp; omega
  have hh1 : (9223372036854775807 < ma.size + 1) = False := by simp; omega
  generalize shortB (ma ++ ⟨#[109]⟩) 64 = y1 at *
  have HY1 := Lib.hid hy1
  clear ha1 hy1
  have ha2 : (ot ++ ⟨#[111]⟩ : ByteArray).size = ot.size + 1 := by rw [ByteArray.size_append]; rfl
  have hy2 := fun W => short19_calls (ot ++ ⟨#[111]⟩) 64 64 rfl W (by omega) (by decide)
  have hg2 : (9223372036854775807 < ot.size + (⟨#[111]⟩ : ByteArray).size) = False := by rw [show (⟨#[111]⟩ : ByteArray).size = 1 from rfl]; simp; omega
  have hh2 : (9223372036854775807 < ot.size + 1) = False := by simp; omega
  generalize shortB (ot ++ ⟨#[111]⟩) 64 = y2 at *
  have HY2 := Lib.hid hy2
  clear ha2 hy2
  have ha3 : (se ++ ⟨#[107]⟩ : ByteArray).size = se.size + 1 := by rw [ByteArray.size_append]; rfl
  have hy3 := fun W => short19_calls (se ++ ⟨#[107]⟩) 64 64 rfl W (by omega) (by decide)
  have hg3 : (9223372036854775807 < se.size + (⟨#[107]⟩ : ByteArray).size) = False := by rw [show (⟨#[107]⟩ : ByteArray).size = 1 from rfl]; simp; omega
  have hh3 : (9223372036854775807 < se.size + 1) = False := by simp; omega
  generalize shortB (se ++ ⟨#[107]⟩) 64 = y3 at *
  have HY3 := Lib.hid hy3
  clear ha3 hy3
  have ha4 : (pa ++ ⟨#[112]⟩ : ByteArray).size = pa.size + 1 := by rw [ByteArray.size_append]; rfl
  have hy4 := fun W => short19_calls (pa ++ ⟨#[112]⟩) 64 64 rfl W (by omega) (by decide)
  have hg4 : (9223372036854775807 < pa.size + (⟨#[112]⟩ : ByteArray).size) = False := by rw [show (⟨#[112]⟩ : ByteArray).size = 1 from rfl]; simp; omega
  have hh4 : (9223372036854775807 < pa.size + 1) = False := by simp; omega
  generalize shortB (pa ++ ⟨#[112]⟩) 64 = y4 at *
  have HY4 := Lib.hid hy4
  clear ha4 hy4
  have HHAS := Lib.hid hhas
  clear hhas hk hki hqx hux hs0 hs1 hs2 hs3 hs4
  go_enter Tryd.func6, Tryd.ntmps6
  go_wp2_with fail
  have hr0 := alloc_keep (o := .cells #[.int .i64 0, .int .i64 0, .string ⟨#[]⟩, .string ⟨#[]⟩, .string ⟨#[]⟩, .string ⟨#[]⟩, .string ⟨#[]⟩] 23) (heap_alloc_new w (.cells #[.int .i64 k, .int .i64 pu, .string so, .string ma, .string ot, .string se, .string pa] 23))
  have hz0 := heap_alloc_new (w.alloc (.cells #[.int .i64 k, .int .i64 pu, .string so, .string ma, .string ot, .string se, .string pa] 23)) (.cells #[.int .i64 0, .int .i64 0, .string ⟨#[]⟩, .string ⟨#[]⟩, .string ⟨#[]⟩, .string ⟨#[]⟩, .string ⟨#[]⟩] 23)
  have hF0 : Fr [] w ((w.alloc (.cells #[.int .i64 k, .int .i64 pu, .string so, .string ma, .string ot, .string se, .string pa] 23)).alloc (.cells #[.int .i64 0, .int .i64 0, .string ⟨#[]⟩, .string ⟨#[]⟩, .string ⟨#[]⟩, .string ⟨#[]⟩, .string ⟨#[]⟩] 23)) := ((Fr.refl _ _).alloc _).alloc _
  have hsz : (w.alloc (.cells #[.int .i64 k, .int .i64 pu, .string so, .string ma, .string ot, .string se, .string pa] 23)).heap.size = w.heap.size + 1 := by simp
  have hsz2 : ((w.alloc (.cells #[.int .i64 k, .int .i64 pu, .string so, .string ma, .string ot, .string se, .string pa] 23)).alloc (.cells #[.int .i64 0, .int .i64 0, .string ⟨#[]⟩, .string ⟨#[]⟩, .string ⟨#[]⟩, .string ⟨#[]⟩, .string ⟨#[]⟩] 23)).heap.size = w.heap.size + 2 := by simp
  rw [hsz] at hz0
  generalize (w.alloc (.cells #[.int .i64 k, .int .i64 pu, .string so, .string ma, .string ot, .string se, .string pa] 23)).alloc (.cells #[.int .i64 0, .int .i64 0, .string ⟨#[]⟩, .string ⟨#[]⟩, .string ⟨#[]⟩, .string ⟨#[]⟩, .string ⟨#[]⟩] 23) = W0 at *
  clear hsz
  obtain ⟨c0, c1, c2, c3, c4, c5, c6⟩ := rq_cells hr0
  have HR0 := Lib.hid hr0
  have HZ0 := Lib.hid hz0
  have HF0 := Lib.hid hF0
  have hZ1 : w.heap.size + 1 ≠ w.heap.size + 2 := by omega
  have hZ2 : w.heap.size ≠ w.heap.size + 2 := by omega
  have HZ1 := Lib.hid (show w.heap.size ≤ w.heap.size ∧ w.heap.size ≤ w.heap.size + 1 ∧ W0.heap.size = w.heap.size + 2 by omega)
  clear hr0 hz0 hF0 hZ1 hZ2 hsz2
  generalize w.heap.size + 1 = Z at *
  generalize hR : w.heap.size = R at *
  have HRR := Lib.hid hR
  clear hR
  go_cut [3] from 6 (fun s3 wx => ∃ X, s3 = .pointer (some ⟨X, 0, none⟩) ∧ Hid (Mk w wx R Z X #[.int .i64 k, .int .i64 pu, .string so, .string ma, .string ot, .string se, .string pa] #[.int .i64 (1 + (q : Int)), .int .i64 0, .string y0, .string ⟨#[]⟩, .string ⟨#[]⟩, .string ⟨#[]⟩, .string ⟨#[]⟩]))
  case first =>
    go_region_held3 (fun w' => w'.cell? ⟨R, 0, none⟩ = some (.int .i64 k) ∧ w'.cell? ⟨R, 2, none⟩ = some (.string so)) (first | exact ⟨c0, c2⟩ | go_keep) (first
      | (go_at_call 10; (with_reducible refine (HY0.out _).mono ?_); rintro e w9 ⟨rfl, rfl⟩))
    all_goals
      go_wp2_with fail
      go_meet
      exact ⟨_, rfl, Mk.new HR0.out HZ0.out HF0.out (by have := HZ1.out; have := HRR.out; omega) _⟩
  case rest =>
    obtain ⟨X, rfl, HM⟩ := hcut
    clear c0 c1 c2 c3 c4 c5 c6 HR0 HZ0 HF0 HZ1
    have x0 : wc.cell? ⟨X, 0, none⟩ = some (.int .i64 (1 + (q : Int))) := by rw [Lib.cell_of_heap HM.out.hx]; rfl
    go_wp2_with fail
    clear x0
    (with_reducible refine (HHAS.out _).mono ?_)
    rintro e w2 ⟨rfl, hf2⟩
    have HM2 := Lib.hid (HM.out.keep hf2)
    clear HM hf2 HHAS
    have d := fun o => (show (w2.alloc o).cell? ⟨R, 3, none⟩ = some (.string ma) by rw [Lib.cell_of_heap (alloc_keep HM2.out.hr)]; rfl)
    go_wp2_with fail
    clear d
    have hP := heap_alloc_new w2 (.cells #[.bool true, .bool false, .bool true, .bool true, .bool false] 39)
    have HM3 := Lib.hid (HM2.out.keep ((Fr.refl [] w2).alloc (.cells #[.bool true, .bool false, .bool true, .bool true, .bool false] 39)))
    have hPX : w2.heap.size ≠ X := by have := lt_of_heap HM2.out.hx; omega
    generalize w2.alloc (.cells #[.bool true, .bool false, .bool true, .bool true, .bool false] 39) = W0' at *
    generalize w2.heap.size = P at *
    have HPX := Lib.hid hPX
    clear hPX HM2
    (with_reducible refine (HY1.out _).mono ?_)
    rintro e w3 ⟨rfl, rfl⟩
    have xc : W0'.cell? ⟨X, 3, none⟩ = some (.string ⟨#[]⟩) := by rw [Lib.cell_of_heap HM3.out.hx]; rfl
    have xf : W0'.frozen? ⟨X, 3, none⟩ = false := Lib.frozen_of_heap HM3.out.hx 3
    have hP4 : (W0'.setCell ⟨X, 3, none⟩ (.string y1)).heap[P]? = some (.cells #[.bool true, .bool false, .bool true, .bool true, .bool false] 39 (0, 0)) := blk_other hP HPX.out
    have HM4 := Lib.hid (HM3.out.set 3 (.string y1))
    obtain ⟨p0, p1, p2, p3, p4⟩ := pt_cellsB hP4
    have dr : (W0'.setCell ⟨X, 3, none⟩ (.string y1)).cell? ⟨R, 5, none⟩ = some (.string se) := by rw [Lib.cell_of_heap HM4.out.hr]; rfl
    go_wp2_with fail
    clear xc xf hP p0 p1 p2 p3 p4 dr
    have hP := hP4
    clear hP4
    have HM4' := HM4
    clear HM3 HM4
    have HM4 := HM4'
    clear HM4'
    generalize (W0'.setCell ⟨X, 3, none⟩ (.string y1)) = W4' at *
    (with_reducible refine (HY3.out _).mono ?_)
    rintro e w3 ⟨rfl, rfl⟩
    have xc : W4'.cell? ⟨X, 5, none⟩ = some (.string ⟨#[]⟩) := by rw [Lib.cell_of_heap HM4.out.hx]; rfl
    have xf : W4'.frozen? ⟨X, 5, none⟩ = false := Lib.frozen_of_heap HM4.out.hx 5
    have hP5 : (W4'.setCell ⟨X, 5, none⟩ (.string y3)).heap[P]? = some (.cells #[.bool true, .bool false, .bool true, .bool true, .bool false] 39 (0, 0)) := blk_other hP HPX.out
    have HM5 := Lib.hid (HM4.out.set 5 (.string y3))
    obtain ⟨p0, p1, p2, p3, p4⟩ := pt_cellsB hP5
    have dr : (W4'.setCell ⟨X, 5, none⟩ (.string y3)).cell? ⟨R, 6, none⟩ = some (.string pa) := by rw [Lib.cell_of_heap HM5.out.hr]; rfl
    go_wp2_with fail
    clear xc xf hP p0 p1 p2 p3 p4 dr
    have hP := hP5
    clear hP5
    have HM5' := HM5
    clear HM4 HM5
    have HM5 := HM5'
    clear HM5'
    generalize (W4'.setCell ⟨X, 5, none⟩ (.string y3)) = W5' at *
    (with_reducible refine (HY4.out _).mono ?_)
    rintro e w3 ⟨rfl, rfl⟩
    have xc : W5'.cell? ⟨X, 6, none⟩ = some (.string ⟨#[]⟩) := by rw [Lib.cell_of_heap HM5.out.hx]; rfl
    have xf : W5'.frozen? ⟨X, 6, none⟩ = false := Lib.frozen_of_heap HM5.out.hx 6
    have hP6 : (W5'.setCell ⟨X, 6, none⟩ (.string y4)).heap[P]? = some (.cells #[.bool true, .bool false, .bool true, .bool true, .bool false] 39 (0, 0)) := blk_other hP HPX.out
    have HM6 := Lib.hid (HM5.out.set 6 (.string y4))
    obtain ⟨p0, p1, p2, p3, p4⟩ := pt_cellsB hP6
    have HMe := HM6
    obtain ⟨l0, l1, l2, l3, l4, l5, l6⟩ := rq_cells HMe.out.hx
    go_wp2_with (refine wpList_store_row rfl 23 _ _ rfl Z #[.int .i64 (1 + (q : Int)), .int .i64 0, .string y0, .string y1, .string ⟨#[]⟩, .string y3, .string y4] rfl rfl 23 _ HMe.out.hz infoRq rfl (by simp [Value.oneCell']) ?_)
    exact made_end (b := Z) rfl (setRow_heap _ _ _ _ _ _ HMe.out.hz) ⟨rfl, setRow_fr2 _ _ HMe.out.fr HMe.out.wz⟩
set_option maxHeartbeats 4000000 in
set_option maxRecDepth 100000 in
theorem made_4 (w : World) (k pu : Int) (so ma ot se pa : ByteArray) (hs : (Rq.mk k pu so ma ot se pa).short 1000) (hk : ptOf (1 + k % 16) = ⟨false, true, true, false, false⟩) :
    Calls Tryd.prog 6 #[.agg #[.int .i64 k, .int .i64 pu, .string so, .string ma, .string ot, .string se, .string pa]] w fun e w' => e = .returned (rqMade ⟨k, pu, so, ma, ot, se, pa⟩).val ∧ Fr [] w w' := by
  have hm : rqMade ⟨k, pu, so, ma, ot, se, pa⟩ = madeP ⟨false, true, true, false, false⟩ k pu so ma ot se pa := by rw [← hk]; rfl
  rw [hm]
  clear hm
  obtain ⟨hs0, hs1, hs2, hs3, hs4⟩ := hs
  simp only at hs0 hs1 hs2 hs3 hs4
  have hki : kIs (1 + k % 16) = true := by unfold kIs; rw [decide_eq_true (by omega), decide_eq_true (by omega)]; rfl
  have hhas : ∀ W, Calls Tryd.prog 16 #[.int .i64 (1 + k % 16)] W fun e w' => e = .returned (.tuple #[(Pt.mk false true true false false).val, .bool true]) ∧ Fr [] W w' := fun W => by
    have h := Has_calls W (1 + k % 16)
    rw [hk, hki] at h
    exact h
  simp only [Pt.val] at hhas
  obtain ⟨T, hT, hT0, hT1⟩ : ∃ T, k.tmod 16 = T ∧ -16 < T ∧ T < 16 := ⟨_, rfl, Int.lt_tmod_of_pos _ (by decide), Int.tmod_lt_of_pos _ (by decide)⟩
  obtain ⟨q, hq, hqx, hq16⟩ : ∃ q : Nat, (T + 16).tmod 16 = (q : Int) ∧ (q : Int) = k % 16 ∧ q < 16 := ⟨(k % 16).toNat, by rw [← hT, rem16]; omega, by omega, by omega⟩
  obtain ⟨U, hU, hU0, hU1⟩ : ∃ U, pu.tmod 3 = U ∧ -3 < U ∧ U < 3 := ⟨_, rfl, Int.lt_tmod_of_pos _ (by decide), Int.tmod_lt_of_pos _ (by decide)⟩
  obtain ⟨u, hu, hux, hu3⟩ : ∃ u : Nat, (U + 3).tmod 3 = (u : Int) ∧ (u : Int) = pu % 3 ∧ u < 3 := ⟨(pu % 3).toNat, by rw [← hU, rem3]; omega, by omega, by omega⟩
  unfold madeP Rq.val
  try simp only
  rw [← hqx] at hhas ⊢
  rw [← hux]
  have hw1 : IntKind.i64.wrap (T + 16) = T + 16 := by rw [IntKind.wrap_i64]; omega
  have hw2 : IntKind.i64.wrap (1 + (q : Int)) = 1 + (q : Int) := by rw [IntKind.wrap_i64]; omega
  have hv1 : IntKind.i64.wrap (U + 3) = U + 3 := by rw [IntKind.wrap_i64]; omega
  have hv2 : IntKind.i64.wrap (2 + (u : Int)) = 2 + (u : Int) := by rw [IntKind.wrap_i64]; omega
  have ha0 : (so ++ ⟨#[115]⟩ : ByteArray).size = so.size + 1 := by rw [ByteArray.size_append]; rfl
  have hy0 := fun W => short19_calls (so ++ ⟨#[115]⟩) 20 20 rfl W (by omega) (by decide)
  have hg0 : (9223372036854775807 < so.size + (⟨#[115]⟩ : ByteArray).size) = False := by rw [show (⟨#[115]⟩ : ByteArray).size = 1 from rfl]; simp; omega
  have hh0 : (9223372036854775807 < so.size + 1) = False := by simp; omega
  generalize shortB (so ++ ⟨#[115]⟩) 20 = y0 at *
  have HY0 := Lib.hid hy0
  clear ha0 hy0
  have ha1 : (ma ++ ⟨#[109]⟩ : ByteArray).size = ma.size + 1 := by rw [ByteArray.size_append]; rfl
  have hy1 := fun W => short19_calls (ma ++ ⟨#[109]⟩) 64 64 rfl W (by omega) (by decide)
  have hg1 : (9223372036854775807 < ma.size + (⟨#[109]⟩ : ByteArray).size) = False := by rw [show (⟨#[109]⟩ : ByteArray).size = 1 from rfl]; simp; omega
  have hh1 : (9223372036854775807 < ma.size + 1) = False := by simp; omega
  generalize shortB (ma ++ ⟨#[109]⟩) 64 = y1 at *
  have HY1 := Lib.hid hy1
  clear ha1 hy1
  have ha2 : (ot ++ ⟨#[111]⟩ : ByteArray).size = ot.size + 1 := by rw [ByteArray.size_append]; rfl
  have hy2 := fun W => short19_calls (ot ++ ⟨#[111]⟩) 64 64 rfl W (by omega) (by decide)
  have hg2 : (9223372036854775807 < ot.size + (⟨#[111]⟩ : ByteArray).size) = False := by rw [show (⟨#[111]⟩ : ByteArray).size = 1 from rfl]; simp; omega
  have hh2 : (9223372036854775807 < ot.size + 1) = False := by simp; omega
  generalize shortB (ot ++ ⟨#[111]⟩) 64 = y2 at *
  have HY2 := Lib.hid hy2
  clear ha2 hy2
  have ha3 : (se ++ ⟨#[107]⟩ : ByteArray).size = se.size + 1 := by rw [ByteArray.size_append]; rfl
  have hy3 := fun W => short19_calls (se ++ ⟨#[107]⟩) 64 64 rfl W (by omega) (by decide)
  have hg3 : (9223372036854775807 < se.size + (⟨#[107]⟩ : ByteArray).size) = False := by rw [show (⟨#[107]⟩ : ByteArray).size = 1 from rfl]; simp; omega
  have hh3 : (9223372036854775807 < se.size + 1) = False := by simp; omega
  generalize shortB (se ++ ⟨#[107]⟩) 64 = y3 at *
  have HY3 := Lib.hid hy3
  clear ha3 hy3
  have ha4 : (pa ++ ⟨#[112]⟩ : ByteArray).size = pa.size + 1 := by rw [ByteArray.size_append]; rfl
  have hy4 := fun W => short19_calls (pa ++ ⟨#[112]⟩) 64 64 rfl W (by omega) (by decide)
  have hg4 : (9223372036854775807 < pa.size + (⟨#[112]⟩ : ByteArray).size) = False := by rw [show (⟨#[112]⟩ : ByteArray).size = 1 from rfl]; simp; omega
  have hh4 : (9223372036854775807 < pa.size + 1) = False := by simp; omega
  generalize shortB (pa ++ ⟨#[112]⟩) 64 = y4 at *
  have HY4 := Lib.hid hy4
  clear ha4 hy4
  have HHAS := Lib.hid hhas
  clear hhas hk hki hqx hux hs0 hs1 hs2 hs3 hs4
  go_enter Tryd.func6, Tryd.ntmps6
  go_wp2_with fail
  have hr0 := alloc_keep (o := .cells #[.int .i64 0, .int .i64 0, .string ⟨#[]⟩, .string ⟨#[]⟩, .string ⟨#[]⟩, .string ⟨#[]⟩, .string ⟨#[]⟩] 23) (heap_alloc_new w (.cells #[.int .i64 k, .int .i64 pu, .string so, .string ma, .string ot, .string se, .string pa] 23))
  have hz0 := heap_alloc_new (w.alloc (.cells #[.int .i64 k, .int .i64 pu, .string so, .string ma, .string ot, .string se, .string pa] 23)) (.cells #[.int .i64 0, .int .i64 0, .string ⟨#[]⟩, .string ⟨#[]⟩, .string ⟨#[]⟩, .string ⟨#[]⟩, .string ⟨#[]⟩] 23)
  have hF0 : Fr [] w ((w.alloc (.cells #[.int .i64 k, .int .i64 pu, .string so, .string ma, .string ot, .string se, .string pa] 23)).alloc (.cells #[.int .i64 0, .int .i64 0, .string ⟨#[]⟩, .string ⟨#[]⟩, .string ⟨#[]⟩, .string ⟨#[]⟩, .string ⟨#[]⟩] 23)) := ((Fr.refl _ _).alloc _).alloc _
  have hsz : (w.alloc (.cells #[.int .i64 k, .int .i64 pu, .string so, .string ma, .string ot, .string se, .string pa] 23)).heap.size = w.heap.size + 1 := by simp
  have hsz2 : ((w.alloc (.cells #[.int .i64 k, .int .i64 pu, .string so, .string ma, .string ot, .string se, .string pa] 23)).alloc (.cells #[.int .i64 0, .int .i64 0, .string ⟨#[]⟩, .string ⟨#[]⟩, .string ⟨#[]⟩, .string ⟨#[]⟩, .string ⟨#[]⟩] 23)).heap.size = w.heap.size + 2 := by simp
  rw [hsz] at hz0
  generalize (w.alloc (.cells #[.int .i64 k, .int .i64 pu, .string so, .string ma, .string ot, .string se, .string pa] 23)).alloc (.cells #[.int .i64 0, .int .i64 0, .string ⟨#[]⟩, .string ⟨#[]⟩, .string ⟨#[]⟩, .string ⟨#[]⟩, .string ⟨#[]⟩] 23) = W0 at *
  clear hsz
  obtain ⟨c0, c1, c2, c3, c4, c5, c6⟩ := rq_cells hr0
  have HR0 := Lib.hid hr0
  have HZ0 := Lib.hid hz0
  have HF0 := Lib.hid hF0
  have hZ1 : w.heap.size + 1 ≠ w.heap.size + 2 := by omega
  have hZ2 : w.heap.size ≠ w.heap.size + 2 := by omega
  have HZ1 := Lib.hid (show w.heap.size ≤ w.heap.size ∧ w.heap.size ≤ w.heap.size + 1 ∧ W0.heap.size = w.heap.size + 2 by omega)
  clear hr0 hz0 hF0 hZ1 hZ2 hsz2
  generalize w.heap.size + 1 = Z at *
  generalize hR : w.heap.size = R at *
  have HRR := Lib.hid hR
  clear hR
  go_cut [3] from 6 (fun s3 wx => ∃ X, s3 = .pointer (some ⟨X, 0, none⟩) ∧ Hid (Mk w wx R Z X #[.int .i64 k, .int .i64 pu, .string so, .string ma, .string ot, .string se, .string pa] #[.int .i64 (1 + (q : Int)), .int .i64 0, .string y0, .string ⟨#[]⟩, .string ⟨#[]⟩, .string ⟨#[]⟩, .string ⟨#[]⟩]))
  case first =>
    go_region_held3 (fun w' => w'.cell? ⟨R, 0, none⟩ = some (.int .i64 k) ∧ w'.cell? ⟨R, 2, none⟩ = some (.string so)) (first | exact ⟨c0, c2⟩ | go_keep) (first
      | (go_at_call 10; (with_reducible refine (HY0.out _).mono ?_); rintro e w9 ⟨rfl, rfl⟩))
    all_goals
      go_wp2_with fail
      go_meet
      exact ⟨_, rfl, Mk.new HR0.out HZ0.out HF0.out (by have := HZ1.out; have := HRR.out; omega) _⟩
  case rest =>
    obtain ⟨X, rfl, HM⟩ := hcut
    clear c0 c1 c2 c3 c4 c5 c6 HR0 HZ0 HF0 HZ1
    have x0 : wc.cell? ⟨X, 0, none⟩ = some (.int .i64 (1 + (q : Int))) := by rw [Lib.cell_of_heap HM.out.hx]; rfl
    go_wp2_with fail
    clear x0
    (with_reducible refine (HHAS.out _).mono ?_)
    rintro e w2 ⟨rfl, hf2⟩
    have HM2 := Lib.hid (HM.out.keep hf2)
    clear HM hf2 HHAS
    have d := fun o => (show (w2.alloc o).cell? ⟨R, 4, none⟩ = some (.string ot) by rw [Lib.cell_of_heap (alloc_keep HM2.out.hr)]; rfl)
    go_wp2_with fail
    clear d
    have hP := heap_alloc_new w2 (.cells #[.bool false, .bool true, .bool true, .bool false, .bool false] 39)
    have HM3 := Lib.hid (HM2.out.keep ((Fr.refl [] w2).alloc (.cells #[.bool false, .bool true, .bool true, .bool false, .bool false] 39)))
    have hPX : w2.heap.size ≠ X := by have := lt_of_heap HM2.out.hx; omega
    generalize w2.alloc (.cells #[.bool false, .bool true, .bool true, .bool false, .bool false] 39) = W0' at *
    generalize w2.heap.size = P at *
    have HPX := Lib.hid hPX
    clear hPX HM2
    (with_reducible refine (HY2.out _).mono ?_)
    rintro e w3 ⟨rfl, rfl⟩
    have xc : W0'.cell? ⟨X, 4, none⟩ = some (.string ⟨#[]⟩) := by rw [Lib.cell_of_heap HM3.out.hx]; rfl
    have xf : W0'.frozen? ⟨X, 4, none⟩ = false := Lib.frozen_of_heap HM3.out.hx 4
    have hP4 : (W0'.setCell ⟨X, 4, none⟩ (.string y2)).heap[P]? = some (.cells #[.bool false, .bool true, .bool true, .bool false, .bool false] 39 (0, 0)) := blk_other hP HPX.out
    have HM4 := Lib.hid (HM3.out.set 4 (.string y2))
    obtain ⟨p0, p1, p2, p3, p4⟩ := pt_cellsB hP4
    have dr : (W0'.setCell ⟨X, 4, none⟩ (.string y2)).cell? ⟨R, 5, none⟩ = some (.string se) := by rw [Lib.cell_of_heap HM4.out.hr]; rfl
    go_wp2_with fail
    clear xc xf hP p0 p1 p2 p3 p4 dr
    have hP := hP4
    clear hP4
    have HM4' := HM4
    clear HM3 HM4
    have HM4 := HM4'
    clear HM4'
    generalize (W0'.setCell ⟨X, 4, none⟩ (.string y2)) = W4' at *
    (with_reducible refine (HY3.out _).mono ?_)
    rintro e w3 ⟨rfl, rfl⟩
    have xc : W4'.cell? ⟨X, 5, none⟩ = some (.string ⟨#[]⟩) := by rw [Lib.cell_of_heap HM4.out.hx]; rfl
    have xf : W4'.frozen? ⟨X, 5, none⟩ = false := Lib.frozen_of_heap HM4.out.hx 5
    have hP5 : (W4'.setCell ⟨X, 5, none⟩ (.string y3)).heap[P]? = some (.cells #[.bool false, .bool true, .bool true, .bool false, .bool false] 39 (0, 0)) := blk_other hP HPX.out
    have HM5 := Lib.hid (HM4.out.set 5 (.string y3))
    obtain ⟨p0, p1, p2, p3, p4⟩ := pt_cellsB hP5
    have HMe := HM5
    obtain ⟨l0, l1, l2, l3, l4, l5, l6⟩ := rq_cells HMe.out.hx
    go_wp2_with (refine wpList_store_row rfl 23 _ _ rfl Z #[.int .i64 (1 + (q : Int)), .int .i64 0, .string y0, .string ⟨#[]⟩, .string y2, .string y3, .string ⟨#[]⟩] rfl rfl 23 _ HMe.out.hz infoRq rfl (by simp [Value.oneCell']) ?_)
    exact made_end (b := Z) rfl (setRow_heap _ _ _ _ _ _ HMe.out.hz) ⟨rfl, setRow_fr2 _ _ HMe.out.fr HMe.out.wz⟩
set_option maxHeartbeats 4000000 in
set_option maxRecDepth 100000 in
theorem made_5 (w : World) (k pu : Int) (so ma ot se pa : ByteArray) (hs : (Rq.mk k pu so ma ot se pa).short 1000) (hk : ptOf (1 + k % 16) = ⟨true, true, true, false, false⟩) :
    Calls Tryd.prog 6 #[.agg #[.int .i64 k, .int .i64 pu, .string so, .string ma, .string ot, .string se, .string pa]] w fun e w' => e = .returned (rqMade ⟨k, pu, so, ma, ot, se, pa⟩).val ∧ Fr [] w w' := by
  have hm : rqMade ⟨k, pu, so, ma, ot, se, pa⟩ = madeP ⟨true, true, true, false, false⟩ k pu so ma ot se pa := by rw [← hk]; rfl
  rw [hm]
  clear hm
  obtain ⟨hs0, hs1, hs2, hs3, hs4⟩ := hs
  simp only at hs0 hs1 hs2 hs3 hs4
  have hki : kIs (1 + k % 16) = true := by unfold kIs; rw [decide_eq_true (by omega), decide_eq_true (by omega)]; rfl
  have hhas : ∀ W, Calls Tryd.prog 16 #[.int .i64 (1 + k % 16)] W fun e w' => e = .returned (.tuple #[(Pt.mk true true true false false).val, .bool true]) ∧ Fr [] W w' := fun W => by
    have h := Has_calls W (1 + k % 16)
    rw [hk, hki] at h
    exact h
  simp only [Pt.val] at hhas
  obtain ⟨T, hT, hT0, hT1⟩ : ∃ T, k.tmod 16 = T ∧ -16 < T ∧ T < 16 := ⟨_, rfl, Int.lt_tmod_of_pos _ (by decide), Int.tmod_lt_of_pos _ (by decide)⟩
  obtain ⟨q, hq, hqx, hq16⟩ : ∃ q : Nat, (T + 16).tmod 16 = (q : Int) ∧ (q : Int) = k % 16 ∧ q < 16 := ⟨(k % 16).toNat, by rw [← hT, rem16]; omega, by omega, by omega⟩
  obtain ⟨U, hU, hU0, hU1⟩ : ∃ U, pu.tmod 3 = U ∧ -3 < U ∧ U < 3 := ⟨_, rfl, Int.lt_tmod_of_pos _ (by decide), Int.tmod_lt_of_pos _ (by decide)⟩
  obtain ⟨u, hu, hux, hu3⟩ : ∃ u : Nat, (U + 3).tmod 3 = (u : Int) ∧ (u : Int) = pu % 3 ∧ u < 3 := ⟨(pu % 3).toNat, by rw [← hU, rem3]; omega, by omega, by omega⟩
  unfold madeP Rq.val
  try simp only
  rw [← hqx] at hhas ⊢
  rw [← hux]
  have hw1 : IntKind.i64.wrap (T + 16) = T + 16 := by rw [IntKind.wrap_i64]; omega
  have hw2 : IntKind.i64.wrap (1 + (q : Int)) = 1 + (q : Int) := by rw [IntKind.wrap_i64]; omega
  have hv1 : IntKind.i64.wrap (U + 3) = U + 3 := by rw [IntKind.wrap_i64]; omega
  have hv2 : IntKind.i64.wrap (2 + (u : Int)) = 2 + (u : Int) := by rw [IntKind.wrap_i64]; omega
  have ha0 : (so ++ ⟨#[115]⟩ : ByteArray).size = so.size + 1 := by rw [ByteArray.size_append]; rfl
  have hy0 := fun W => short19_calls (so ++ ⟨#[115]⟩) 20 20 rfl W (by omega) (by decide)
  have hg0 : (9223372036854775807 < so.size + (⟨#[115]⟩ : ByteArray).size) = False := by rw [show (⟨#[115]⟩ : ByteArray).size = 1 from rfl]; simp; omega
  have hh0 : (9223372036854775807 < so.size + 1) = False := by simp; omega
  generalize shortB (so ++ ⟨#[115]⟩) 20 = y0 at *
  have HY0 := Lib.hid hy0
  clear ha0 hy0
  have ha1 : (ma ++ ⟨#[109]⟩ : ByteArray).size = ma.size + 1 := by rw [ByteArray.size_append]; rfl
  have hy1 := fun W => short19_calls (ma ++ ⟨#[109]⟩) 64 64 rfl W (by omega) (by decide)
  have hg1 : (9223372036854775807 < ma.size + (⟨#[109]⟩ : ByteArray).size) = False := by rw [show (⟨#[109]⟩ : ByteArray).size = 1 from rfl]; simp; omega
  have hh1 : (9223372036854775807 < ma.size + 1) = False := by simp; omega
  generalize shortB (ma ++ ⟨#[109]⟩) 64 = y1 at *
  have HY1 := Lib.hid hy1
  clear ha1 hy1
  have ha2 : (ot ++ ⟨#[111]⟩ : ByteArray).size = ot.size + 1 := by rw [ByteArray.size_append]; rfl
  have hy2 := fun W => short19_calls (ot ++ ⟨#[111]⟩) 64 64 rfl W (by omega) (by decide)
  have hg2 : (9223372036854775807 < ot.size + (⟨#[111]⟩ : ByteArray).size) = False := by rw [show (⟨#[111]⟩ : ByteArray).size = 1 from rfl]; simp; omega
  have hh2 : (9223372036854775807 < ot.size + 1) = False := by simp; omega
  generalize shortB (ot ++ ⟨#[111]⟩) 64 = y2 at *
  have HY2 := Lib.hid hy2
  clear ha2 hy2
  have ha3 : (se ++ ⟨#[107]⟩ : ByteArray).size = se.size + 1 := by rw [ByteArray.size_append]; rfl
  have hy3 := fun W => short19_calls (se ++ ⟨#[107]⟩) 64 64 rfl W (by omega) (by decide)
  have hg3 : (9223372036854775807 < se.size + (⟨#[107]⟩ : ByteArray).size) = False := by rw [show (⟨#[107]⟩ : ByteArray).size = 1 from rfl]; simp; omega
  have hh3 : (9223372036854775807 < se.size + 1) = False := by simp; omega
  generalize shortB (se ++ ⟨#[107]⟩) 64 = y3 at *
  have HY3 := Lib.hid hy3
  clear ha3 hy3
  have ha4 : (pa ++ ⟨#[112]⟩ : ByteArray).size = pa.size + 1 := by rw [ByteArray.size_append]; rfl
  have hy4 := fun W => short19_calls (pa ++ ⟨#[112]⟩) 64 64 rfl W (by omega) (by decide)
  have hg4 : (9223372036854775807 < pa.size + (⟨#[112]⟩ : ByteArray).size) = False := by rw [show (⟨#[112]⟩ : ByteArray).size = 1 from rfl]; simp; omega
  have hh4 : (9223372036854775807 < pa.size + 1) = False := by simp; omega
  generalize shortB (pa ++ ⟨#[112]⟩) 64 = y4 at *
  have HY4 := Lib.hid hy4
  clear ha4 hy4
  have HHAS := Lib.hid hhas
  clear hhas hk hki hqx hux hs0 hs1 hs2 hs3 hs4
  go_enter Tryd.func6, Tryd.ntmps6
  go_wp2_with fail
  have hr0 := alloc_keep (o := .cells #[.int .i64 0, .int .i64 0, .string ⟨#[]⟩, .string ⟨#[]⟩, .string ⟨#[]⟩, .string ⟨#[]⟩, .string ⟨#[]⟩] 23) (heap_alloc_new w (.cells #[.int .i64 k, .int .i64 pu, .string so, .string ma, .string ot, .string se, .string pa] 23))
  have hz0 := heap_alloc_new (w.alloc (.cells #[.int .i64 k, .int .i64 pu, .string so, .string ma, .string ot, .string se, .string pa] 23)) (.cells #[.int .i64 0, .int .i64 0, .string ⟨#[]⟩, .string ⟨#[]⟩, .string ⟨#[]⟩, .string ⟨#[]⟩, .string ⟨#[]⟩] 23)
  have hF0 : Fr [] w ((w.alloc (.cells #[.int .i64 k, .int .i64 pu, .string so, .string ma, .string ot, .string se, .string pa] 23)).alloc (.cells #[.int .i64 0, .int .i64 0, .string ⟨#[]⟩, .string ⟨#[]⟩, .string ⟨#[]⟩, .string ⟨#[]⟩, .string ⟨#[]⟩] 23)) := ((Fr.refl _ _).alloc _).alloc _
  have hsz : (w.alloc (.cells #[.int .i64 k, .int .i64 pu, .string so, .string ma, .string ot, .string se, .string pa] 23)).heap.size = w.heap.size + 1 := by simp
  have hsz2 : ((w.alloc (.cells #[.int .i64 k, .int .i64 pu, .string so, .string ma, .string ot, .string se, .string pa] 23)).alloc (.cells #[.int .i64 0, .int .i64 0, .string ⟨#[]⟩, .string ⟨#[]⟩, .string ⟨#[]⟩, .string ⟨#[]⟩, .string ⟨#[]⟩] 23)).heap.size = w.heap.size + 2 := by simp
  rw [hsz] at hz0
  generalize (w.alloc (.cells #[.int .i64 k, .int .i64 pu, .string so, .string ma, .string ot, .string se, .string pa] 23)).alloc (.cells #[.int .i64 0, .int .i64 0, .string ⟨#[]⟩, .string ⟨#[]⟩, .string ⟨#[]⟩, .string ⟨#[]⟩, .string ⟨#[]⟩] 23) = W0 at *
  clear hsz
  obtain ⟨c0, c1, c2, c3, c4, c5, c6⟩ := rq_cells hr0
  have HR0 := Lib.hid hr0
  have HZ0 := Lib.hid hz0
  have HF0 := Lib.hid hF0
  have hZ1 : w.heap.size + 1 ≠ w.heap.size + 2 := by omega
  have hZ2 : w.heap.size ≠ w.heap.size + 2 := by omega
  have HZ1 := Lib.hid (show w.heap.size ≤ w.heap.size ∧ w.heap.size ≤ w.heap.size + 1 ∧ W0.heap.size = w.heap.size + 2 by omega)
  clear hr0 hz0 hF0 hZ1 hZ2 hsz2
  generalize w.heap.size + 1 = Z at *
  generalize hR : w.heap.size = R at *
  have HRR := Lib.hid hR
  clear hR
  go_cut [3] from 6 (fun s3 wx => ∃ X, s3 = .pointer (some ⟨X, 0, none⟩) ∧ Hid (Mk w wx R Z X #[.int .i64 k, .int .i64 pu, .string so, .string ma, .string ot, .string se, .string pa] #[.int .i64 (1 + (q : Int)), .int .i64 0, .string y0, .string ⟨#[]⟩, .string ⟨#[]⟩, .string ⟨#[]⟩, .string ⟨#[]⟩]))
  case first =>
    go_region_held3 (fun w' => w'.cell? ⟨R, 0, none⟩ = some (.int .i64 k) ∧ w'.cell? ⟨R, 2, none⟩ = some (.string so)) (first | exact ⟨c0, c2⟩ | go_keep) (first
      | (go_at_call 10; (with_reducible refine (HY0.out _).mono ?_); rintro e w9 ⟨rfl, rfl⟩))
    all_goals
      go_wp2_with fail
      go_meet
      exact ⟨_, rfl, Mk.new HR0.out HZ0.out HF0.out (by have := HZ1.out; have := HRR.out; omega) _⟩
  case rest =>
    obtain ⟨X, rfl, HM⟩ := hcut
    clear c0 c1 c2 c3 c4 c5 c6 HR0 HZ0 HF0 HZ1
    have x0 : wc.cell? ⟨X, 0, none⟩ = some (.int .i64 (1 + (q : Int))) := by rw [Lib.cell_of_heap HM.out.hx]; rfl
    go_wp2_with fail
    clear x0
    (with_reducible refine (HHAS.out _).mono ?_)
    rintro e w2 ⟨rfl, hf2⟩
    have HM2 := Lib.hid (HM.out.keep hf2)
    clear HM hf2 HHAS
    have d := fun o => (show (w2.alloc o).cell? ⟨R, 3, none⟩ = some (.string ma) by rw [Lib.cell_of_heap (alloc_keep HM2.out.hr)]; rfl)
    go_wp2_with fail
    clear d
    have hP := heap_alloc_new w2 (.cells #[.bool true, .bool true, .bool true, .bool false, .bool false] 39)
    have HM3 := Lib.hid (HM2.out.keep ((Fr.refl [] w2).alloc (.cells #[.bool true, .bool true, .bool true, .bool false, .bool false] 39)))
    have hPX : w2.heap.size ≠ X := by have := lt_of_heap HM2.out.hx; omega
    generalize w2.alloc (.cells #[.bool true, .bool true, .bool true, .bool false, .bool false] 39) = W0' at *
    generalize w2.heap.size = P at *
    have HPX := Lib.hid hPX
    clear hPX HM2
    (with_reducible refine (HY1.out _).mono ?_)
    rintro e w3 ⟨rfl, rfl⟩
    have xc : W0'.cell? ⟨X, 3, none⟩ = some (.string ⟨#[]⟩) := by rw [Lib.cell_of_heap HM3.out.hx]; rfl
    have xf : W0'.frozen? ⟨X, 3, none⟩ = false := Lib.frozen_of_heap HM3.out.hx 3
    have hP4 : (W0'.setCell ⟨X, 3, none⟩ (.string y1)).heap[P]? = some (.cells #[.bool true, .bool true, .bool true, .bool false, .bool false] 39 (0, 0)) := blk_other hP HPX.out
    have HM4 := Lib.hid (HM3.out.set 3 (.string y1))
    obtain ⟨p0, p1, p2, p3, p4⟩ := pt_cellsB hP4
    have dr : (W0'.setCell ⟨X, 3, none⟩ (.string y1)).cell? ⟨R, 4, none⟩ = some (.string ot) := by rw [Lib.cell_of_heap HM4.out.hr]; rfl
    go_wp2_with fail
    clear xc xf hP p0 p1 p2 p3 p4 dr
    have hP := hP4
    clear hP4
    have HM4' := HM4
    clear HM3 HM4
    have HM4 := HM4'
    clear HM4'
    generalize (W0'.setCell ⟨X, 3, none⟩ (.string y1)) = W4' at *
    (with_reducible refine (HY2.out _).mono ?_)
    rintro e w3 ⟨rfl, rfl⟩
    have xc : W4'.cell? ⟨X, 4, none⟩ = some (.string ⟨#[]⟩) := by rw [Lib.cell_of_heap HM4.out.hx]; rfl
    have xf : W4'.frozen? ⟨X, 4, none⟩ = false := Lib.frozen_of_heap HM4.out.hx 4
    have hP5 : (W4'.setCell ⟨X, 4, none⟩ (.string y2)).heap[P]? = some (.cells #[.bool true, .bool true, .bool true, .bool false, .bool false] 39 (0, 0)) := blk_other hP HPX.out
    have HM5 := Lib.hid (HM4.out.set 4 (.string y2))
    obtain ⟨p0, p1, p2, p3, p4⟩ := pt_cellsB hP5
    have dr : (W4'.setCell ⟨X, 4, none⟩ (.string y2)).cell? ⟨R, 5, none⟩ = some (.string se) := by rw [Lib.cell_of_heap HM5.out.hr]; rfl
    go_wp2_with fail
    clear xc xf hP p0 p1 p2 p3 p4 dr
    have hP := hP5
    clear hP5
    have HM5' := HM5
    clear HM4 HM5
    have HM5 := HM5'
    clear HM5'
    generalize (W4'.setCell ⟨X, 4, none⟩ (.string y2)) = W5' at *
    (with_reducible refine (HY3.out _).mono ?_)
    rintro e w3 ⟨rfl, rfl⟩
    have xc : W5'.cell? ⟨X, 5, none⟩ = some (.string ⟨#[]⟩) := by rw [Lib.cell_of_heap HM5.out.hx]; rfl
    have xf : W5'.frozen? ⟨X, 5, none⟩ = false := Lib.frozen_of_heap HM5.out.hx 5
    have hP6 : (W5'.setCell ⟨X, 5, none⟩ (.string y3)).heap[P]? = some (.cells #[.bool true, .bool true, .bool true, .bool false, .bool false] 39 (0, 0)) := blk_other hP HPX.out
    have HM6 := Lib.hid (HM5.out.set 5 (.string y3))
    obtain ⟨p0, p1, p2, p3, p4⟩ := pt_cellsB hP6
    have HMe := HM6
    obtain ⟨l0, l1, l2, l3, l4, l5, l6⟩ := rq_cells HMe.out.hx
    go_wp2_with (refine wpList_store_row rfl 23 _ _ rfl Z #[.int .i64 (1 + (q : Int)), .int .i64 0, .string y0, .string y1, .string y2, .string y3, .string ⟨#[]⟩] rfl rfl 23 _ HMe.out.hz infoRq rfl (by simp [Value.oneCell']) ?_)
    exact made_end (b := Z) rfl (setRow_heap _ _ _ _ _ _ HMe.out.hz) ⟨rfl, setRow_fr2 _ _ HMe.out.fr HMe.out.wz⟩
set_option maxHeartbeats 4000000 in
set_option maxRecDepth 100000 in
theorem made_6 (w : World) (k pu : Int) (so ma ot se pa : ByteArray) (hs : (Rq.mk k pu so ma ot se pa).short 1000) (hk : ptOf (1 + k % 16) = ⟨true, true, false, true, false⟩) :
    Calls Tryd.prog 6 #[.agg #[.int .i64 k, .int .i64 pu, .string so, .string ma, .string ot, .string se, .string pa]] w fun e w' => e = .returned (rqMade ⟨k, pu, so, ma, ot, se, pa⟩).val ∧ Fr [] w w' := by
  have hm : rqMade ⟨k, pu, so, ma, ot, se, pa⟩ = madeP ⟨true, true, false, true, false⟩ k pu so ma ot se pa := by rw [← hk]; rfl
  rw [hm]
  clear hm
  obtain ⟨hs0, hs1, hs2, hs3, hs4⟩ := hs
  simp only at hs0 hs1 hs2 hs3 hs4
  have hki : kIs (1 + k % 16) = true := by unfold kIs; rw [decide_eq_true (by omega), decide_eq_true (by omega)]; rfl
  have hhas : ∀ W, Calls Tryd.prog 16 #[.int .i64 (1 + k % 16)] W fun e w' => e = .returned (.tuple #[(Pt.mk true true false true false).val, .bool true]) ∧ Fr [] W w' := fun W => by
    have h := Has_calls W (1 + k % 16)
    rw [hk, hki] at h
    exact h
  simp only [Pt.val] at hhas
  obtain ⟨T, hT, hT0, hT1⟩ : ∃ T, k.tmod 16 = T ∧ -16 < T ∧ T < 16 := ⟨_, rfl, Int.lt_tmod_of_pos _ (by decide), Int.tmod_lt_of_pos _ (by decide)⟩
  obtain ⟨q, hq, hqx, hq16⟩ : ∃ q : Nat, (T + 16).tmod 16 = (q : Int) ∧ (q : Int) = k % 16 ∧ q < 16 := ⟨(k % 16).toNat, by rw [← hT, rem16]; omega, by omega, by omega⟩
  obtain ⟨U, hU, hU0, hU1⟩ : ∃ U, pu.tmod 3 = U ∧ -3 < U ∧ U < 3 := ⟨_, rfl, Int.lt_tmod_of_pos _ (by decide), Int.tmod_lt_of_pos _ (by decide)⟩
  obtain ⟨u, hu, hux, hu3⟩ : ∃ u : Nat, (U + 3).tmod 3 = (u : Int) ∧ (u : Int) = pu % 3 ∧ u < 3 := ⟨(pu % 3).toNat, by rw [← hU, rem3]; omega, by omega, by omega⟩
  unfold madeP Rq.val
  try simp only
  rw [← hqx] at hhas ⊢
  rw [← hux]
  have hw1 : IntKind.i64.wrap (T + 16) = T + 16 := by rw [IntKind.wrap_i64]; omega
  have hw2 : IntKind.i64.wrap (1 + (q : Int)) = 1 + (q : Int) := by rw [IntKind.wrap_i64]; omega
  have hv1 : IntKind.i64.wrap (U + 3) = U + 3 := by rw [IntKind.wrap_i64]; omega
  have hv2 : IntKind.i64.wrap (2 + (u : Int)) = 2 + (u : Int) := by rw [IntKind.wrap_i64]; omega
  have ha0 : (so ++ ⟨#[115]⟩ : ByteArray).size = so.size + 1 := by rw [ByteArray.size_append]; rfl
  have hy0 := fun W => short19_calls (so ++ ⟨#[115]⟩) 20 20 rfl W (by omega) (by decide)
  have hg0 : (9223372036854775807 < so.size + (⟨#[115]⟩ : ByteArray).size) = False := by rw [show (⟨#[115]⟩ : ByteArray).size = 1 from rfl]; simp; omega
  have hh0 : (9223372036854775807 < so.size + 1) = False := by simp; omega
  generalize shortB (so ++ ⟨#[115]⟩) 20 = y0 at *
  have HY0 := Lib.hid hy0
  clear ha0 hy0
  have ha1 : (ma ++ ⟨#[109]⟩ : ByteArray).size = ma.size + 1 := by rw [ByteArray.size_append]; rfl
  have hy1 := fun W => short19_calls (ma ++ ⟨#[109]⟩) 64 64 rfl W (by omega) (by decide)
  have hg1 : (9223372036854775807 < ma.size + (⟨#[109]⟩ : ByteArray).size) = False := by rw [show (⟨#[109]⟩ : ByteArray).size = 1 from rfl]; simp; omega
  have hh1 : (9223372036854775807 < ma.size + 1) = False := by simp; omega
  generalize shortB (ma ++ ⟨#[109]⟩) 64 = y1 at *
  have HY1 := Lib.hid hy1
  clear ha1 hy1
  have ha2 : (ot ++ ⟨#[111]⟩ : ByteArray).size = ot.size + 1 := by rw [ByteArray.size_append]; rfl
  have hy2 := fun W => short19_calls (ot ++ ⟨#[111]⟩) 64 64 rfl W (by omega) (by decide)
  have hg2 : (9223372036854775807 < ot.size + (⟨#[111]⟩ : ByteArray).size) = False := by rw [show (⟨#[111]⟩ : ByteArray).size = 1 from rfl]; simp; omega
  have hh2 : (9223372036854775807 < ot.size + 1) = False := by simp; omega
  generalize shortB (ot ++ ⟨#[111]⟩) 64 = y2 at *
  have HY2 := Lib.hid hy2
  clear ha2 hy2
  have ha3 : (se ++ ⟨#[107]⟩ : ByteArray).size = se.size + 1 := by rw [ByteArray.size_append]; rfl
  have hy3 := fun W => short19_calls (se ++ ⟨#[107]⟩) 64 64 rfl W (by omega) (by decide)
  have hg3 : (9223372036854775807 < se.size + (⟨#[107]⟩ : ByteArray).size) = False := by rw [show (⟨#[107]⟩ : ByteArray).size = 1 from rfl]; simp; omega
  have hh3 : (9223372036854775807 < se.size + 1) = False := by simp; omega
  generalize shortB (se ++ ⟨#[107]⟩) 64 = y3 at *
  have HY3 := Lib.hid hy3
  clear ha3 hy3
  have ha4 : (pa ++ ⟨#[112]⟩ : ByteArray).size = pa.size + 1 := by rw [ByteArray.size_append]; rfl
  have hy4 := fun W => short19_calls (pa ++ ⟨#[112]⟩) 64 64 rfl W (by omega) (by decide)
  have hg4 : (9223372036854775807 < pa.size + (⟨#[112]⟩ : ByteArray).size) = False := by rw [show (⟨#[112]⟩ : ByteArray).size = 1 from rfl]; simp; omega
  have hh4 : (9223372036854775807 < pa.size + 1) = False := by simp; omega
  generalize shortB (pa ++ ⟨#[112]⟩) 64 = y4 at *
  have HY4 := Lib.hid hy4
  clear ha4 hy4
  have HHAS := Lib.hid hhas
  clear hhas hk hki hqx hux hs0 hs1 hs2 hs3 hs4
  go_enter Tryd.func6, Tryd.ntmps6
  go_wp2_with fail
  have hr0 := alloc_keep (o := .cells #[.int .i64 0, .int .i64 0, .string ⟨#[]⟩, .string ⟨#[]⟩, .string ⟨#[]⟩, .string ⟨#[]⟩, .string ⟨#[]⟩] 23) (heap_alloc_new w (.cells #[.int .i64 k, .int .i64 pu, .string so, .string ma, .string ot, .string se, .string pa] 23))
  have hz0 := heap_alloc_new (w.alloc (.cells #[.int .i64 k, .int .i64 pu, .string so, .string ma, .string ot, .string se, .string pa] 23)) (.cells #[.int .i64 0, .int .i64 0, .string ⟨#[]⟩, .string ⟨#[]⟩, .string ⟨#[]⟩, .string ⟨#[]⟩, .string ⟨#[]⟩] 23)
  have hF0 : Fr [] w ((w.alloc (.cells #[.int .i64 k, .int .i64 pu, .string so, .string ma, .string ot, .string se, .string pa] 23)).alloc (.cells #[.int .i64 0, .int .i64 0, .string ⟨#[]⟩, .string ⟨#[]⟩, .string ⟨#[]⟩, .string ⟨#[]⟩, .string ⟨#[]⟩] 23)) := ((Fr.refl _ _).alloc _).alloc _
  have hsz : (w.alloc (.cells #[.int .i64 k, .int .i64 pu, .string so, .string ma, .string ot, .string se, .string pa] 23)).heap.size = w.heap.size + 1 := by simp
  have hsz2 : ((w.alloc (.cells #[.int .i64 k, .int .i64 pu, .string so, .string ma, .string ot, .string se, .string pa] 23)).alloc (.cells #[.int .i64 0, .int .i64 0, .string ⟨#[]⟩, .string ⟨#[]⟩, .string ⟨#[]⟩, .string ⟨#[]⟩, .string ⟨#[]⟩] 23)).heap.size = w.heap.size + 2 := by simp
  rw [hsz] at hz0
  generalize (w.alloc (.cells #[.int .i64 k, .int .i64 pu, .string so, .string ma, .string ot, .string se, .string pa] 23)).alloc (.cells #[.int .i64 0, .int .i64 0, .string ⟨#[]⟩, .string ⟨#[]⟩, .string ⟨#[]⟩, .string ⟨#[]⟩, .string ⟨#[]⟩] 23) = W0 at *
  clear hsz
  obtain ⟨c0, c1, c2, c3, c4, c5, c6⟩ := rq_cells hr0
  have HR0 := Lib.hid hr0
  have HZ0 := Lib.hid hz0
  have HF0 := Lib.hid hF0
  have hZ1 : w.heap.size + 1 ≠ w.heap.size + 2 := by omega
  have hZ2 : w.heap.size ≠ w.heap.size + 2 := by omega
  have HZ1 := Lib.hid (show w.heap.size ≤ w.heap.size ∧ w.heap.size ≤ w.heap.size + 1 ∧ W0.heap.size = w.heap.size + 2 by omega)
  clear hr0 hz0 hF0 hZ1 hZ2 hsz2
  generalize w.heap.size + 1 = Z at *
  generalize hR : w.heap.size = R at *
  have HRR := Lib.hid hR
  clear hR
  go_cut [3] from 6 (fun s3 wx => ∃ X, s3 = .pointer (some ⟨X, 0, none⟩) ∧ Hid (Mk w wx R Z X #[.int .i64 k, .int .i64 pu, .string so, .string ma, .string ot, .string se, .string pa] #[.int .i64 (1 + (q : Int)), .int .i64 0, .string y0, .string ⟨#[]⟩, .string ⟨#[]⟩, .string ⟨#[]⟩, .string ⟨#[]⟩]))
  case first =>
    go_region_held3 (fun w' => w'.cell? ⟨R, 0, none⟩ = some (.int .i64 k) ∧ w'.cell? ⟨R, 2, none⟩ = some (.string so)) (first | exact ⟨c0, c2⟩ | go_keep) (first
      | (go_at_call 10; (with_reducible refine (HY0.out _).mono ?_); rintro e w9 ⟨rfl, rfl⟩))
    all_goals
      go_wp2_with fail
      go_meet
      exact ⟨_, rfl, Mk.new HR0.out HZ0.out HF0.out (by have := HZ1.out; have := HRR.out; omega) _⟩
  case rest =>
    obtain ⟨X, rfl, HM⟩ := hcut
    clear c0 c1 c2 c3 c4 c5 c6 HR0 HZ0 HF0 HZ1
    have x0 : wc.cell? ⟨X, 0, none⟩ = some (.int .i64 (1 + (q : Int))) := by rw [Lib.cell_of_heap HM.out.hx]; rfl
    go_wp2_with fail
    clear x0
    (with_reducible refine (HHAS.out _).mono ?_)
    rintro e w2 ⟨rfl, hf2⟩
    have HM2 := Lib.hid (HM.out.keep hf2)
    clear HM hf2 HHAS
    have d := fun o => (show (w2.alloc o).cell? ⟨R, 3, none⟩ = some (.string ma) by rw [Lib.cell_of_heap (alloc_keep HM2.out.hr)]; rfl)
    go_wp2_with fail
    clear d
    have hP := heap_alloc_new w2 (.cells #[.bool true, .bool true, .bool false, .bool true, .bool false] 39)
    have HM3 := Lib.hid (HM2.out.keep ((Fr.refl [] w2).alloc (.cells #[.bool true, .bool true, .bool false, .bool true, .bool false] 39)))
    have hPX : w2.heap.size ≠ X := by have := lt_of_heap HM2.out.hx; omega
    generalize w2.alloc (.cells #[.bool true, .bool true, .bool false, .bool true, .bool false] 39) = W0' at *
    generalize w2.heap.size = P at *
    have HPX := Lib.hid hPX
    clear hPX HM2
    (with_reducible refine (HY1.out _).mono ?_)
    rintro e w3 ⟨rfl, rfl⟩
    have xc : W0'.cell? ⟨X, 3, none⟩ = some (.string ⟨#[]⟩) := by rw [Lib.cell_of_heap HM3.out.hx]; rfl
    have xf : W0'.frozen? ⟨X, 3, none⟩ = false := Lib.frozen_of_heap HM3.out.hx 3
    have hP4 : (W0'.setCell ⟨X, 3, none⟩ (.string y1)).heap[P]? = some (.cells #[.bool true, .bool true, .bool false, .bool true, .bool false] 39 (0, 0)) := blk_other hP HPX.out
    have HM4 := Lib.hid (HM3.out.set 3 (.string y1))
    obtain ⟨p0, p1, p2, p3, p4⟩ := pt_cellsB hP4
    have dr : (W0'.setCell ⟨X, 3, none⟩ (.string y1)).cell? ⟨R, 4, none⟩ = some (.string ot) := by rw [Lib.cell_of_heap HM4.out.hr]; rfl
    go_wp2_with fail
    clear xc xf hP p0 p1 p2 p3 p4 dr
    have hP := hP4
    clear hP4
    have HM4' := HM4
    clear HM3 HM4
    have HM4 := HM4'
    clear HM4'
    generalize (W0'.setCell ⟨X, 3, none⟩ (.string y1)) = W4' at *
    (with_reducible refine (HY2.out _).mono ?_)
    rintro e w3 ⟨rfl, rfl⟩
    have xc : W4'.cell? ⟨X, 4, none⟩ = some (.string ⟨#[]⟩) := by rw [Lib.cell_of_heap HM4.out.hx]; rfl
    have xf : W4'.frozen? ⟨X, 4, none⟩ = false := Lib.frozen_of_heap HM4.out.hx 4
    have hP5 : (W4'.setCell ⟨X, 4, none⟩ (.string y2)).heap[P]? = some (.cells #[.bool true, .bool true, .bool false, .bool true, .bool false] 39 (0, 0)) := blk_other hP HPX.out
    have HM5 := Lib.hid (HM4.out.set 4 (.string y2))
    obtain ⟨p0, p1, p2, p3, p4⟩ := pt_cellsB hP5
    have dr : (W4'.setCell ⟨X, 4, none⟩ (.string y2)).cell? ⟨R, 6, none⟩ = some (.string pa) := by rw [Lib.cell_of_heap HM5.out.hr]; rfl
    go_wp2_with fail
    clear xc xf hP p0 p1 p2 p3 p4 dr
    have hP := hP5
    clear hP5
    have HM5' := HM5
    clear HM4 HM5
    have HM5 := HM5'
    clear HM5'
    generalize (W4'.setCell ⟨X, 4, none⟩ (.string y2)) = W5' at *
    (with_reducible refine (HY4.out _).mono ?_)
    rintro e w3 ⟨rfl, rfl⟩
    have xc : W5'.cell? ⟨X, 6, none⟩ = some (.string ⟨#[]⟩) := by rw [Lib.cell_of_heap HM5.out.hx]; rfl
    have xf : W5'.frozen? ⟨X, 6, none⟩ = false := Lib.frozen_of_heap HM5.out.hx 6
    have hP6 : (W5'.setCell ⟨X, 6, none⟩ (.string y4)).heap[P]? = some (.cells #[.bool true, .bool true, .bool false, .bool true, .bool false] 39 (0, 0)) := blk_other hP HPX.out
    have HM6 := Lib.hid (HM5.out.set 6 (.string y4))
    obtain ⟨p0, p1, p2, p3, p4⟩ := pt_cellsB hP6
    have HMe := HM6
    obtain ⟨l0, l1, l2, l3, l4, l5, l6⟩ := rq_cells HMe.out.hx
    go_wp2_with (refine wpList_store_row rfl 23 _ _ rfl Z #[.int .i64 (1 + (q : Int)), .int .i64 0, .string y0, .string y1, .string y2, .string ⟨#[]⟩, .string y4] rfl rfl 23 _ HMe.out.hz infoRq rfl (by simp [Value.oneCell']) ?_)
    exact made_end (b := Z) rfl (setRow_heap _ _ _ _ _ _ HMe.out.hz) ⟨rfl, setRow_fr2 _ _ HMe.out.fr HMe.out.wz⟩
set_option maxHeartbeats 4000000 in
set_option maxRecDepth 100000 in
theorem made_7 (w : World) (k pu : Int) (so ma ot se pa : ByteArray) (hs : (Rq.mk k pu so ma ot se pa).short 1000) (hk : ptOf (1 + k % 16) = ⟨true, false, false, false, false⟩) :
    Calls Tryd.prog 6 #[.agg #[.int .i64 k, .int .i64 pu, .string so, .string ma, .string ot, .string se, .string pa]] w fun e w' => e = .returned (rqMade ⟨k, pu, so, ma, ot, se, pa⟩).val ∧ Fr [] w w' := by
  have hm : rqMade ⟨k, pu, so, ma, ot, se, pa⟩ = madeP ⟨true, false, false, false, false⟩ k pu so ma ot se pa := by rw [← hk]; rfl
  rw [hm]
  clear hm
  obtain ⟨hs0, hs1, hs2, hs3, hs4⟩ := hs
  simp only at hs0 hs1 hs2 hs3 hs4
  have hki : kIs (1 + k % 16) = true := by unfold kIs; rw [decide_eq_true (by omega), decide_eq_true (by omega)]; rfl
  have hhas : ∀ W, Calls Tryd.prog 16 #[.int .i64 (1 + k % 16)] W fun e w' => e = .returned (.tuple #[(Pt.mk true false false false false).val, .bool true]) ∧ Fr [] W w' := fun W => by
    have h := Has_calls W (1 + k % 16)
    rw [hk, hki] at h
    exact h
  simp only [Pt.val] at hhas
  obtain ⟨T, hT, hT0, hT1⟩ : ∃ T, k.tmod 16 = T ∧ -16 < T ∧ T < 16 := ⟨_, rfl, Int.lt_tmod_of_pos _ (by decide), Int.tmod_lt_of_pos _ (by decide)⟩
  obtain ⟨q, hq, hqx, hq16⟩ : ∃ q : Nat, (T + 16).tmod 16 = (q : Int) ∧ (q : Int) = k % 16 ∧ q < 16 := ⟨(k % 16).toNat, by rw [← hT, rem16]; omega, by omega, by omega⟩
  obtain ⟨U, hU, hU0, hU1⟩ : ∃ U, pu.tmod 3 = U ∧ -3 < U ∧ U < 3 := ⟨_, rfl, Int.lt_tmod_of_pos _ (by decide), Int.tmod_lt_of_pos _ (by decide)⟩
  obtain ⟨u, hu, hux, hu3⟩ : ∃ u : Nat, (U + 3).tmod 3 = (u : Int) ∧ (u : Int) = pu % 3 ∧ u < 3 := ⟨(pu % 3).toNat, by rw [← hU, rem3]; omega, by omega, by omega⟩
  unfold madeP Rq.val
  try simp only
  rw [← hqx] at hhas ⊢
  rw [← hux]
  have hw1 : IntKind.i64.wrap (T + 16) = T + 16 := by rw [IntKind.wrap_i64]; omega
  have hw2 : IntKind.i64.wrap (1 + (q : Int)) = 1 + (q : Int) := by rw [IntKind.wrap_i64]; omega
  have hv1 : IntKind.i64.wrap (U + 3) = U + 3 := by rw [IntKind.wrap_i64]; omega
  have hv2 : IntKind.i64.wrap (2 + (u : Int)) = 2 + (u : Int) := by rw [IntKind.wrap_i64]; omega
  have ha0 : (so ++ ⟨#[115]⟩ : ByteArray).size = so.size + 1 := by rw [ByteArray.size_append]; rfl
  have hy0 := fun W => short19_calls (so ++ ⟨#[115]⟩) 20 20 rfl W (by omega) (by decide)
  have hg0 : (9223372036854775807 < so.size + (⟨#[115]⟩ : ByteArray).size) = False := by rw [show (⟨#[115]⟩ : ByteArray).size = 1 from rfl]; simp; omega
  have hh0 : (9223372036854775807 < so.size + 1) = False := by simp; omega
  generalize shortB (so ++ ⟨#[115]⟩) 20 = y0 at *
  have HY0 := Lib.hid hy0
  clear ha0 hy0
  have ha1 : (ma ++ ⟨#[109]⟩ : ByteArray).size = ma.size + 1 := by rw [ByteArray.size_append]; rfl
  have hy1 := fun W => short19_calls (ma ++ ⟨#[109]⟩) 64 64 rfl W (by omega) (by decide)
  have hg1 : (9223372036854775807 < ma.size + (⟨#[109]⟩ : ByteArray).size) = False := by rw [show (⟨#[109]⟩ : ByteArray).size = 1 from rfl]; simp; omega
  have hh1 : (9223372036854775807 < ma.size + 1) = False := by simp; omega
  generalize shortB (ma ++ ⟨#[109]⟩) 64 = y1 at *
  have HY1 := Lib.hid hy1
  clear ha1 hy1
  have ha2 : (ot ++ ⟨#[111]⟩ : ByteArray).size = ot.size + 1 := by rw [ByteArray.size_append]; rfl
  have hy2 := fun W => short19_calls (ot ++ ⟨#[111]⟩) 64 64 rfl W (by omega) (by decide)
  have hg2 : (9223372036854775807 < ot.size + (⟨#[111]⟩ : ByteArray).size) = False := by rw [show (⟨#[111]⟩ : ByteArray).size = 1 from rfl]; simp; omega
  have hh2 : (9223372036854775807 < ot.size + 1) = False := by simp; omega
  generalize shortB (ot ++ ⟨#[111]⟩) 64 = y2 at *
  have HY2 := Lib.hid hy2
  clear ha2 hy2
  have ha3 : (se ++ ⟨#[107]⟩ : ByteArray).size = se.size + 1 := by rw [ByteArray.size_append]; rfl
  have hy3 := fun W => short19_calls (se ++ ⟨#[107]⟩) 64 64 rfl W (by omega) (by decide)
  have hg3 : (9223372036854775807 < se.size + (⟨#[107]⟩ : ByteArray).size) = False := by rw [show (⟨#[107]⟩ : ByteArray).size = 1 from rfl]; simp; omega
  have hh3 : (9223372036854775807 < se.size + 1) = False := by simp; omega
  generalize shortB (se ++ ⟨#[107]⟩) 64 = y3 at *
  have HY3 := Lib.hid hy3
  clear ha3 hy3
  have ha4 : (pa ++ ⟨#[112]⟩ : ByteArray).size = pa.size + 1 := by rw [ByteArray.size_append]; rfl
  have hy4 := fun W => short19_calls (pa ++ ⟨#[112]⟩) 64 64 rfl W (by omega) (by decide)
  have hg4 : (9223372036854775807 < pa.size + (⟨#[112]⟩ : ByteArray).size) = False := by rw [show (⟨#[112]⟩ : ByteArray).size = 1 from rfl]; simp; omega
  have hh4 : (9223372036854775807 < pa.size + 1) = False := by simp; omega
  generalize shortB (pa ++ ⟨#[112]⟩) 64 = y4 at *
  have HY4 := Lib.hid hy4
  clear ha4 hy4
  have HHAS := Lib.hid hhas
  clear hhas hk hki hqx hux hs0 hs1 hs2 hs3 hs4
  go_enter Tryd.func6, Tryd.ntmps6
  go_wp2_with fail
  have hr0 := alloc_keep (o := .cells #[.int .i64 0, .int .i64 0, .string ⟨#[]⟩, .string ⟨#[]⟩, .string ⟨#[]⟩, .string ⟨#[]⟩, .string ⟨#[]⟩] 23) (heap_alloc_new w (.cells #[.int .i64 k, .int .i64 pu, .string so, .string ma, .string ot, .string se, .string pa] 23))
  have hz0 := heap_alloc_new (w.alloc (.cells #[.int .i64 k, .int .i64 pu, .string so, .string ma, .string ot, .string se, .string pa] 23)) (.cells #[.int .i64 0, .int .i64 0, .string ⟨#[]⟩, .string ⟨#[]⟩, .string ⟨#[]⟩, .string ⟨#[]⟩, .string ⟨#[]⟩] 23)
  have hF0 : Fr [] w ((w.alloc (.cells #[.int .i64 k, .int .i64 pu, .string so, .string ma, .string ot, .string se, .string pa] 23)).alloc (.cells #[.int .i64 0, .int .i64 0, .string ⟨#[]⟩, .string ⟨#[]⟩, .string ⟨#[]⟩, .string ⟨#[]⟩, .string ⟨#[]⟩] 23)) := ((Fr.refl _ _).alloc _).alloc _
  have hsz : (w.alloc (.cells #[.int .i64 k, .int .i64 pu, .string so, .string ma, .string ot, .string se, .string pa] 23)).heap.size = w.heap.size + 1 := by simp
  have hsz2 : ((w.alloc (.cells #[.int .i64 k, .int .i64 pu, .string so, .string ma, .string ot, .string se, .string pa] 23)).alloc (.cells #[.int .i64 0, .int .i64 0, .string ⟨#[]⟩, .string ⟨#[]⟩, .string ⟨#[]⟩, .string ⟨#[]⟩, .string ⟨#[]⟩] 23)).heap.size = w.heap.size + 2 := by simp
  rw [hsz] at hz0
  generalize (w.alloc (.cells #[.int .i64 k, .int .i64 pu, .string so, .string ma, .string ot, .string se, .string pa] 23)).alloc (.cells #[.int .i64 0, .int .i64 0, .string ⟨#[]⟩, .string ⟨#[]⟩, .string ⟨#[]⟩, .string ⟨#[]⟩, .string ⟨#[]⟩] 23) = W0 at *
  clear hsz
  obtain ⟨c0, c1, c2, c3, c4, c5, c6⟩ := rq_cells hr0
  have HR0 := Lib.hid hr0
  have HZ0 := Lib.hid hz0
  have HF0 := Lib.hid hF0
  have hZ1 : w.heap.size + 1 ≠ w.heap.size + 2 := by omega
  have hZ2 : w.heap.size ≠ w.heap.size + 2 := by omega
  have HZ1 := Lib.hid (show w.heap.size ≤ w.heap.size ∧ w.heap.size ≤ w.heap.size + 1 ∧ W0.heap.size = w.heap.size + 2 by omega)
  clear hr0 hz0 hF0 hZ1 hZ2 hsz2
  generalize w.heap.size + 1 = Z at *
  generalize hR : w.heap.size = R at *
  have HRR := Lib.hid hR
  clear hR
  go_cut [3] from 6 (fun s3 wx => ∃ X, s3 = .pointer (some ⟨X, 0, none⟩) ∧ Hid (Mk w wx R Z X #[.int .i64 k, .int .i64 pu, .string so, .string ma, .string ot, .string se, .string pa] #[.int .i64 (1 + (q : Int)), .int .i64 0, .string y0, .string ⟨#[]⟩, .string ⟨#[]⟩, .string ⟨#[]⟩, .string ⟨#[]⟩]))
  case first =>
    go_region_held3 (fun w' => w'.cell? ⟨R, 0, none⟩ = some (.int .i64 k) ∧ w'.cell? ⟨R, 2, none⟩ = some (.string so)) (first | exact ⟨c0, c2⟩ | go_keep) (first
      | (go_at_call 10; (with_reducible refine (HY0.out _).mono ?_); rintro e w9 ⟨rfl, rfl⟩))
    all_goals
      go_wp2_with fail
      go_meet
      exact ⟨_, rfl, Mk.new HR0.out HZ0.out HF0.out (by have := HZ1.out; have := HRR.out; omega) _⟩
  case rest =>
    obtain ⟨X, rfl, HM⟩ := hcut
    clear c0 c1 c2 c3 c4 c5 c6 HR0 HZ0 HF0 HZ1
    have x0 : wc.cell? ⟨X, 0, none⟩ = some (.int .i64 (1 + (q : Int))) := by rw [Lib.cell_of_heap HM.out.hx]; rfl
    go_wp2_with fail
    clear x0
    (with_reducible refine (HHAS.out _).mono ?_)
    rintro e w2 ⟨rfl, hf2⟩
    have HM2 := Lib.hid (HM.out.keep hf2)
    clear HM hf2 HHAS
    have d := fun o => (show (w2.alloc o).cell? ⟨R, 3, none⟩ = some (.string ma) by rw [Lib.cell_of_heap (alloc_keep HM2.out.hr)]; rfl)
    go_wp2_with fail
    clear d
    have hP := heap_alloc_new w2 (.cells #[.bool true, .bool false, .bool false, .bool false, .bool false] 39)
    have HM3 := Lib.hid (HM2.out.keep ((Fr.refl [] w2).alloc (.cells #[.bool true, .bool false, .bool false, .bool false, .bool false] 39)))
    have hPX : w2.heap.size ≠ X := by have := lt_of_heap HM2.out.hx; omega
    generalize w2.alloc (.cells #[.bool true, .bool false, .bool false, .bool false, .bool false] 39) = W0' at *
    generalize w2.heap.size = P at *
    have HPX := Lib.hid hPX
    clear hPX HM2
    (with_reducible refine (HY1.out _).mono ?_)
    rintro e w3 ⟨rfl, rfl⟩
    have xc : W0'.cell? ⟨X, 3, none⟩ = some (.string ⟨#[]⟩) := by rw [Lib.cell_of_heap HM3.out.hx]; rfl
    have xf : W0'.frozen? ⟨X, 3, none⟩ = false := Lib.frozen_of_heap HM3.out.hx 3
    have hP4 : (W0'.setCell ⟨X, 3, none⟩ (.string y1)).heap[P]? = some (.cells #[.bool true, .bool false, .bool false, .bool false, .bool false] 39 (0, 0)) := blk_other hP HPX.out
    have HM4 := Lib.hid (HM3.out.set 3 (.string y1))
    obtain ⟨p0, p1, p2, p3, p4⟩ := pt_cellsB hP4
    have HMe := HM4
    obtain ⟨l0, l1, l2, l3, l4, l5, l6⟩ := rq_cells HMe.out.hx
    go_wp2_with (refine wpList_store_row rfl 23 _ _ rfl Z #[.int .i64 (1 + (q : Int)), .int .i64 0, .string y0, .string y1, .string ⟨#[]⟩, .string ⟨#[]⟩, .string ⟨#[]⟩] rfl rfl 23 _ HMe.out.hz infoRq rfl (by simp [Value.oneCell']) ?_)
    exact made_end (b := Z) rfl (setRow_heap _ _ _ _ _ _ HMe.out.hz) ⟨rfl, setRow_fr2 _ _ HMe.out.fr HMe.out.wz⟩
set_option maxHeartbeats 4000000 in
set_option maxRecDepth 100000 in
theorem made_8 (w : World) (k pu : Int) (so ma ot se pa : ByteArray) (hs : (Rq.mk k pu so ma ot se pa).short 1000) (hk : ptOf (1 + k % 16) = ⟨false, false, true, false, false⟩) :
    Calls Tryd.prog 6 #[.agg #[.int .i64 k, .int .i64 pu, .string so, .string ma, .string ot, .string se, .string pa]] w fun e w' => e = .returned (rqMade ⟨k, pu, so, ma, ot, se, pa⟩).val ∧ Fr [] w w' := by
  have hm : rqMade ⟨k, pu, so, ma, ot, se, pa⟩ = madeP ⟨false, false, true, false, false⟩ k pu so ma ot se pa := by rw [← hk]; rfl
  rw [hm]
  clear hm
  obtain ⟨hs0, hs1, hs2, hs3, hs4⟩ := hs
  simp only at hs0 hs1 hs2 hs3 hs4
  have hki : kIs (1 + k % 16) = true := by unfold kIs; rw [decide_eq_true (by omega), decide_eq_true (by omega)]; rfl
  have hhas : ∀ W, Calls Tryd.prog 16 #[.int .i64 (1 + k % 16)] W fun e w' => e = .returned (.tuple #[(Pt.mk false false true false false).val, .bool true]) ∧ Fr [] W w' := fun W => by
    have h := Has_calls W (1 + k % 16)
    rw [hk, hki] at h
    exact h
  simp only [Pt.val] at hhas
  obtain ⟨T, hT, hT0, hT1⟩ : ∃ T, k.tmod 16 = T ∧ -16 < T ∧ T < 16 := ⟨_, rfl, Int.lt_tmod_of_pos _ (by decide), Int.tmod_lt_of_pos _ (by decide)⟩
  obtain ⟨q, hq, hqx, hq16⟩ : ∃ q : Nat, (T + 16).tmod 16 = (q : Int) ∧ (q : Int) = k % 16 ∧ q < 16 := ⟨(k % 16).toNat, by rw [← hT, rem16]; omega, by omega, by omega⟩
  obtain ⟨U, hU, hU0, hU1⟩ : ∃ U, pu.tmod 3 = U ∧ -3 < U ∧ U < 3 := ⟨_, rfl, Int.lt_tmod_of_pos _ (by decide), Int.tmod_lt_of_pos _ (by decide)⟩
  obtain ⟨u, hu, hux, hu3⟩ : ∃ u : Nat, (U + 3).tmod 3 = (u : Int) ∧ (u : Int) = pu % 3 ∧ u < 3 := ⟨(pu % 3).toNat, by rw [← hU, rem3]; omega, by omega, by omega⟩
  unfold madeP Rq.val
  try simp only
  rw [← hqx] at hhas ⊢
  rw [← hux]
  have hw1 : IntKind.i64.wrap (T + 16) = T + 16 := by rw [IntKind.wrap_i64]; omega
  have hw2 : IntKind.i64.wrap (1 + (q : Int)) = 1 + (q : Int) := by rw [IntKind.wrap_i64]; omega
  have hv1 : IntKind.i64.wrap (U + 3) = U + 3 := by rw [IntKind.wrap_i64]; omega
  have hv2 : IntKind.i64.wrap (2 + (u : Int)) = 2 + (u : Int) := by rw [IntKind.wrap_i64]; omega
  have ha0 : (so ++ ⟨#[115]⟩ : ByteArray).size = so.size + 1 := by rw [ByteArray.size_append]; rfl
  have hy0 := fun W => short19_calls (so ++ ⟨#[115]⟩) 20 20 rfl W (by omega) (by decide)
  have hg0 : (9223372036854775807 < so.size + (⟨#[115]⟩ : ByteArray).size) = False := by rw [show (⟨#[115]⟩ : ByteArray).size = 1 from rfl]; simp; omega
  have hh0 : (9223372036854775807 < so.size + 1) = False := by simp; omega
  generalize shortB (so ++ ⟨#[115]⟩) 20 = y0 at *
  have HY0 := Lib.hid hy0
  clear ha0 hy0
  have ha1 : (ma ++ ⟨#[109]⟩ : ByteArray).size = ma.size + 1 := by rw [ByteArray.size_append]; rfl
  have hy1 := fun W => short19_calls (ma ++ ⟨#[109]⟩) 64 64 rfl W (by omega) (by decide)
  have hg1 : (9223372036854775807 < ma.size + (⟨#[109]⟩ : ByteArray).size) = False := by rw [show (⟨#[109]⟩ : ByteArray).size = 1 from rfl]; simp; omega
  have hh1 : (9223372036854775807 < ma.size + 1) = False := by simp; omega
  generalize shortB (ma ++ ⟨#[109]⟩) 64 = y1 at *
  have HY1 := Lib.hid hy1
  clear ha1 hy1
  have ha2 : (ot ++ ⟨#[111]⟩ : ByteArray).size = ot.size + 1 := by rw [ByteArray.size_append]; rfl
  have hy2 := fun W => short19_calls (ot ++ ⟨#[111]⟩) 64 64 rfl W (by omega) (by decide)
  have hg2 : (9223372036854775807 < ot.size + (⟨#[111]⟩ : ByteArray).size) = False := by rw [show (⟨#[111]⟩ : ByteArray).size = 1 from rfl]; simp; omega
  have hh2 : (9223372036854775807 < ot.size + 1) = False := by simp; omega
  generalize shortB (ot ++ ⟨#[111]⟩) 64 = y2 at *
  have HY2 := Lib.hid hy2
  clear ha2 hy2
  have ha3 : (se ++ ⟨#[107]⟩ : ByteArray).size = se.size + 1 := by rw [ByteArray.size_append]; rfl
  have hy3 := fun W => short19_calls (se ++ ⟨#[107]⟩) 64 64 rfl W (by omega) (by decide)
  have hg3 : (9223372036854775807 < se.size + (⟨#[107]⟩ : ByteArray).size) = False := by rw [show (⟨#[107]⟩ : ByteArray).size = 1 from rfl]; simp; omega
  have hh3 : (9223372036854775807 < se.size + 1) = False := by simp; omega
  generalize shortB (se ++ ⟨#[107]⟩) 64 = y3 at *
  have HY3 := Lib.hid hy3
  clear ha3 hy3
  have ha4 : (pa ++ ⟨#[112]⟩ : ByteArray).size = pa.size + 1 := by rw [ByteArray.size_append]; rfl
  have hy4 := fun W => short19_calls (pa ++ ⟨#[112]⟩) 64 64 rfl W (by omega) (by decide)
  have hg4 : (9223372036854775807 < pa.size + (⟨#[112]⟩ : ByteArray).size) = False := by rw [show (⟨#[112]⟩ : ByteArray).size = 1 from rfl]; simp; omega
  have hh4 : (9223372036854775807 < pa.size + 1) = False := by simp; omega
  generalize shortB (pa ++ ⟨#[112]⟩) 64 = y4 at *
  have HY4 := Lib.hid hy4
  clear ha4 hy4
  have HHAS := Lib.hid hhas
  clear hhas hk hki hqx hux hs0 hs1 hs2 hs3 hs4
  go_enter Tryd.func6, Tryd.ntmps6
  go_wp2_with fail
  have hr0 := alloc_keep (o := .cells #[.int .i64 0, .int .i64 0, .string ⟨#[]⟩, .string ⟨#[]⟩, .string ⟨#[]⟩, .string ⟨#[]⟩, .string ⟨#[]⟩] 23) (heap_alloc_new w (.cells #[.int .i64 k, .int .i64 pu, .string so, .string ma, .string ot, .string se, .string pa] 23))
  have hz0 := heap_alloc_new (w.alloc (.cells #[.int .i64 k, .int .i64 pu, .string so, .string ma, .string ot, .string se, .string pa] 23)) (.cells #[.int .i64 0, .int .i64 0, .string ⟨#[]⟩, .string ⟨#[]⟩, .string ⟨#[]⟩, .string ⟨#[]⟩, .string ⟨#[]⟩] 23)
  have hF0 : Fr [] w ((w.alloc (.cells #[.int .i64 k, .int .i64 pu, .string so, .string ma, .string ot, .string se, .string pa] 23)).alloc (.cells #[.int .i64 0, .int .i64 0, .string ⟨#[]⟩, .string ⟨#[]⟩, .string ⟨#[]⟩, .string ⟨#[]⟩, .string ⟨#[]⟩] 23)) := ((Fr.refl _ _).alloc _).alloc _
  have hsz : (w.alloc (.cells #[.int .i64 k, .int .i64 pu, .string so, .string ma, .string ot, .string se, .string pa] 23)).heap.size = w.heap.size + 1 := by simp
  have hsz2 : ((w.alloc (.cells #[.int .i64 k, .int .i64 pu, .string so, .string ma, .string ot, .string se, .string pa] 23)).alloc (.cells #[.int .i64 0, .int .i64 0, .string ⟨#[]⟩, .string ⟨#[]⟩, .string ⟨#[]⟩, .string ⟨#[]⟩, .string ⟨#[]⟩] 23)).heap.size = w.heap.size + 2 := by simp
  rw [hsz] at hz0
  generalize (w.alloc (.cells #[.int .i64 k, .int .i64 pu, .string so, .string ma, .string ot, .string se, .string pa] 23)).alloc (.cells #[.int .i64 0, .int .i64 0, .string ⟨#[]⟩, .string ⟨#[]⟩, .string ⟨#[]⟩, .string ⟨#[]⟩, .string ⟨#[]⟩] 23) = W0 at *
  clear hsz
  obtain ⟨c0, c1, c2, c3, c4, c5, c6⟩ := rq_cells hr0
  have HR0 := Lib.hid hr0
  have HZ0 := Lib.hid hz0
  have HF0 := Lib.hid hF0
  have hZ1 : w.heap.size + 1 ≠ w.heap.size + 2 := by omega
  have hZ2 : w.heap.size ≠ w.heap.size + 2 := by omega
  have HZ1 := Lib.hid (show w.heap.size ≤ w.heap.size ∧ w.heap.size ≤ w.heap.size + 1 ∧ W0.heap.size = w.heap.size + 2 by omega)
  clear hr0 hz0 hF0 hZ1 hZ2 hsz2
  generalize w.heap.size + 1 = Z at *
  generalize hR : w.heap.size = R at *
  have HRR := Lib.hid hR
  clear hR
  go_cut [3] from 6 (fun s3 wx => ∃ X, s3 = .pointer (some ⟨X, 0, none⟩) ∧ Hid (Mk w wx R Z X #[.int .i64 k, .int .i64 pu, .string so, .string ma, .string ot, .string se, .string pa] #[.int .i64 (1 + (q : Int)), .int .i64 0, .string y0, .string ⟨#[]⟩, .string ⟨#[]⟩, .string ⟨#[]⟩, .string ⟨#[]⟩]))
  case first =>
    go_region_held3 (fun w' => w'.cell? ⟨R, 0, none⟩ = some (.int .i64 k) ∧ w'.cell? ⟨R, 2, none⟩ = some (.string so)) (first | exact ⟨c0, c2⟩ | go_keep) (first
      | (go_at_call 10; (with_reducible refine (HY0.out _).mono ?_); rintro e w9 ⟨rfl, rfl⟩))
    all_goals
      go_wp2_with fail
      go_meet
      exact ⟨_, rfl, Mk.new HR0.out HZ0.out HF0.out (by have := HZ1.out; have := HRR.out; omega) _⟩
  case rest =>
    obtain ⟨X, rfl, HM⟩ := hcut
    clear c0 c1 c2 c3 c4 c5 c6 HR0 HZ0 HF0 HZ1
    have x0 : wc.cell? ⟨X, 0, none⟩ = some (.int .i64 (1 + (q : Int))) := by rw [Lib.cell_of_heap HM.out.hx]; rfl
    go_wp2_with fail
    clear x0
    (with_reducible refine (HHAS.out _).mono ?_)
    rintro e w2 ⟨rfl, hf2⟩
    have HM2 := Lib.hid (HM.out.keep hf2)
    clear HM hf2 HHAS
    have d := fun o => (show (w2.alloc o).cell? ⟨R, 5, none⟩ = some (.string se) by rw [Lib.cell_of_heap (alloc_keep HM2.out.hr)]; rfl)
    go_wp2_with fail
    clear d
    have hP := heap_alloc_new w2 (.cells #[.bool false, .bool false, .bool true, .bool false, .bool false] 39)
    have HM3 := Lib.hid (HM2.out.keep ((Fr.refl [] w2).alloc (.cells #[.bool false, .bool false, .bool true, .bool false, .bool false] 39)))
    have hPX : w2.heap.size ≠ X := by have := lt_of_heap HM2.out.hx; omega
    generalize w2.alloc (.cells #[.bool false, .bool false, .bool true, .bool false, .bool false] 39) = W0' at *
    generalize w2.heap.size = P at *
    have HPX := Lib.hid hPX
    clear hPX HM2
    (with_reducible refine (HY3.out _).mono ?_)
    rintro e w3 ⟨rfl, rfl⟩
    have xc : W0'.cell? ⟨X, 5, none⟩ = some (.string ⟨#[]⟩) := by rw [Lib.cell_of_heap HM3.out.hx]; rfl
    have xf : W0'.frozen? ⟨X, 5, none⟩ = false := Lib.frozen_of_heap HM3.out.hx 5
    have hP4 : (W0'.setCell ⟨X, 5, none⟩ (.string y3)).heap[P]? = some (.cells #[.bool false, .bool false, .bool true, .bool false, .bool false] 39 (0, 0)) := blk_other hP HPX.out
    have HM4 := Lib.hid (HM3.out.set 5 (.string y3))
    obtain ⟨p0, p1, p2, p3, p4⟩ := pt_cellsB hP4
    have HMe := HM4
    obtain ⟨l0, l1, l2, l3, l4, l5, l6⟩ := rq_cells HMe.out.hx
    go_wp2_with (refine wpList_store_row rfl 23 _ _ rfl Z #[.int .i64 (1 + (q : Int)), .int .i64 0, .string y0, .string ⟨#[]⟩, .string ⟨#[]⟩, .string y3, .string ⟨#[]⟩] rfl rfl 23 _ HMe.out.hz infoRq rfl (by simp [Value.oneCell']) ?_)
    exact made_end (b := Z) rfl (setRow_heap _ _ _ _ _ _ HMe.out.hz) ⟨rfl, setRow_fr2 _ _ HMe.out.fr HMe.out.wz⟩
end Go.Proofs.YtbeoegppldjpoaaDoor
