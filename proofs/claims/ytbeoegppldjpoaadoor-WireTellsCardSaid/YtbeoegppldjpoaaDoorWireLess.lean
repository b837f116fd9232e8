/- The contract of 'less' of the statements of layer 19: a request of texts of 66 bytes at most. -/
import Derived.Test.YtbeoegppldjpoaaDoorWireRead
import Derived.Test.YtbeoegppldjpoaaDoorShort19
namespace Go.Proofs.YtbeoegppldjpoaaDoor
open Go.RowKit
set_option linter.unusedVariables false
set_option linter.unusedSimpArgs false

def rqLess (r : Rq) : Rq := ⟨r.k, r.pu, shortB r.so 66, shortB r.ma 66, shortB r.ot 66, shortB r.se 66, shortB r.pa 66⟩
theorem less_end {R : Ending → World → Prop} {tmps : Array Value} {W : World} {b : Nat} {x0 x1 x2 x3 x4 x5 x6 : Value} (hb : tmps.getD 2 undef = .pointer (some ⟨b, 0, none⟩)) (hc : W.heap[b]? = some (.cells #[x0, x1, x2, x3, x4, x5, x6] 23 (0, 0))) (h : R (.returned (.agg #[x0, x1, x2, x3, x4, x5, x6])) W) :
    bodyPost Tryd.prog Tryd.f7 R Exit.ret { tmps := tmps, defers := [] } W := by
  have hres : Tryd.f7.results = #[.cell 2 23] := by kernel_rfl
  obtain ⟨d0, d1, d2, d3, d4, d5, d6⟩ := rq_cells hc
  refine bodyPost_ret (v := .agg #[x0, x1, x2, x3, x4, x5, x6]) ?_ rfl h
  rw [Array.getD_eq_getD_getElem?] at hb
  simp only [results, hres]
  go_simp
set_option maxHeartbeats 4000000 in
set_option maxRecDepth 100000 in
theorem less_calls (w : World) (k pu : Int) (so ma ot se pa : ByteArray) (hs : (Rq.mk k pu so ma ot se pa).short 9223372036854775807) :
    Calls Tryd.prog 7 #[.agg #[.int .i64 k, .int .i64 pu, .string so, .string ma, .string ot, .string se, .string pa]] w fun e w' => e = .returned (rqLess ⟨k, pu, so, ma, ot, se, pa⟩).val ∧ Fr [] w w' := by
  obtain ⟨hs0, hs1, hs2, hs3, hs4⟩ := hs
  simp only at hs0 hs1 hs2 hs3 hs4
  unfold rqLess Rq.val
  simp only
  have hy0 := fun W => (short19_calls so 66 66 rfl W (by omega) (by decide))
  generalize shortB so 66 = y0 at *
  have HY0 := Lib.hid hy0
  clear hy0 hs0
  have hy1 := fun W => (short19_calls ma 66 66 rfl W (by omega) (by decide))
  generalize shortB ma 66 = y1 at *
  have HY1 := Lib.hid hy1
  clear hy1 hs1
  have hy2 := fun W => (short19_calls ot 66 66 rfl W (by omega) (by decide))
  generalize shortB ot 66 = y2 at *
  have HY2 := Lib.hid hy2
  clear hy2 hs2
  have hy3 := fun W => (short19_calls se 66 66 rfl W (by omega) (by decide))
  generalize shortB se 66 = y3 at *
  have HY3 := Lib.hid hy3
  clear hy3 hs3
  have hy4 := fun W => (short19_calls pa 66 66 rfl W (by omega) (by decide))
  generalize shortB pa 66 = y4 at *
  have HY4 := Lib.hid hy4
  clear hy4 hs4
  go_enter Tryd.func7, Tryd.ntmps7
  go_wp2_with fail
  have hr0 := alloc_keep (o := .cells #[.int .i64 0, .int .i64 0, .string ⟨#[]⟩, .string ⟨#[]⟩, .string ⟨#[]⟩, .string ⟨#[]⟩, .string ⟨#[]⟩] 23) (heap_alloc_new w (.cells #[.int .i64 k, .int .i64 pu, .string so, .string ma, .string ot, .string se, .string pa] 23))
  have hz0 := heap_alloc_new (w.alloc (.cells #[.int .i64 k, .int .i64 pu, .string so, .string ma, .string ot, .string se, .string pa] 23)) (.cells #[.int .i64 0, .int .i64 0, .string ⟨#[]⟩, .string ⟨#[]⟩, .string ⟨#[]⟩, .string ⟨#[]⟩, .string ⟨#[]⟩] 23)
  have hF0 : Fr [] w ((w.alloc (.cells #[.int .i64 k, .int .i64 pu, .string so, .string ma, .string ot, .string se, .string pa] 23)).alloc (.cells #[.int .i64 0, .int .i64 0, .string ⟨#[]⟩, .string ⟨#[]⟩, .string ⟨#[]⟩, .string ⟨#[]⟩, .string ⟨#[]⟩] 23)) := ((Fr.refl _ _).alloc _).alloc _
  have hsz : (w.alloc (.cells #[.int .i64 k, .int .i64 pu, .string so, .string ma, .string ot, .string se, .string pa] 23)).heap.size = w.heap.size + 1 := by simp
  rw [hsz] at hz0
  generalize (w.alloc (.cells #[.int .i64 k, .int .i64 pu, .string so, .string ma, .string ot, .string se, .string pa] 23)).alloc (.cells #[.int .i64 0, .int .i64 0, .string ⟨#[]⟩, .string ⟨#[]⟩, .string ⟨#[]⟩, .string ⟨#[]⟩, .string ⟨#[]⟩] 23) = W0 at *
  have HZR := Lib.hid (show w.heap.size ≤ w.heap.size ∧ w.heap.size + 1 ≠ w.heap.size by omega)
  clear hsz
  have hZw : w.heap.size ≤ w.heap.size + 1 := by omega
  have HZW := Lib.hid hZw
  clear hZw
  generalize w.heap.size + 1 = Z at *
  generalize hR : w.heap.size = R at *
  have HRR := Lib.hid hR
  clear hR
  (with_reducible refine (HY0.out _).mono ?_)
  rintro e w0 ⟨rfl, rfl⟩
  have cc : W0.cell? ⟨R, 2, none⟩ = some (.string so) := by rw [Lib.cell_of_heap hr0]; rfl
  have ff : W0.frozen? ⟨R, 2, none⟩ = false := Lib.frozen_of_heap hr0 2
  have ca : (W0.setCell ⟨R, 2, none⟩ (.string y0)).cell? ⟨R, 3, none⟩ = some (.string ma) := by rw [Lib.cell_of_heap (blk_set 2 _ hr0)]; rfl
  go_wp2_with fail
  clear cc ff ca
  have hr1 : (W0.setCell ⟨R, 2, none⟩ (.string y0)).heap[R]? = some (.cells #[.int .i64 k, .int .i64 pu, .string y0, .string ma, .string ot, .string se, .string pa] 23 (0, 0)) := blk_set 2 _ hr0
  have hz1 := blk_other (j := 2) (v := .string y0) hz0 HZR.out.2
  have hF1 : Fr [] w (W0.setCell ⟨R, 2, none⟩ (.string y0)) := hF0.setCell (.inr (by have := HRR.out; show w.heap.size ≤ R; omega)) _
  generalize W0.setCell ⟨R, 2, none⟩ (.string y0) = W1 at *
  clear hr0 hz0 hF0
  (with_reducible refine (HY1.out _).mono ?_)
  rintro e w1 ⟨rfl, rfl⟩
  have cc : W1.cell? ⟨R, 3, none⟩ = some (.string ma) := by rw [Lib.cell_of_heap hr1]; rfl
  have ff : W1.frozen? ⟨R, 3, none⟩ = false := Lib.frozen_of_heap hr1 3
  have ca : (W1.setCell ⟨R, 3, none⟩ (.string y1)).cell? ⟨R, 4, none⟩ = some (.string ot) := by rw [Lib.cell_of_heap (blk_set 3 _ hr1)]; rfl
  go_wp2_with fail
  clear cc ff ca
  have hr2 : (W1.setCell ⟨R, 3, none⟩ (.string y1)).heap[R]? = some (.cells #[.int .i64 k, .int .i64 pu, .string y0, .string y1, .string ot, .string se, .string pa] 23 (0, 0)) := blk_set 3 _ hr1
  have hz2 := blk_other (j := 3) (v := .string y1) hz1 HZR.out.2
  have hF2 : Fr [] w (W1.setCell ⟨R, 3, none⟩ (.string y1)) := hF1.setCell (.inr (by have := HRR.out; show w.heap.size ≤ R; omega)) _
  generalize W1.setCell ⟨R, 3, none⟩ (.string y1) = W2 at *
  clear hr1 hz1 hF1
  (with_reducible refine (HY2.out _).mono ?_)
  rintro e w2 ⟨rfl, rfl⟩
  have cc : W2.cell? ⟨R, 4, none⟩ = some (.string ot) := by rw [Lib.cell_of_heap hr2]; rfl
  have ff : W2.frozen? ⟨R, 4, none⟩ = false := Lib.frozen_of_heap hr2 4
  have ca : (W2.setCell ⟨R, 4, none⟩ (.string y2)).cell? ⟨R, 5, none⟩ = some (.string se) := by rw [Lib.cell_of_heap (blk_set 4 _ hr2)]; rfl
  go_wp2_with fail
  clear cc ff ca
  have hr3 : (W2.setCell ⟨R, 4, none⟩ (.string y2)).heap[R]? = some (.cells #[.int .i64 k, .int .i64 pu, .string y0, .string y1, .string y2, .string se, .string pa] 23 (0, 0)) := blk_set 4 _ hr2
  have hz3 := blk_other (j := 4) (v := .string y2) hz2 HZR.out.2
  have hF3 : Fr [] w (W2.setCell ⟨R, 4, none⟩ (.string y2)) := hF2.setCell (.inr (by have := HRR.out; show w.heap.size ≤ R; omega)) _
  generalize W2.setCell ⟨R, 4, none⟩ (.string y2) = W3 at *
  clear hr2 hz2 hF2
  (with_reducible refine (HY3.out _).mono ?_)
  rintro e w3 ⟨rfl, rfl⟩
  have cc : W3.cell? ⟨R, 5, none⟩ = some (.string se) := by rw [Lib.cell_of_heap hr3]; rfl
  have ff : W3.frozen? ⟨R, 5, none⟩ = false := Lib.frozen_of_heap hr3 5
  have ca : (W3.setCell ⟨R, 5, none⟩ (.string y3)).cell? ⟨R, 6, none⟩ = some (.string pa) := by rw [Lib.cell_of_heap (blk_set 5 _ hr3)]; rfl
  go_wp2_with fail
  clear cc ff ca
  have hr4 : (W3.setCell ⟨R, 5, none⟩ (.string y3)).heap[R]? = some (.cells #[.int .i64 k, .int .i64 pu, .string y0, .string y1, .string y2, .string y3, .string pa] 23 (0, 0)) := blk_set 5 _ hr3
  have hz4 := blk_other (j := 5) (v := .string y3) hz3 HZR.out.2
  have hF4 : Fr [] w (W3.setCell ⟨R, 5, none⟩ (.string y3)) := hF3.setCell (.inr (by have := HRR.out; show w.heap.size ≤ R; omega)) _
  generalize W3.setCell ⟨R, 5, none⟩ (.string y3) = W4 at *
  clear hr3 hz3 hF3
  (with_reducible refine (HY4.out _).mono ?_)
  rintro e w4 ⟨rfl, rfl⟩
  have cc : W4.cell? ⟨R, 6, none⟩ = some (.string pa) := by rw [Lib.cell_of_heap hr4]; rfl
  have ff : W4.frozen? ⟨R, 6, none⟩ = false := Lib.frozen_of_heap hr4 6
  obtain ⟨l0, l1, l2, l3, l4, l5, l6⟩ := rq_cells (blk_set 6 (.string y4) hr4)
  have hz5 := blk_other (j := 6) (v := .string y4) hz4 HZR.out.2
  have HZ5 := Lib.hid hz5
  have hF5 : Fr [] w (W4.setCell ⟨R, 6, none⟩ (.string y4)) := hF4.setCell (.inr (by have := HRR.out; show w.heap.size ≤ R; omega)) _
  have HF5 := Lib.hid hF5
  clear hz5 hF5 hz4 hF4 hr4
  go_wp2_with (refine wpList_store_row rfl 23 _ _ rfl Z #[.int .i64 k, .int .i64 pu, .string y0, .string y1, .string y2, .string y3, .string y4] rfl rfl 23 _ HZ5.out infoRq rfl (by simp [Value.oneCell']) ?_)
  exact less_end (b := Z) rfl (setRow_heap _ _ _ _ _ _ HZ5.out) ⟨rfl, setRow_fr2 _ _ HF5.out (by have := HZW.out; have := HRR.out; omega)⟩

end Go.Proofs.YtbeoegppldjpoaaDoor
