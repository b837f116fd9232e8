/- The contract of the document's Has (layer 19), at a kind that is one, and at one that is none. -/
import Derived.Test.YtbeoegppldjpoaaDoorWireCheck
namespace Go.Proofs.YtbeoegppldjpoaaDoor
open Go.RowKit
set_option linter.unusedVariables false
set_option linter.unusedSimpArgs false

def HasPost (w : World) (p : Pt) (b : Bool) (e : Ending) (w' : World) : Prop := e = .returned (.tuple #[p.val, .bool b]) ∧ Fr [] w w'
theorem has_end {w : World} {p : Pt} {y : Bool} {tmps : Array Value} {W : World} {b : Nat} {x0 x1 x2 x3 x4 : Bool} (hb : tmps.getD 2 undef = .pointer (some ⟨b, 0, none⟩)) (hy : tmps.getD 3 undef = .bool y) (hc : W.heap[b]? = some (.cells #[.bool x0, .bool x1, .bool x2, .bool x3, .bool x4] 39 (0, 0))) (hp : p = ⟨x0, x1, x2, x3, x4⟩) (hf : Fr [] w W) :
    bodyPost Tryd.prog Tryd.f16 (HasPost w p y) Exit.ret { tmps := tmps, defers := [] } W := by
  have hres : Tryd.f16.results = #[.cell 2 39, .tmp 3] := by kernel_rfl
  have d0 : W.cell? ⟨b, 0, none⟩ = some (.bool x0) := by rw [Lib.cell_of_heap hc]; rfl
  have d1 : W.cell? ⟨b, 1, none⟩ = some (.bool x1) := by rw [Lib.cell_of_heap hc]; rfl
  have d2 : W.cell? ⟨b, 2, none⟩ = some (.bool x2) := by rw [Lib.cell_of_heap hc]; rfl
  have d3 : W.cell? ⟨b, 3, none⟩ = some (.bool x3) := by rw [Lib.cell_of_heap hc]; rfl
  have d4 : W.cell? ⟨b, 4, none⟩ = some (.bool x4) := by rw [Lib.cell_of_heap hc]; rfl
  subst hp
  refine bodyPost_ret (v := .tuple #[.agg #[.bool x0, .bool x1, .bool x2, .bool x3, .bool x4], .bool y]) ?_ rfl ⟨rfl, hf⟩
  rw [Array.getD_eq_getD_getElem?] at hb hy
  simp only [results, hres]
  go_simp
set_option maxHeartbeats 400000 in
set_option maxRecDepth 100000 in
theorem Has_1 (w : World) : Calls Tryd.prog 16 #[.int .i64 1] w (HasPost w (ptN 1) true) := by
  go_enter Tryd.func16, Tryd.ntmps16
  go_wp2_with fail
  exact has_end (b := w.heap.size) rfl rfl (heap_alloc_new _ _) rfl ((Fr.refl _ _).alloc _)
set_option maxHeartbeats 400000 in
set_option maxRecDepth 100000 in
theorem Has_2 (w : World) : Calls Tryd.prog 16 #[.int .i64 2] w (HasPost w (ptN 2) true) := by
  go_enter Tryd.func16, Tryd.ntmps16
  go_wp2_with fail
  exact has_end (b := w.heap.size) rfl rfl (heap_alloc_new _ _) rfl ((Fr.refl _ _).alloc _)
set_option maxHeartbeats 400000 in
set_option maxRecDepth 100000 in
theorem Has_3 (w : World) : Calls Tryd.prog 16 #[.int .i64 3] w (HasPost w (ptN 3) true) := by
  go_enter Tryd.func16, Tryd.ntmps16
  go_wp2_with fail
  exact has_end (b := w.heap.size) rfl rfl (heap_alloc_new _ _) rfl ((Fr.refl _ _).alloc _)
set_option maxHeartbeats 400000 in
set_option maxRecDepth 100000 in
theorem Has_4 (w : World) : Calls Tryd.prog 16 #[.int .i64 4] w (HasPost w (ptN 4) true) := by
  go_enter Tryd.func16, Tryd.ntmps16
  go_wp2_with fail
  exact has_end (b := w.heap.size) rfl rfl (heap_alloc_new _ _) rfl ((Fr.refl _ _).alloc _)
set_option maxHeartbeats 400000 in
set_option maxRecDepth 100000 in
theorem Has_5 (w : World) : Calls Tryd.prog 16 #[.int .i64 5] w (HasPost w (ptN 5) true) := by
  go_enter Tryd.func16, Tryd.ntmps16
  go_wp2_with fail
  exact has_end (b := w.heap.size) rfl rfl (heap_alloc_new _ _) rfl ((Fr.refl _ _).alloc _)
set_option maxHeartbeats 400000 in
set_option maxRecDepth 100000 in
theorem Has_6 (w : World) : Calls Tryd.prog 16 #[.int .i64 6] w (HasPost w (ptN 6) true) := by
  go_enter Tryd.func16, Tryd.ntmps16
  go_wp2_with fail
  exact has_end (b := w.heap.size) rfl rfl (heap_alloc_new _ _) rfl ((Fr.refl _ _).alloc _)
set_option maxHeartbeats 400000 in
set_option maxRecDepth 100000 in
theorem Has_7 (w : World) : Calls Tryd.prog 16 #[.int .i64 7] w (HasPost w (ptN 7) true) := by
  go_enter Tryd.func16, Tryd.ntmps16
  go_wp2_with fail
  exact has_end (b := w.heap.size) rfl rfl (heap_alloc_new _ _) rfl ((Fr.refl _ _).alloc _)
set_option maxHeartbeats 400000 in
set_option maxRecDepth 100000 in
theorem Has_8 (w : World) : Calls Tryd.prog 16 #[.int .i64 8] w (HasPost w (ptN 8) true) := by
  go_enter Tryd.func16, Tryd.ntmps16
  go_wp2_with fail
  exact has_end (b := w.heap.size) rfl rfl (heap_alloc_new _ _) rfl ((Fr.refl _ _).alloc _)
set_option maxHeartbeats 400000 in
set_option maxRecDepth 100000 in
theorem Has_9 (w : World) : Calls Tryd.prog 16 #[.int .i64 9] w (HasPost w (ptN 9) true) := by
  go_enter Tryd.func16, Tryd.ntmps16
  go_wp2_with fail
  exact has_end (b := w.heap.size) rfl rfl (heap_alloc_new _ _) rfl ((Fr.refl _ _).alloc _)
set_option maxHeartbeats 400000 in
set_option maxRecDepth 100000 in
theorem Has_10 (w : World) : Calls Tryd.prog 16 #[.int .i64 10] w (HasPost w (ptN 10) true) := by
  go_enter Tryd.func16, Tryd.ntmps16
  go_wp2_with fail
  exact has_end (b := w.heap.size) rfl rfl (heap_alloc_new _ _) rfl ((Fr.refl _ _).alloc _)
set_option maxHeartbeats 400000 in
set_option maxRecDepth 100000 in
theorem Has_11 (w : World) : Calls Tryd.prog 16 #[.int .i64 11] w (HasPost w (ptN 11) true) := by
  go_enter Tryd.func16, Tryd.ntmps16
  go_wp2_with fail
  exact has_end (b := w.heap.size) rfl rfl (heap_alloc_new _ _) rfl ((Fr.refl _ _).alloc _)
set_option maxHeartbeats 400000 in
set_option maxRecDepth 100000 in
theorem Has_12 (w : World) : Calls Tryd.prog 16 #[.int .i64 12] w (HasPost w (ptN 12) true) := by
  go_enter Tryd.func16, Tryd.ntmps16
  go_wp2_with fail
  exact has_end (b := w.heap.size) rfl rfl (heap_alloc_new _ _) rfl ((Fr.refl _ _).alloc _)
set_option maxHeartbeats 400000 in
set_option maxRecDepth 100000 in
theorem Has_13 (w : World) : Calls Tryd.prog 16 #[.int .i64 13] w (HasPost w (ptN 13) true) := by
  go_enter Tryd.func16, Tryd.ntmps16
  go_wp2_with fail
  exact has_end (b := w.heap.size) rfl rfl (heap_alloc_new _ _) rfl ((Fr.refl _ _).alloc _)
set_option maxHeartbeats 400000 in
set_option maxRecDepth 100000 in
theorem Has_14 (w : World) : Calls Tryd.prog 16 #[.int .i64 14] w (HasPost w (ptN 14) true) := by
  go_enter Tryd.func16, Tryd.ntmps16
  go_wp2_with fail
  exact has_end (b := w.heap.size) rfl rfl (heap_alloc_new _ _) rfl ((Fr.refl _ _).alloc _)
set_option maxHeartbeats 400000 in
set_option maxRecDepth 100000 in
theorem Has_15 (w : World) : Calls Tryd.prog 16 #[.int .i64 15] w (HasPost w (ptN 15) true) := by
  go_enter Tryd.func16, Tryd.ntmps16
  go_wp2_with fail
  exact has_end (b := w.heap.size) rfl rfl (heap_alloc_new _ _) rfl ((Fr.refl _ _).alloc _)
set_option maxHeartbeats 400000 in
set_option maxRecDepth 100000 in
theorem Has_16 (w : World) : Calls Tryd.prog 16 #[.int .i64 16] w (HasPost w (ptN 16) true) := by
  go_enter Tryd.func16, Tryd.ntmps16
  go_wp2_with fail
  exact has_end (b := w.heap.size) rfl rfl (heap_alloc_new _ _) rfl ((Fr.refl _ _).alloc _)
set_option maxHeartbeats 1000000 in
set_option maxRecDepth 100000 in
theorem Has_no (w : World) (k : Int) (h : k < 1 ∨ 16 < k) : Calls Tryd.prog 16 #[.int .i64 k] w (HasPost w ⟨false, false, false, false, false⟩ false) := by
  have h1 : (k == 1) = false := beq_eq_false_iff_ne.2 (by omega)
  have h2 : (k == 2) = false := beq_eq_false_iff_ne.2 (by omega)
  have h3 : (k == 3) = false := beq_eq_false_iff_ne.2 (by omega)
  have h4 : (k == 4) = false := beq_eq_false_iff_ne.2 (by omega)
  have h5 : (k == 5) = false := beq_eq_false_iff_ne.2 (by omega)
  have h6 : (k == 6) = false := beq_eq_false_iff_ne.2 (by omega)
  have h7 : (k == 7) = false := beq_eq_false_iff_ne.2 (by omega)
  have h8 : (k == 8) = false := beq_eq_false_iff_ne.2 (by omega)
  have h9 : (k == 9) = false := beq_eq_false_iff_ne.2 (by omega)
  have h10 : (k == 10) = false := beq_eq_false_iff_ne.2 (by omega)
  have h11 : (k == 11) = false := beq_eq_false_iff_ne.2 (by omega)
  have h12 : (k == 12) = false := beq_eq_false_iff_ne.2 (by omega)
  have h13 : (k == 13) = false := beq_eq_false_iff_ne.2 (by omega)
  have h14 : (k == 14) = false := beq_eq_false_iff_ne.2 (by omega)
  have h15 : (k == 15) = false := beq_eq_false_iff_ne.2 (by omega)
  have h16 : (k == 16) = false := beq_eq_false_iff_ne.2 (by omega)
  clear h
  go_enter Tryd.func16, Tryd.ntmps16
  go_wp2_with fail
  exact has_end (b := w.heap.size) rfl rfl (heap_alloc_new _ _) rfl ((Fr.refl _ _).alloc _)
theorem Has_calls (w : World) (k : Int) : Calls Tryd.prog 16 #[.int .i64 k] w (HasPost w (ptOf k) (kIs k)) := by
  by_cases h : 1 ≤ k ∧ k ≤ 16
  · have hk : kIs k = true := by unfold kIs; rw [decide_eq_true h.1, decide_eq_true h.2]; rfl
    obtain ⟨m, rfl⟩ := Int.eq_ofNat_of_zero_le (by omega : 0 ≤ k)
    rw [ptOf, if_pos hk, hk, Int.toNat_natCast]
    have h1 : 1 ≤ m := by omega
    have h2 : m ≤ 16 := by omega
    match m, h1, h2 with
    | 1, _, _ => exact Has_1 w
    | 2, _, _ => exact Has_2 w
    | 3, _, _ => exact Has_3 w
    | 4, _, _ => exact Has_4 w
    | 5, _, _ => exact Has_5 w
    | 6, _, _ => exact Has_6 w
    | 7, _, _ => exact Has_7 w
    | 8, _, _ => exact Has_8 w
    | 9, _, _ => exact Has_9 w
    | 10, _, _ => exact Has_10 w
    | 11, _, _ => exact Has_11 w
    | 12, _, _ => exact Has_12 w
    | 13, _, _ => exact Has_13 w
    | 14, _, _ => exact Has_14 w
    | 15, _, _ => exact Has_15 w
    | 16, _, _ => exact Has_16 w
  · have hk : kIs k = false := by
      unfold kIs
      by_cases h1 : 1 ≤ k
      · rw [decide_eq_false (show ¬ k ≤ 16 from fun h2 => h ⟨h1, h2⟩), Bool.and_false]
      · rw [decide_eq_false h1, Bool.false_and]
    rw [ptOf, hk]
    exact Has_no w k (by omega)
end Go.Proofs.YtbeoegppldjpoaaDoor
