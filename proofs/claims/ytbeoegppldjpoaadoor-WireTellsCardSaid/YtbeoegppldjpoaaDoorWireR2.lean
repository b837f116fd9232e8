/- The contract of the document's Bytes (layer 19), of a request that may be. -/
import Derived.Test.YtbeoegppldjpoaaDoorWireR1
import Derived.Test.YtbeoegppldjpoaaDoorRef03W
import Derived.Test.YtbeoegppldjpoaaDoorMild3
namespace Go.Proofs.YtbeoegppldjpoaaDoor
open Go.RowKit
set_option linter.unusedVariables false
set_option linter.unusedSimpArgs false
attribute [local go_sem] mildAt mildUpon

theorem txtB_small {s : ByteArray} (h : s.size ≤ 64) : (txtB s).size ≤ 100 := by
  have := numB_size s.size (by omega)
  rw [txtB, ByteArray.size_append]
  omega
set_option maxHeartbeats 4000000 in
set_option maxRecDepth 100000 in
theorem R19Bytes (w : World) (xk xpu : Nat) (y0 y1 y2 y3 y4 : ByteArray) (hok : (Rq.mk xk xpu y0 y1 y2 y3 y4).ok = true) :
    Calls Tryd.prog 23 #[.agg #[.int .i64 xk, .int .i64 xpu, .string y0, .string y1, .string y2, .string y3, .string y4]] w fun e w' => e = .returned (.string (rqB ⟨xk, xpu, y0, y1, y2, y3, y4⟩)) ∧ Fr [] w w' := by
  have hi := Rq.ok_iff hok
  simp only at hi
  obtain ⟨⟨hk0, hk1⟩, ⟨hp0, hp1⟩, ⟨hi0, hi0'⟩, hi1, hi2, hi3, hi4⟩ := hi
  have hck := fun W => R19Check W xk xpu y0 y1 y2 y3 y4 ⟨by show y0.size ≤ _; omega, by show y1.size ≤ _; omega, by show y2.size ≤ _; omega, by show y3.size ≤ _; omega, by show y4.size ≤ _; omega⟩
  rw [hok] at hck
  have he : rqB ⟨xk, xpu, y0, y1, y2, y3, y4⟩ = numB xk ++ numB xpu ++ txtB y0 ++ txtB y1 ++ txtB y2 ++ txtB y3 ++ txtB y4 := by
    simp only [rqB, numsB, txtsB, app_nil, app_assoc, Int.toNat_natCast]
  rw [he]
  clear he hok
  have n0 := fun W => refNum_calls (xk : Int) W (by omega) (by omega)
  have n1 := fun W => refNum_calls (xpu : Int) W (by omega) (by omega)
  rw [Int.toNat_natCast] at n0 n1
  have n2 := fun W => refText_calls y0 W (by omega)
  have n3 := fun W => refText_calls y1 W (by omega)
  have n4 := fun W => refText_calls y2 W (by omega)
  have n5 := fun W => refText_calls y3 W (by omega)
  have n6 := fun W => refText_calls y4 W (by omega)
  have z0 := numB_size xk (by omega)
  have z1 := numB_size xpu (by omega)
  have z2 := txtB_small (s := y0) (by omega)
  have z3 := txtB_small (s := y1) (by omega)
  have z4 := txtB_small (s := y2) (by omega)
  have z5 := txtB_small (s := y3) (by omega)
  have z6 := txtB_small (s := y4) (by omega)
  generalize numB xk = B0 at *
  generalize numB xpu = B1 at *
  generalize txtB y0 = B2 at *
  generalize txtB y1 = B3 at *
  generalize txtB y2 = B4 at *
  generalize txtB y3 = B5 at *
  generalize txtB y4 = B6 at *
  have g1 : (9223372036854775807 < (B0).size + B1.size) = False := eq_false (by (try simp only [ByteArray.size_append]); omega)
  have g1' : (9223372036854775807 < B0.size + B1.size) = False := eq_false (by omega)
  have g2 : (9223372036854775807 < (B0 ++ B1).size + B2.size) = False := eq_false (by (try simp only [ByteArray.size_append]); omega)
  have g2' : (9223372036854775807 < B0.size + B1.size + B2.size) = False := eq_false (by omega)
  have g3 : (9223372036854775807 < (B0 ++ B1 ++ B2).size + B3.size) = False := eq_false (by (try simp only [ByteArray.size_append]); omega)
  have g3' : (9223372036854775807 < B0.size + B1.size + B2.size + B3.size) = False := eq_false (by omega)
  have g4 : (9223372036854775807 < (B0 ++ B1 ++ B2 ++ B3).size + B4.size) = False := eq_false (by (try simp only [ByteArray.size_append]); omega)
  have g4' : (9223372036854775807 < B0.size + B1.size + B2.size + B3.size + B4.size) = False := eq_false (by omega)
  have g5 : (9223372036854775807 < (B0 ++ B1 ++ B2 ++ B3 ++ B4).size + B5.size) = False := eq_false (by (try simp only [ByteArray.size_append]); omega)
  have g5' : (9223372036854775807 < B0.size + B1.size + B2.size + B3.size + B4.size + B5.size) = False := eq_false (by omega)
  have g6 : (9223372036854775807 < (B0 ++ B1 ++ B2 ++ B3 ++ B4 ++ B5).size + B6.size) = False := eq_false (by (try simp only [ByteArray.size_append]); omega)
  have g6' : (9223372036854775807 < B0.size + B1.size + B2.size + B3.size + B4.size + B5.size + B6.size) = False := eq_false (by omega)
  have w0 : IntKind.u64.wrap (xk : Int) = (xk : Int) := by rw [IntKind.wrap_u64]; omega
  have w1 : IntKind.u64.wrap (xpu : Int) = (xpu : Int) := by rw [IntKind.wrap_u64]; omega
  have HCK := Lib.hid hck
  have HN0 := Lib.hid n0
  have HN1 := Lib.hid n1
  have HN2 := Lib.hid n2
  have HN3 := Lib.hid n3
  have HN4 := Lib.hid n4
  have HN5 := Lib.hid n5
  have HN6 := Lib.hid n6
  clear hck n0 z0 n1 z1 n2 z2 n3 z3 n4 z4 n5 z5 n6 z6 hi0 hi0' hi1 hi2 hi3 hi4 hk0 hk1 hp0 hp1
  go_enter Tryd.func23, Tryd.ntmps23
  go_wp2_with fail
  have hr0 := heap_alloc_new w (.cells #[.int .i64 xk, .int .i64 xpu, .string y0, .string y1, .string y2, .string y3, .string y4] 23)
  have hF0 : Fr [] w (w.alloc (.cells #[.int .i64 xk, .int .i64 xpu, .string y0, .string y1, .string y2, .string y3, .string y4] 23)) := (Fr.refl _ _).alloc _
  generalize w.alloc (.cells #[.int .i64 xk, .int .i64 xpu, .string y0, .string y1, .string y2, .string y3, .string y4] 23) = W0 at *
  generalize w.heap.size = R at *
  (with_reducible refine (HCK.out _).mono ?_)
  rintro e w1 ⟨rfl, hf1⟩
  have HR1 := Lib.hid (blk_keep hr0 hf1 (by simp))
  have HF1 := Lib.hid (hF0.then hf1)
  clear hr0 hF0 hf1 HCK
  go_wp2_with fail
  refine wp_region_mild 30 (by kernel_rfl) (by kernel_rfl) ?_
  simp only [List.take_succ_cons, List.take_zero, List.drop_succ_cons, List.drop_zero, List.take_nil, List.drop_nil]
  repeat (first
    | (apply mild_det0; (· rfl); (· intro W hW K hK; go_simp; with_reducible exact mild_call (HN0.out W) hK); simp only [Act.put, List.setIfInBounds_toArray, List.set_cons_succ, List.set_cons_zero, Nat.reduceAdd])
    | (apply mild_det0; (· rfl); (· intro W hW K hK; go_simp; with_reducible exact mild_call (HN1.out W) hK); simp only [Act.put, List.setIfInBounds_toArray, List.set_cons_succ, List.set_cons_zero, Nat.reduceAdd])
    | (apply mild_det0; (· rfl); (· intro W hW K hK; go_simp; with_reducible exact mild_call (HN2.out W) hK); simp only [Act.put, List.setIfInBounds_toArray, List.set_cons_succ, List.set_cons_zero, Nat.reduceAdd])
    | (apply mild_det0; (· rfl); (· intro W hW K hK; go_simp; with_reducible exact mild_call (HN3.out W) hK); simp only [Act.put, List.setIfInBounds_toArray, List.set_cons_succ, List.set_cons_zero, Nat.reduceAdd])
    | (apply mild_det0; (· rfl); (· intro W hW K hK; go_simp; with_reducible exact mild_call (HN4.out W) hK); simp only [Act.put, List.setIfInBounds_toArray, List.set_cons_succ, List.set_cons_zero, Nat.reduceAdd])
    | (apply mild_det0; (· rfl); (· intro W hW K hK; go_simp; with_reducible exact mild_call (HN5.out W) hK); simp only [Act.put, List.setIfInBounds_toArray, List.set_cons_succ, List.set_cons_zero, Nat.reduceAdd])
    | (apply mild_det0; (· rfl); (· intro W hW K hK; go_simp; with_reducible exact mild_call (HN6.out W) hK); simp only [Act.put, List.setIfInBounds_toArray, List.set_cons_succ, List.set_cons_zero, Nat.reduceAdd])
    | ((apply mild_det0; (· rfl); (· intro W hW K hK; have hW' : Fr [] w1 W := ⟨hW.os, hW.tape, hW.output, hW.size, hW.block⟩; obtain ⟨d0, d1, d2, d3, d4, d5, d6⟩ := rq_cells (blk_keep HR1.out hW' (by simp)); go_simp; exact hK _ (Fr.refl _ _))); simp only [Act.put, List.setIfInBounds_toArray, List.set_cons_succ, List.set_cons_zero, Nat.reduceAdd])
    | (apply mild_det0; (· rfl); (· intro W hW K hK; go_simp; exact hK _ (Fr.refl _ _)); simp only [Act.put, List.setIfInBounds_toArray, List.set_cons_succ, List.set_cons_zero, Nat.reduceAdd])
    | (apply mild_slice; (· rfl); (· intro W hW K hK; go_simp; exact hK _ _ ((Fr.refl _ _).alloc _) ⟨_, rfl, heap_alloc_new _ _⟩); simp only [Act.put, List.setIfInBounds_toArray, List.set_cons_succ, List.set_cons_zero, Nat.reduceAdd]))
  refine mild_nil ?_
  intro W2 hW2
  have HF2 := Lib.hid (HF1.out.then (c := W2) ⟨hW2.os, hW2.tape, hW2.output, hW2.size, hW2.block⟩)
  clear hW2
  simp only [subAll]
  (try simp only [Act.put, List.setIfInBounds_toArray, List.set_cons_succ, List.set_cons_zero])
  go_wp2_with fail
  go_ret
  exact ⟨rfl, HF2.out⟩
end Go.Proofs.YtbeoegppldjpoaaDoor
