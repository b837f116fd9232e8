/- The law WireReads: for any bytes, request and numbers the Go function returns true (its walk). -/
import Derived.Test.YtbeoegppldjpoaaWireFits
import Derived.Test.YtbeoegppldjpoaaWireR2
import Derived.Test.YtbeoegppldjpoaaWireR3
import Derived.Deep.RegionHeld3
import Derived.BigQuiet
import Derived.Laws.StructEq
namespace Go.Proofs.Ytbeoegppldjpoaa
open Go.RowKit
set_option linter.unusedVariables false
set_option linter.unusedSimpArgs false

theorem i64_and3' (n : Int) : bits .and .i64 n 3 = n % 4 := by
  have h127 : (BitVec.ofInt 64 3).toNat = 2 ^ 2 - 1 := by decide
  have key : (BitVec.ofInt 64 n &&& BitVec.ofInt 64 3).toNat = (n % ((2 ^ 64 : Nat) : Int)).toNat % 2 ^ 2 := by
    rw [BitVec.toNat_and, BitVec.toNat_ofInt, h127, Nat.and_two_pow_sub_one_eq_mod]
  show IntKind.i64.wrap ((BitVec.ofInt 64 n &&& BitVec.ofInt 64 3).toNat : Nat) = n % 4
  rw [key, IntKind.wrap_i64]
  omega
set_option maxHeartbeats 4000000 in
set_option maxRecDepth 100000 in
theorem WireReads_core (w : World) (s0 : ByteArray) (hs0 : s0.size ≤ 140737488351232) (k0 pu0 : Int) (so ma ot se pa : ByteArray) (hs : (Rq.mk k0 pu0 so ma ot se pa).short 9223372036854775807) (q0 q1 q2 : Int) (hq0 : Bd .i64 q0) (hq1 : Bd .i64 q1) (hq2 : Bd .i64 q2) :
    Calls Try.prog 4 #[.string s0, .agg #[.int .i64 k0, .int .i64 pu0, .string so, .string ma, .string ot, .string se, .string pa], .agg #[.int .i64 q0, .int .i64 q1, .int .i64 q2]] w fun e w' => e = .returned (.bool true) ∧ Fr [] w w' := by
  have h120 := shortB_size s0 120
  have hsh := fun W => short19_calls s0 120 120 rfl W (by omega) (by decide)
  generalize shortB s0 120 = s at *
  obtain ⟨z, hz, hz0, hz3⟩ : ∃ z, bits BinOp.and IntKind.i64 q0 3 = z ∧ 0 ≤ z ∧ z ≤ 3 := ⟨_, rfl, by rw [i64_and3']; omega, by rw [i64_and3']; omega⟩
  have ⟨hq10, hq11⟩ := hq1.i64
  have ⟨hq20, hq21⟩ := hq2.i64
  obtain ⟨xk, xpu, y0, y1, y2, y3, y4, l0, l1, l2, l3, l4, lk, lpu, hok, -, hless, hmade⟩ := xmade_calls k0 pu0 so ma ot se pa hs
  have hby := fun W => R19Bytes W xk xpu y0 y1 y2 y3 y4 hok
  have hT := rqB_size hok
  have hi := Rq.ok_iff hok
  simp only at hi hT
  generalize rqB ⟨xk, xpu, y0, y1, y2, y3, y4⟩ = T at *
  have hT9 : T.size ≤ 9000 := by omega
  clear hT
  have hT : T.size ≤ 9000 := hT9
  clear hT9
  have HLE := Lib.hid hless
  have HMA := Lib.hid hmade
  have HBY := Lib.hid hby
  have HSH := Lib.hid hsh
  clear hless hmade hby hsh hok hs hs0 hi hq0 hq1 hq2
  go_enter Try.func4, Try.ntmps4
  go_wp2_with fail
  have hr0 := alloc_keep (o := .cells #[.int .i64 q0, .int .i64 q1, .int .i64 q2] 33) (heap_alloc_new w (.cells #[.int .i64 k0, .int .i64 pu0, .string so, .string ma, .string ot, .string se, .string pa] 23))
  have hq := heap_alloc_new (w.alloc (.cells #[.int .i64 k0, .int .i64 pu0, .string so, .string ma, .string ot, .string se, .string pa] 23)) (.cells #[.int .i64 q0, .int .i64 q1, .int .i64 q2] 33)
  have hF0 : Fr [] w ((w.alloc (.cells #[.int .i64 k0, .int .i64 pu0, .string so, .string ma, .string ot, .string se, .string pa] 23)).alloc (.cells #[.int .i64 q0, .int .i64 q1, .int .i64 q2] 33)) := ((Fr.refl _ _).alloc _).alloc _
  have hsz : (w.alloc (.cells #[.int .i64 k0, .int .i64 pu0, .string so, .string ma, .string ot, .string se, .string pa] 23)).heap.size = w.heap.size + 1 := by simp
  rw [hsz] at hq
  generalize (w.alloc (.cells #[.int .i64 k0, .int .i64 pu0, .string so, .string ma, .string ot, .string se, .string pa] 23)).alloc (.cells #[.int .i64 q0, .int .i64 q1, .int .i64 q2] 33) = W0 at *
  clear hsz
  generalize w.heap.size + 1 = B at *
  generalize w.heap.size = R0 at *
  (with_reducible refine (awake19_calls _).mono ?_)
  rintro e w1 ⟨rfl, hf1⟩
  have hr1 := blk_keep hr0 hf1 (by simp)
  have hq := blk_keep hq hf1 (by simp)
  have hF1 := hF0.then hf1
  clear hr0 hF0 hf1
  go_wp2_with fail
  (with_reducible refine (HSH.out _).mono ?_)
  rintro e w2 ⟨rfl, rfl⟩
  clear HSH
  obtain ⟨c0, c1, c2, c3, c4, c5, c6⟩ := rq_cells hr1
  go_wp2_with fail
  clear c0 c1 c2 c3 c4 c5 c6
  (with_reducible refine (HLE.out _).mono ?_)
  rintro e w2 ⟨rfl, hf2⟩
  have hq := blk_keep hq hf2 (by simp)
  have hF2 := hF1.then hf2
  clear hF1 hf2 hr1 HLE
  go_wp2_with fail
  (with_reducible refine (HMA.out _).mono ?_)
  rintro e w3 ⟨rfl, hf3⟩
  have hq := blk_keep hq hf3 (by simp)
  have hF3 := hF2.then hf3
  clear hF2 hf3 HMA
  go_wp2_with fail
  (with_reducible refine (HBY.out _).mono ?_)
  rintro e w4 ⟨rfl, hf4⟩
  have hq := blk_keep hq hf4 (by simp)
  have hF4 := hF3.then hf4
  clear hF3 hf4 HBY
  have d0 : w4.cell? ⟨B, 0, none⟩ = some (.int .i64 q0) := by rw [Lib.cell_of_heap hq]; rfl
  have d1 : w4.cell? ⟨B, 1, none⟩ = some (.int .i64 q1) := by rw [Lib.cell_of_heap hq]; rfl
  have d2 : w4.cell? ⟨B, 2, none⟩ = some (.int .i64 q2) := by rw [Lib.cell_of_heap hq]; rfl
  clear hq
  by_cases hz00 : z = 0
  · have e1 : (z == 0) = true := beq_iff_eq.2 hz00
    go_wp2_with fail
    clear d0 d1 d2 e1
    have hr1 := fun W => WRead_calls W s (by omega)
    have hr2 := fun W => R19Read W s (by omega)
    simp only [wireR2_eq] at hr2
    have hr3 := fun W => WReadReply_calls W s (by omega)
    have hr4 := fun W => R19ReadReply W s (by omega)
    generalize wireR s = AA at *
    obtain ⟨⟨a0, a1, a2, a3, a4, a5, a6⟩, ac⟩ := AA
    simp only [Rq.val] at hr1 hr2
    generalize replyR s = BB at *
    obtain ⟨⟨b0, b1⟩, bc⟩ := BB
    simp only at hr3 hr4
    have H2 := Lib.hid hr2
    have H3 := Lib.hid hr3
    have H4 := Lib.hid hr4
    clear hr2 hr3 hr4
    (with_reducible refine (hr1 _).mono ?_)
    rintro e w5 ⟨rfl, hf5⟩
    have hF5 := hF4.then hf5
    clear hr1 hF4 hf5
    go_wp2_with fail
    have hA := heap_alloc_new w5 (.cells #[.int .i64 a0, .int .i64 a1, .string a2, .string a3, .string a4, .string a5, .string a6] 23)
    have hF5 := hF5.alloc (.cells #[.int .i64 a0, .int .i64 a1, .string a2, .string a3, .string a4, .string a5, .string a6] 23)
    generalize w5.alloc (.cells #[.int .i64 a0, .int .i64 a1, .string a2, .string a3, .string a4, .string a5, .string a6] 23) = W5 at *
    generalize w5.heap.size = E1 at *
    (with_reducible refine (H2.out _).mono ?_)
    rintro e w6 ⟨rfl, hf6⟩
    have hF6 := hF5.then hf6
    have hA := blk_keep hA hf6 (by simp)
    clear hF5 hf6 H2
    go_wp2_with fail
    have hB := heap_alloc_new w6 (.cells #[.int .i64 a0, .int .i64 a1, .string a2, .string a3, .string a4, .string a5, .string a6] 23)
    have hA := alloc_keep (o := .cells #[.int .i64 a0, .int .i64 a1, .string a2, .string a3, .string a4, .string a5, .string a6] 23) hA
    have hF6 := hF6.alloc (.cells #[.int .i64 a0, .int .i64 a1, .string a2, .string a3, .string a4, .string a5, .string a6] 23)
    generalize w6.alloc (.cells #[.int .i64 a0, .int .i64 a1, .string a2, .string a3, .string a4, .string a5, .string a6] 23) = W6 at *
    generalize w6.heap.size = E2 at *
    (with_reducible refine (H3.out _).mono ?_)
    rintro e w7 ⟨rfl, hf7⟩
    have hF7 := hF6.then hf7
    have hA := blk_keep hA hf7 (by simp)
    have hB := blk_keep hB hf7 (by simp)
    clear hF6 hf7 H3
    go_wp2_with fail
    have hC := heap_alloc_new w7 (.cells #[.int .i64 b0, .string b1] 26)
    have hA := alloc_keep (o := .cells #[.int .i64 b0, .string b1] 26) hA
    have hB := alloc_keep (o := .cells #[.int .i64 b0, .string b1] 26) hB
    have hF7 := hF7.alloc (.cells #[.int .i64 b0, .string b1] 26)
    generalize w7.alloc (.cells #[.int .i64 b0, .string b1] 26) = W7 at *
    generalize w7.heap.size = E3 at *
    (with_reducible refine (H4.out _).mono ?_)
    rintro e w8 ⟨rfl, hf8⟩
    have HF8 := Lib.hid (hF7.then hf8)
    have hA := blk_keep hA hf8 (by simp)
    have hB := blk_keep hB hf8 (by simp)
    have hC := blk_keep hC hf8 (by simp)
    clear hF7 hf8 H4
    have p0 := fun o => (rq_cells (alloc_keep (o := o) hA)).1
    have p1 := fun o => (rq_cells (alloc_keep (o := o) hA)).2.1
    have p2 := fun o => (rq_cells (alloc_keep (o := o) hA)).2.2.1
    have p3 := fun o => (rq_cells (alloc_keep (o := o) hA)).2.2.2.1
    have p4 := fun o => (rq_cells (alloc_keep (o := o) hA)).2.2.2.2.1
    have p5 := fun o => (rq_cells (alloc_keep (o := o) hA)).2.2.2.2.2.1
    have p6 := fun o => (rq_cells (alloc_keep (o := o) hA)).2.2.2.2.2.2
    have r0 := fun o => (rq_cells (alloc_keep (o := o) hB)).1
    have r1 := fun o => (rq_cells (alloc_keep (o := o) hB)).2.1
    have r2 := fun o => (rq_cells (alloc_keep (o := o) hB)).2.2.1
    have r3 := fun o => (rq_cells (alloc_keep (o := o) hB)).2.2.2.1
    have r4 := fun o => (rq_cells (alloc_keep (o := o) hB)).2.2.2.2.1
    have r5 := fun o => (rq_cells (alloc_keep (o := o) hB)).2.2.2.2.2.1
    have r6 := fun o => (rq_cells (alloc_keep (o := o) hB)).2.2.2.2.2.2
    have u0 := fun o => (rp_cells (alloc_keep (o := o) hC)).1
    have u1 := fun o => (rp_cells (alloc_keep (o := o) hC)).2
    clear hA hB hC
    go_wp2_with fail
    go_ret
    exact ⟨rfl, HF8.out.alloc _⟩
  · have e1 : (z == 0) = false := beq_eq_false_iff_ne.2 hz00
    by_cases hT0 : T.size = 0
    · have e2 : decide ((0 : Int) < (T.size : Int)) = false := decide_eq_false (by omega)
      go_wp2_with fail
      clear d0 d1 d2 e1 e2
      have hr1 := fun W => WRead_calls W s (by omega)
      have hr2 := fun W => R19Read W s (by omega)
      simp only [wireR2_eq] at hr2
      have hr3 := fun W => WReadReply_calls W s (by omega)
      have hr4 := fun W => R19ReadReply W s (by omega)
      generalize wireR s = AA at *
      obtain ⟨⟨a0, a1, a2, a3, a4, a5, a6⟩, ac⟩ := AA
      simp only [Rq.val] at hr1 hr2
      generalize replyR s = BB at *
      obtain ⟨⟨b0, b1⟩, bc⟩ := BB
      simp only at hr3 hr4
      have H2 := Lib.hid hr2
      have H3 := Lib.hid hr3
      have H4 := Lib.hid hr4
      clear hr2 hr3 hr4
      (with_reducible refine (hr1 _).mono ?_)
      rintro e w5 ⟨rfl, hf5⟩
      have hF5 := hF4.then hf5
      clear hr1 hF4 hf5
      go_wp2_with fail
      have hA := heap_alloc_new w5 (.cells #[.int .i64 a0, .int .i64 a1, .string a2, .string a3, .string a4, .string a5, .string a6] 23)
      have hF5 := hF5.alloc (.cells #[.int .i64 a0, .int .i64 a1, .string a2, .string a3, .string a4, .string a5, .string a6] 23)
      generalize w5.alloc (.cells #[.int .i64 a0, .int .i64 a1, .string a2, .string a3, .string a4, .string a5, .string a6] 23) = W5 at *
      generalize w5.heap.size = E1 at *
      (with_reducible refine (H2.out _).mono ?_)
      rintro e w6 ⟨rfl, hf6⟩
      have hF6 := hF5.then hf6
      have hA := blk_keep hA hf6 (by simp)
      clear hF5 hf6 H2
      go_wp2_with fail
      have hB := heap_alloc_new w6 (.cells #[.int .i64 a0, .int .i64 a1, .string a2, .string a3, .string a4, .string a5, .string a6] 23)
      have hA := alloc_keep (o := .cells #[.int .i64 a0, .int .i64 a1, .string a2, .string a3, .string a4, .string a5, .string a6] 23) hA
      have hF6 := hF6.alloc (.cells #[.int .i64 a0, .int .i64 a1, .string a2, .string a3, .string a4, .string a5, .string a6] 23)
      generalize w6.alloc (.cells #[.int .i64 a0, .int .i64 a1, .string a2, .string a3, .string a4, .string a5, .string a6] 23) = W6 at *
      generalize w6.heap.size = E2 at *
      (with_reducible refine (H3.out _).mono ?_)
      rintro e w7 ⟨rfl, hf7⟩
      have hF7 := hF6.then hf7
      have hA := blk_keep hA hf7 (by simp)
      have hB := blk_keep hB hf7 (by simp)
      clear hF6 hf7 H3
      go_wp2_with fail
      have hC := heap_alloc_new w7 (.cells #[.int .i64 b0, .string b1] 26)
      have hA := alloc_keep (o := .cells #[.int .i64 b0, .string b1] 26) hA
      have hB := alloc_keep (o := .cells #[.int .i64 b0, .string b1] 26) hB
      have hF7 := hF7.alloc (.cells #[.int .i64 b0, .string b1] 26)
      generalize w7.alloc (.cells #[.int .i64 b0, .string b1] 26) = W7 at *
      generalize w7.heap.size = E3 at *
      (with_reducible refine (H4.out _).mono ?_)
      rintro e w8 ⟨rfl, hf8⟩
      have HF8 := Lib.hid (hF7.then hf8)
      have hA := blk_keep hA hf8 (by simp)
      have hB := blk_keep hB hf8 (by simp)
      have hC := blk_keep hC hf8 (by simp)
      clear hF7 hf8 H4
      have p0 := fun o => (rq_cells (alloc_keep (o := o) hA)).1
      have p1 := fun o => (rq_cells (alloc_keep (o := o) hA)).2.1
      have p2 := fun o => (rq_cells (alloc_keep (o := o) hA)).2.2.1
      have p3 := fun o => (rq_cells (alloc_keep (o := o) hA)).2.2.2.1
      have p4 := fun o => (rq_cells (alloc_keep (o := o) hA)).2.2.2.2.1
      have p5 := fun o => (rq_cells (alloc_keep (o := o) hA)).2.2.2.2.2.1
      have p6 := fun o => (rq_cells (alloc_keep (o := o) hA)).2.2.2.2.2.2
      have r0 := fun o => (rq_cells (alloc_keep (o := o) hB)).1
      have r1 := fun o => (rq_cells (alloc_keep (o := o) hB)).2.1
      have r2 := fun o => (rq_cells (alloc_keep (o := o) hB)).2.2.1
      have r3 := fun o => (rq_cells (alloc_keep (o := o) hB)).2.2.2.1
      have r4 := fun o => (rq_cells (alloc_keep (o := o) hB)).2.2.2.2.1
      have r5 := fun o => (rq_cells (alloc_keep (o := o) hB)).2.2.2.2.2.1
      have r6 := fun o => (rq_cells (alloc_keep (o := o) hB)).2.2.2.2.2.2
      have u0 := fun o => (rp_cells (alloc_keep (o := o) hC)).1
      have u1 := fun o => (rp_cells (alloc_keep (o := o) hC)).2
      clear hA hB hC
      go_wp2_with fail
      go_ret
      exact ⟨rfl, HF8.out.alloc _⟩
    · have e2 : decide ((0 : Int) < (T.size : Int)) = true := decide_eq_true (by omega)
      have hTp : (0 : Int) < (T.size : Int) := by omega
      obtain ⟨R, hR, hR0, hR1⟩ : ∃ R, q1.tmod (T.size : Int) = R ∧ -(T.size : Int) < R ∧ R < (T.size : Int) := ⟨_, rfl, Int.lt_tmod_of_pos _ hTp, Int.tmod_lt_of_pos _ hTp⟩
      obtain ⟨k, hk, hkT⟩ : ∃ k : Nat, (R + (T.size : Int)).tmod (T.size : Int) = (k : Int) ∧ k < T.size := by
        have h1 := Int.tmod_nonneg (T.size : Int) (by omega : 0 ≤ R + (T.size : Int))
        have h2 := Int.tmod_lt_of_pos (R + (T.size : Int)) hTp
        exact ⟨((R + (T.size : Int)).tmod (T.size : Int)).toNat, by omega, by omega⟩
      have hwk : IntKind.i64.wrap ((k : Int) + 1) = (k : Int) + 1 := by rw [IntKind.wrap_i64]; omega
      have hk0 : (0 : Int) ≤ (k : Int) := by omega
      have hk1 : (k : Int) ≤ (T.size : Int) := by omega
      have hk2 : (k : Int) < (T.size : Int) := by omega
      have hk3 : (k : Int) + 1 ≤ (T.size : Int) := by omega
      have hk4 : (0 : Int) ≤ (k : Int) + 1 := by omega
      have hx1 : (T.extract 0 k).size ≤ 9200 := by rw [ByteArray.size_extract]; omega
      have hx2 : (T.extract (k + 1) T.size).size ≤ 9200 := by rw [ByteArray.size_extract]; omega
      rcases (by omega : z = 1 ∨ z = 2 ∨ z = 3) with hz1 | hz1 | hz1
      · have f1 : (z == 1) = true := beq_iff_eq.2 hz1
        obtain ⟨c', hc', hc0, hc1⟩ : ∃ c', bits BinOp.xor IntKind.u8 (((T[k]'hkT).toNat : Nat) : Int) (IntKind.u8.wrap q2) = c' ∧ 0 ≤ c' ∧ c' < 256 := by
          have h1 : ((T[k]'hkT).toNat : Int) < 256 := by have := (T[k]'hkT).toNat_lt; omega
          have h2 : 0 ≤ IntKind.u8.wrap q2 ∧ IntKind.u8.wrap q2 < 256 := by rw [IntKind.wrap_u8]; omega
          have h3 := u8_xor (((T[k]'hkT).toNat : Nat) : Int) (IntKind.u8.wrap q2) (by omega) h1 h2.1 h2.2
          have h4 := Nat.xor_lt_two_pow (x := (((T[k]'hkT).toNat : Nat) : Int).toNat) (y := (IntKind.u8.wrap q2).toNat) (n := 8) (by omega) (by omega)
          exact ⟨_, h3, by omega, by omega⟩
        have hcv : (convert 34 9 (.slice (some ⟨w4.heap.size, 0, none⟩) 1 1)).run Try.prog (w4.alloc (.cells #[.int .u8 c'] 5)).drew = .ok (.string (bOf c')) (w4.alloc (.cells #[.int .u8 c'] 5)).drew := run_toString1 hc0 hc1 (by simp)
        have hc2 : bits BinOp.xor IntKind.u8 (((T[k]'hkT).toNat : Nat) : Int) (q2 % 256) = c' := by rw [← IntKind.wrap_u8]; exact hc'
        have hb1 := bOf_size c'
        have g4 : (9223372036854775807 < min k T.size + 1) = False := eq_false (by omega)
        have g5 : (9223372036854775807 < min k T.size + 1 + (T.size - (k + 1))) = False := eq_false (by omega)
        have g6 : (9223372036854775807 < min k T.size + 1 + (min T.size T.size - (k + 1))) = False := eq_false (by omega)
        have g1 : (9223372036854775807 < (T.extract 0 k).size + (bOf c').size) = False := eq_false (by omega)
        have g2 : (9223372036854775807 < (T.extract 0 k ++ bOf c').size + (T.extract (k + 1) T.size).size) = False := eq_false (by rw [ByteArray.size_append]; omega)
        have g3 : (9223372036854775807 < (T.extract 0 k).size + (bOf c').size + (T.extract (k + 1) T.size).size) = False := eq_false (by omega)
        go_wp2_with fail
        go_region
        have hF4 := (hF4.alloc (.cells #[.int .u8 c'] 5)).drew
        clear d0 d1 d2 e1 e2 f1 hcv g1 g2 g3 g4 g5 g6 hc' hc2
        generalize (w4.alloc (.cells #[.int .u8 c'] 5)).drew = W5 at hF4 ⊢
        have hX : (T.extract 0 k ++ bOf c' ++ T.extract (k + 1) T.size).size ≤ 20000 := by rw [ByteArray.size_append, ByteArray.size_append, bOf_size]; omega
        generalize T.extract 0 k ++ bOf c' ++ T.extract (k + 1) T.size = X at *
        go_wp2_with fail
        have hr1 := fun W => WRead_calls W X (by omega)
        have hr2 := fun W => R19Read W X (by omega)
        simp only [wireR2_eq] at hr2
        have hr3 := fun W => WReadReply_calls W X (by omega)
        have hr4 := fun W => R19ReadReply W X (by omega)
        generalize wireR X = AA at *
        obtain ⟨⟨a0, a1, a2, a3, a4, a5, a6⟩, ac⟩ := AA
        simp only [Rq.val] at hr1 hr2
        generalize replyR X = BB at *
        obtain ⟨⟨b0, b1⟩, bc⟩ := BB
        simp only at hr3 hr4
        have H2 := Lib.hid hr2
        have H3 := Lib.hid hr3
        have H4 := Lib.hid hr4
        clear hr2 hr3 hr4
        (with_reducible refine (hr1 _).mono ?_)
        rintro e w5 ⟨rfl, hf5⟩
        have hF5 := hF4.then hf5
        clear hr1 hF4 hf5
        go_wp2_with fail
        have hA := heap_alloc_new w5 (.cells #[.int .i64 a0, .int .i64 a1, .string a2, .string a3, .string a4, .string a5, .string a6] 23)
        have hF5 := hF5.alloc (.cells #[.int .i64 a0, .int .i64 a1, .string a2, .string a3, .string a4, .string a5, .string a6] 23)
        generalize w5.alloc (.cells #[.int .i64 a0, .int .i64 a1, .string a2, .string a3, .string a4, .string a5, .string a6] 23) = W5 at *
        generalize w5.heap.size = E1 at *
        (with_reducible refine (H2.out _).mono ?_)
        rintro e w6 ⟨rfl, hf6⟩
        have hF6 := hF5.then hf6
        have hA := blk_keep hA hf6 (by simp)
        clear hF5 hf6 H2
        go_wp2_with fail
        have hB := heap_alloc_new w6 (.cells #[.int .i64 a0, .int .i64 a1, .string a2, .string a3, .string a4, .string a5, .string a6] 23)
        have hA := alloc_keep (o := .cells #[.int .i64 a0, .int .i64 a1, .string a2, .string a3, .string a4, .string a5, .string a6] 23) hA
        have hF6 := hF6.alloc (.cells #[.int .i64 a0, .int .i64 a1, .string a2, .string a3, .string a4, .string a5, .string a6] 23)
        generalize w6.alloc (.cells #[.int .i64 a0, .int .i64 a1, .string a2, .string a3, .string a4, .string a5, .string a6] 23) = W6 at *
        generalize w6.heap.size = E2 at *
        (with_reducible refine (H3.out _).mono ?_)
        rintro e w7 ⟨rfl, hf7⟩
        have hF7 := hF6.then hf7
        have hA := blk_keep hA hf7 (by simp)
        have hB := blk_keep hB hf7 (by simp)
        clear hF6 hf7 H3
        go_wp2_with fail
        have hC := heap_alloc_new w7 (.cells #[.int .i64 b0, .string b1] 26)
        have hA := alloc_keep (o := .cells #[.int .i64 b0, .string b1] 26) hA
        have hB := alloc_keep (o := .cells #[.int .i64 b0, .string b1] 26) hB
        have hF7 := hF7.alloc (.cells #[.int .i64 b0, .string b1] 26)
        generalize w7.alloc (.cells #[.int .i64 b0, .string b1] 26) = W7 at *
        generalize w7.heap.size = E3 at *
        (with_reducible refine (H4.out _).mono ?_)
        rintro e w8 ⟨rfl, hf8⟩
        have HF8 := Lib.hid (hF7.then hf8)
        have hA := blk_keep hA hf8 (by simp)
        have hB := blk_keep hB hf8 (by simp)
        have hC := blk_keep hC hf8 (by simp)
        clear hF7 hf8 H4
        have p0 := fun o => (rq_cells (alloc_keep (o := o) hA)).1
        have p1 := fun o => (rq_cells (alloc_keep (o := o) hA)).2.1
        have p2 := fun o => (rq_cells (alloc_keep (o := o) hA)).2.2.1
        have p3 := fun o => (rq_cells (alloc_keep (o := o) hA)).2.2.2.1
        have p4 := fun o => (rq_cells (alloc_keep (o := o) hA)).2.2.2.2.1
        have p5 := fun o => (rq_cells (alloc_keep (o := o) hA)).2.2.2.2.2.1
        have p6 := fun o => (rq_cells (alloc_keep (o := o) hA)).2.2.2.2.2.2
        have r0 := fun o => (rq_cells (alloc_keep (o := o) hB)).1
        have r1 := fun o => (rq_cells (alloc_keep (o := o) hB)).2.1
        have r2 := fun o => (rq_cells (alloc_keep (o := o) hB)).2.2.1
        have r3 := fun o => (rq_cells (alloc_keep (o := o) hB)).2.2.2.1
        have r4 := fun o => (rq_cells (alloc_keep (o := o) hB)).2.2.2.2.1
        have r5 := fun o => (rq_cells (alloc_keep (o := o) hB)).2.2.2.2.2.1
        have r6 := fun o => (rq_cells (alloc_keep (o := o) hB)).2.2.2.2.2.2
        have u0 := fun o => (rp_cells (alloc_keep (o := o) hC)).1
        have u1 := fun o => (rp_cells (alloc_keep (o := o) hC)).2
        clear hA hB hC
        go_wp2_with fail
        go_ret
        exact ⟨rfl, HF8.out.alloc _⟩
      · have f1 : (z == 1) = false := beq_eq_false_iff_ne.2 (by omega)
        have f2 : (z == 2) = true := beq_iff_eq.2 hz1
        have g1 : (9223372036854775807 < (T.extract 0 k).size + (T.extract (k + 1) T.size).size) = False := eq_false (by omega)
        go_wp2_with fail
        go_quiet (fail)
        have hF4 := hF4.drewN nq
        clear d0 d1 d2 e1 e2 f1 f2
        have hX : (T.extract 0 k ++ T.extract (k + 1) T.size).size ≤ 20000 := by rw [ByteArray.size_append]; omega
        generalize T.extract 0 k ++ T.extract (k + 1) T.size = X at *
        go_wp2_with fail
        have hr1 := fun W => WRead_calls W X (by omega)
        have hr2 := fun W => R19Read W X (by omega)
        simp only [wireR2_eq] at hr2
        have hr3 := fun W => WReadReply_calls W X (by omega)
        have hr4 := fun W => R19ReadReply W X (by omega)
        generalize wireR X = AA at *
        obtain ⟨⟨a0, a1, a2, a3, a4, a5, a6⟩, ac⟩ := AA
        simp only [Rq.val] at hr1 hr2
        generalize replyR X = BB at *
        obtain ⟨⟨b0, b1⟩, bc⟩ := BB
        simp only at hr3 hr4
        have H2 := Lib.hid hr2
        have H3 := Lib.hid hr3
        have H4 := Lib.hid hr4
        clear hr2 hr3 hr4
        (with_reducible refine (hr1 _).mono ?_)
        rintro e w5 ⟨rfl, hf5⟩
        have hF5 := hF4.then hf5
        clear hr1 hF4 hf5
        go_wp2_with fail
        have hA := heap_alloc_new w5 (.cells #[.int .i64 a0, .int .i64 a1, .string a2, .string a3, .string a4, .string a5, .string a6] 23)
        have hF5 := hF5.alloc (.cells #[.int .i64 a0, .int .i64 a1, .string a2, .string a3, .string a4, .string a5, .string a6] 23)
        generalize w5.alloc (.cells #[.int .i64 a0, .int .i64 a1, .string a2, .string a3, .string a4, .string a5, .string a6] 23) = W5 at *
        generalize w5.heap.size = E1 at *
        (with_reducible refine (H2.out _).mono ?_)
        rintro e w6 ⟨rfl, hf6⟩
        have hF6 := hF5.then hf6
        have hA := blk_keep hA hf6 (by simp)
        clear hF5 hf6 H2
        go_wp2_with fail
        have hB := heap_alloc_new w6 (.cells #[.int .i64 a0, .int .i64 a1, .string a2, .string a3, .string a4, .string a5, .string a6] 23)
        have hA := alloc_keep (o := .cells #[.int .i64 a0, .int .i64 a1, .string a2, .string a3, .string a4, .string a5, .string a6] 23) hA
        have hF6 := hF6.alloc (.cells #[.int .i64 a0, .int .i64 a1, .string a2, .string a3, .string a4, .string a5, .string a6] 23)
        generalize w6.alloc (.cells #[.int .i64 a0, .int .i64 a1, .string a2, .string a3, .string a4, .string a5, .string a6] 23) = W6 at *
        generalize w6.heap.size = E2 at *
        (with_reducible refine (H3.out _).mono ?_)
        rintro e w7 ⟨rfl, hf7⟩
        have hF7 := hF6.then hf7
        have hA := blk_keep hA hf7 (by simp)
        have hB := blk_keep hB hf7 (by simp)
        clear hF6 hf7 H3
        go_wp2_with fail
        have hC := heap_alloc_new w7 (.cells #[.int .i64 b0, .string b1] 26)
        have hA := alloc_keep (o := .cells #[.int .i64 b0, .string b1] 26) hA
        have hB := alloc_keep (o := .cells #[.int .i64 b0, .string b1] 26) hB
        have hF7 := hF7.alloc (.cells #[.int .i64 b0, .string b1] 26)
        generalize w7.alloc (.cells #[.int .i64 b0, .string b1] 26) = W7 at *
        generalize w7.heap.size = E3 at *
        (with_reducible refine (H4.out _).mono ?_)
        rintro e w8 ⟨rfl, hf8⟩
        have HF8 := Lib.hid (hF7.then hf8)
        have hA := blk_keep hA hf8 (by simp)
        have hB := blk_keep hB hf8 (by simp)
        have hC := blk_keep hC hf8 (by simp)
        clear hF7 hf8 H4
        have p0 := fun o => (rq_cells (alloc_keep (o := o) hA)).1
        have p1 := fun o => (rq_cells (alloc_keep (o := o) hA)).2.1
        have p2 := fun o => (rq_cells (alloc_keep (o := o) hA)).2.2.1
        have p3 := fun o => (rq_cells (alloc_keep (o := o) hA)).2.2.2.1
        have p4 := fun o => (rq_cells (alloc_keep (o := o) hA)).2.2.2.2.1
        have p5 := fun o => (rq_cells (alloc_keep (o := o) hA)).2.2.2.2.2.1
        have p6 := fun o => (rq_cells (alloc_keep (o := o) hA)).2.2.2.2.2.2
        have r0 := fun o => (rq_cells (alloc_keep (o := o) hB)).1
        have r1 := fun o => (rq_cells (alloc_keep (o := o) hB)).2.1
        have r2 := fun o => (rq_cells (alloc_keep (o := o) hB)).2.2.1
        have r3 := fun o => (rq_cells (alloc_keep (o := o) hB)).2.2.2.1
        have r4 := fun o => (rq_cells (alloc_keep (o := o) hB)).2.2.2.2.1
        have r5 := fun o => (rq_cells (alloc_keep (o := o) hB)).2.2.2.2.2.1
        have r6 := fun o => (rq_cells (alloc_keep (o := o) hB)).2.2.2.2.2.2
        have u0 := fun o => (rp_cells (alloc_keep (o := o) hC)).1
        have u1 := fun o => (rp_cells (alloc_keep (o := o) hC)).2
        clear hA hB hC
        go_wp2_with fail
        go_ret
        exact ⟨rfl, HF8.out.alloc _⟩
      · have f1 : (z == 1) = false := beq_eq_false_iff_ne.2 (by omega)
        have f2 : (z == 2) = false := beq_eq_false_iff_ne.2 (by omega)
        have f3 : (z == 3) = true := beq_iff_eq.2 hz1
        go_wp2_with fail
        clear d0 d1 d2 e1 e2 f1 f2 f3
        generalize T.extract 0 k = X at *
        have hr1 := fun W => WRead_calls W X (by omega)
        have hr2 := fun W => R19Read W X (by omega)
        simp only [wireR2_eq] at hr2
        have hr3 := fun W => WReadReply_calls W X (by omega)
        have hr4 := fun W => R19ReadReply W X (by omega)
        generalize wireR X = AA at *
        obtain ⟨⟨a0, a1, a2, a3, a4, a5, a6⟩, ac⟩ := AA
        simp only [Rq.val] at hr1 hr2
        generalize replyR X = BB at *
        obtain ⟨⟨b0, b1⟩, bc⟩ := BB
        simp only at hr3 hr4
        have H2 := Lib.hid hr2
        have H3 := Lib.hid hr3
        have H4 := Lib.hid hr4
        clear hr2 hr3 hr4
        (with_reducible refine (hr1 _).mono ?_)
        rintro e w5 ⟨rfl, hf5⟩
        have hF5 := hF4.then hf5
        clear hr1 hF4 hf5
        go_wp2_with fail
        have hA := heap_alloc_new w5 (.cells #[.int .i64 a0, .int .i64 a1, .string a2, .string a3, .string a4, .string a5, .string a6] 23)
        have hF5 := hF5.alloc (.cells #[.int .i64 a0, .int .i64 a1, .string a2, .string a3, .string a4, .string a5, .string a6] 23)
        generalize w5.alloc (.cells #[.int .i64 a0, .int .i64 a1, .string a2, .string a3, .string a4, .string a5, .string a6] 23) = W5 at *
        generalize w5.heap.size = E1 at *
        (with_reducible refine (H2.out _).mono ?_)
        rintro e w6 ⟨rfl, hf6⟩
        have hF6 := hF5.then hf6
        have hA := blk_keep hA hf6 (by simp)
        clear hF5 hf6 H2
        go_wp2_with fail
        have hB := heap_alloc_new w6 (.cells #[.int .i64 a0, .int .i64 a1, .string a2, .string a3, .string a4, .string a5, .string a6] 23)
        have hA := alloc_keep (o := .cells #[.int .i64 a0, .int .i64 a1, .string a2, .string a3, .string a4, .string a5, .string a6] 23) hA
        have hF6 := hF6.alloc (.cells #[.int .i64 a0, .int .i64 a1, .string a2, .string a3, .string a4, .string a5, .string a6] 23)
        generalize w6.alloc (.cells #[.int .i64 a0, .int .i64 a1, .string a2, .string a3, .string a4, .string a5, .string a6] 23) = W6 at *
        generalize w6.heap.size = E2 at *
        (with_reducible refine (H3.out _).mono ?_)
        rintro e w7 ⟨rfl, hf7⟩
        have hF7 := hF6.then hf7
        have hA := blk_keep hA hf7 (by simp)
        have hB := blk_keep hB hf7 (by simp)
        clear hF6 hf7 H3
        go_wp2_with fail
        have hC := heap_alloc_new w7 (.cells #[.int .i64 b0, .string b1] 26)
        have hA := alloc_keep (o := .cells #[.int .i64 b0, .string b1] 26) hA
        have hB := alloc_keep (o := .cells #[.int .i64 b0, .string b1] 26) hB
        have hF7 := hF7.alloc (.cells #[.int .i64 b0, .string b1] 26)
        generalize w7.alloc (.cells #[.int .i64 b0, .string b1] 26) = W7 at *
        generalize w7.heap.size = E3 at *
        (with_reducible refine (H4.out _).mono ?_)
        rintro e w8 ⟨rfl, hf8⟩
        have HF8 := Lib.hid (hF7.then hf8)
        have hA := blk_keep hA hf8 (by simp)
        have hB := blk_keep hB hf8 (by simp)
        have hC := blk_keep hC hf8 (by simp)
        clear hF7 hf8 H4
        have p0 := fun o => (rq_cells (alloc_keep (o := o) hA)).1
        have p1 := fun o => (rq_cells (alloc_keep (o := o) hA)).2.1
        have p2 := fun o => (rq_cells (alloc_keep (o := o) hA)).2.2.1
        have p3 := fun o => (rq_cells (alloc_keep (o := o) hA)).2.2.2.1
        have p4 := fun o => (rq_cells (alloc_keep (o := o) hA)).2.2.2.2.1
        have p5 := fun o => (rq_cells (alloc_keep (o := o) hA)).2.2.2.2.2.1
        have p6 := fun o => (rq_cells (alloc_keep (o := o) hA)).2.2.2.2.2.2
        have r0 := fun o => (rq_cells (alloc_keep (o := o) hB)).1
        have r1 := fun o => (rq_cells (alloc_keep (o := o) hB)).2.1
        have r2 := fun o => (rq_cells (alloc_keep (o := o) hB)).2.2.1
        have r3 := fun o => (rq_cells (alloc_keep (o := o) hB)).2.2.2.1
        have r4 := fun o => (rq_cells (alloc_keep (o := o) hB)).2.2.2.2.1
        have r5 := fun o => (rq_cells (alloc_keep (o := o) hB)).2.2.2.2.2.1
        have r6 := fun o => (rq_cells (alloc_keep (o := o) hB)).2.2.2.2.2.2
        have u0 := fun o => (rp_cells (alloc_keep (o := o) hC)).1
        have u1 := fun o => (rp_cells (alloc_keep (o := o) hC)).2
        clear hA hB hC
        go_wp2_with fail
        go_ret
        exact ⟨rfl, HF8.out.alloc _⟩
theorem WireReads_walk (w : World) (s0 : ByteArray) (hs0 : s0.size ≤ 140737488351232) (l : List Value) (hl : FRow [.int .i64, .int .i64, .str, .str, .str, .str, .str] l) (q0 q1 q2 : Int) (hq0 : Bd .i64 q0) (hq1 : Bd .i64 q1) (hq2 : Bd .i64 q2) :
    Calls Try.prog 4 #[.string s0, .agg l.toArray, .agg #[.int .i64 q0, .int .i64 q1, .int .i64 q2]] w fun e w' => e = .returned (.bool true) ∧ Fr [] w w' := by
  obtain ⟨k, pu, t0, t1, t2, t3, t4, rfl, hs, -, -⟩ := rq_of_row hl
  exact WireReads_core w s0 hs0 k pu t0 t1 t2 t3 t4 hs q0 q1 q2 hq0 hq1 hq2
end Go.Proofs.Ytbeoegppldjpoaa
