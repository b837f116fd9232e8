/- The law EventReads: for any bytes, events and numbers the Go function returns true (its walk). -/
import Derived.Test.YtngonnnjehlfbaaRef15R
import Derived.Test.YtngonnnjehlfbaaRef15B
import Derived.Test.YtngonnnjehlfbaaFew15
import Derived.Test.YtngonnnjehlfbaaEvRight
import Derived.Test.YtngonnnjehlfbaaEvSame
import Derived.Test.YtngonnnjehlfbaaEvPure
import Derived.Deep.RegionHeld3
import Derived.BigQuiet
import Derived.Test.YtngonnnjehlfbaaRef03W
namespace Go.Proofs.Ytngonnnjehlfbaa
open Go.RowKit
set_option linter.unusedVariables false
set_option linter.unusedSimpArgs false

theorem evFew_bd {l : List Ev} {n : Nat} (h : ∀ e, e ∈ l → e.bd) : ∀ e, e ∈ evFew l n → e.bd := by
  intro e he
  obtain ⟨x, hx, rfl⟩ := List.mem_map.1 he
  obtain ⟨h1, h2, h3, h4, h5, h6, h7, h8⟩ := h x (List.mem_of_mem_take hx)
  have z1 := shortB_le x.a 102
  have z2 := shortB_le x.b 102
  have z3 := shortB_le x.c 102
  exact ⟨h1, h2, h3, h4, h5, Nat.le_trans z1 h6, Nat.le_trans z2 h7, Nat.le_trans z3 h8⟩
theorem evBatch_size (l : List Ev) : (evBatch l).1.size ≤ 9200 := by
  unfold evBatch
  split
  · next h =>
    have h1 := evsB_size l (List.all_eq_true.1 h.2.2)
    have h2 := numB_size l.length (by omega)
    simp only [ByteArray.size_append]
    omega
  · exact Nat.zero_le _

set_option maxHeartbeats 4000000 in
set_option maxRecDepth 100000 in
theorem EventReads_core (w : World) (s0 : ByteArray) (hs0 : s0.size ≤ 140737488351232) (A : Option Addr) (cap : Nat) (l : List Ev) (hr : EvR w A l) (hb : ∀ e, e ∈ l → e.bd) (hl : l.length ≤ maxLen) (q0 q1 q2 : Int) (hq0 : Bd .i64 q0) (hq1 : Bd .i64 q1) (hq2 : Bd .i64 q2) :
    Calls Try.prog 12 #[.string s0, .slice A l.length cap, .agg #[.int .i64 q0, .int .i64 q1, .int .i64 q2]] w fun e w' => e = .returned (.bool true) ∧ Fr [] w w' := by
  have h120 := shortB_size s0 120
  have hsh := fun W => short15_calls s0 120 120 rfl W (by omega) (by decide)
  generalize shortB s0 120 = s at *
  obtain ⟨z, hz, hz0, hz4⟩ : ∃ z, bits BinOp.and IntKind.i64 q0 3 = z ∧ 0 ≤ z ∧ z < 4 := ⟨q0 % 4, i64_and3 _, by omega, by omega⟩
  have HSH := Lib.hid hsh
  clear hsh hs0
  go_enter Try.func12, Try.ntmps12
  go_wp2_with fail
  have hq := heap_alloc_new w (.cells #[.int .i64 q0, .int .i64 q1, .int .i64 q2] 76)
  have hfa : Fr [] w (w.alloc (.cells #[.int .i64 q0, .int .i64 q1, .int .i64 q2] 76)) := (Fr.refl _ _).alloc _
  generalize w.alloc (.cells #[.int .i64 q0, .int .i64 q1, .int .i64 q2] 76) = W0 at hq hfa ⊢
  (with_reducible refine (awake15_calls _).mono ?_)
  rintro e w1 ⟨rfl, hf1⟩
  have hF1 := hfa.then hf1
  have hq := blk_keep hq hf1 (by simp)
  clear hfa hf1
  go_wp2_with fail
  (with_reducible refine (HSH.out _).mono ?_)
  rintro e w2 ⟨rfl, rfl⟩
  go_wp2_with fail
  have h3 : (3 : Int) = ((3 : Nat) : Int) := rfl
  (with_reducible refine (few15_calls _ A cap l 3 h3 (by decide) (hr.keep hF1 (by simp)) hb hl).mono ?_)
  rintro e w2 ⟨v, r, rfl, hsr, hf2, -⟩
  clear h3 HSH
  have hF2 := hF1.then hf2
  have hq := blk_keep hq hf2 (by simp)
  have hbm := evFew_bd (n := 3) hb
  generalize evFew l 3 = m at *
  obtain ⟨A1, c1, rfl, hl1, hl2, hrd, -⟩ := hsr.reads
  have her := EvR.of_flat hrd
  clear hsr hrd hf2 hF1 hr hb hl
  go_wp2_with fail
  (with_reducible refine (right_calls _ A1 c1 m her hbm (Nat.le_trans hl1 hl2)).mono ?_)
  rintro e w3 ⟨v, r, rfl, hsr, hf3, -⟩
  have hF3 := hF2.then hf3
  have hq := blk_keep hq hf3 (by simp)
  have hok := evRights_ok m
  have h24 := evRights_length m
  generalize evRights m = y at *
  have hshy : ∀ e, e ∈ y → e.short 140737488351232 := by
    intro e he
    obtain ⟨_, h1, h2, h3⟩ := Ev.ok_iff (hok e he)
    exact ⟨by omega, by omega, by omega⟩
  obtain ⟨A2, c2, rfl, -, -, hrd, -⟩ := hsr.reads
  have her := EvR.of_flat hrd
  clear hsr hrd hf3 hF2 hbm hok hl1 hl2
  go_wp2_with fail
  (with_reducible refine (RBatch_calls _ A2 c2 y her hshy (by simp only [maxLen]; omega)).mono ?_)
  rintro e w4 ⟨rfl, hf4⟩
  have hF4 := hF3.then hf4
  have hq := blk_keep hq hf4 (by simp)
  have hT := evBatch_size y
  generalize (evBatch y).1 = T at *
  generalize (evBatch y).2 = tc at *
  clear hf4 hF3 her hshy
  have d0 : w4.cell? ⟨w.heap.size, 0, none⟩ = some (.int .i64 q0) := by rw [Lib.cell_of_heap hq]; rfl
  have d1 : w4.cell? ⟨w.heap.size, 1, none⟩ = some (.int .i64 q1) := by rw [Lib.cell_of_heap hq]; rfl
  have d2 : w4.cell? ⟨w.heap.size, 2, none⟩ = some (.int .i64 q2) := by rw [Lib.cell_of_heap hq]; rfl
  clear hq
  generalize w.heap.size = B at d0 d1 d2 ⊢
  by_cases hz00 : z = 0
  · have e1 : (z == 0) = true := beq_iff_eq.2 hz00
    go_wp2_with fail
    clear d0 d1 d2 e1
    (with_reducible refine (ERead_calls _ s (by omega)).mono ?_)
    rintro e w5 ⟨v, r5, rfl, hsr, hf5, -⟩
    have hF5 := hF4.then hf5
    obtain ⟨A5, c5, rfl, hl1, hl2, hrd, -⟩ := hsr.reads
    have her5 := EvR.of_flat hrd
    clear hsr hrd hf5 hF4
    go_wp2_with fail
    (with_reducible refine (RRead_calls _ s (by omega)).mono ?_)
    rintro e w6 ⟨v, r6, rfl, hsr, hf6, -⟩
    have hF6 := hF5.then hf6
    have her5 := her5.keep hf6 (by simp)
    obtain ⟨A6, c6, rfl, -, -, hrd, -⟩ := hsr.reads
    have her6 := EvR.of_flat hrd
    clear hsr hrd hf6 hF5
    generalize (evRead s).2 = ec at *
    generalize (evRead s).1 = L at *
    go_wp2_with fail
    (with_reducible refine (Same15_calls _ A5 A6 c5 c6 L her5 her6 (Nat.le_trans hl1 hl2)).mono ?_)
    rintro e w7 ⟨rfl, hf7⟩
    have hF7 := hF6.then hf7
    clear her5 her6 hF6 hf7
    go_wp2_with fail
    go_ret
    exact ⟨by simp, hF7⟩
  · have e1 : (z == 0) = false := beq_eq_false_iff_ne.2 hz00
    by_cases hT0 : T.size = 0
    · have e2 : decide ((0 : Int) < (T.size : Int)) = false := decide_eq_false (by omega)
      go_wp2_with fail
      clear d0 d1 d2 e1 e2
      (with_reducible refine (ERead_calls _ s (by omega)).mono ?_)
      rintro e w5 ⟨v, r5, rfl, hsr, hf5, -⟩
      have hF5 := hF4.then hf5
      obtain ⟨A5, c5, rfl, hl1, hl2, hrd, -⟩ := hsr.reads
      have her5 := EvR.of_flat hrd
      clear hsr hrd hf5 hF4
      go_wp2_with fail
      (with_reducible refine (RRead_calls _ s (by omega)).mono ?_)
      rintro e w6 ⟨v, r6, rfl, hsr, hf6, -⟩
      have hF6 := hF5.then hf6
      have her5 := her5.keep hf6 (by simp)
      obtain ⟨A6, c6, rfl, -, -, hrd, -⟩ := hsr.reads
      have her6 := EvR.of_flat hrd
      clear hsr hrd hf6 hF5
      generalize (evRead s).2 = ec at *
      generalize (evRead s).1 = L at *
      go_wp2_with fail
      (with_reducible refine (Same15_calls _ A5 A6 c5 c6 L her5 her6 (Nat.le_trans hl1 hl2)).mono ?_)
      rintro e w7 ⟨rfl, hf7⟩
      have hF7 := hF6.then hf7
      clear her5 her6 hF6 hf7
      go_wp2_with fail
      go_ret
      exact ⟨by simp, hF7⟩
    · have e2 : decide ((0 : Int) < (T.size : Int)) = true := decide_eq_true (by omega)
      have hTp : (0 : Int) < (T.size : Int) := by omega
      obtain ⟨R, hR, hR0, hR1⟩ : ∃ R, q1.tmod (T.size : Int) = R ∧ -(T.size : Int) < R ∧ R < (T.size : Int) := ⟨_, rfl, Int.lt_tmod_of_pos _ hTp, Int.tmod_lt_of_pos _ hTp⟩
      obtain ⟨k, hk, hkT⟩ : ∃ k : Nat, (R + (T.size : Int)).tmod (T.size : Int) = (k : Int) ∧ k < T.size := by
        have h1 := Int.tmod_nonneg (T.size : Int) (by omega : 0 ≤ R + (T.size : Int))
        have h2 := Int.tmod_lt_of_pos (R + (T.size : Int)) hTp
        exact ⟨((R + (T.size : Int)).tmod (T.size : Int)).toNat, by omega, by omega⟩
      have hwk : IntKind.i64.wrap ((k : Int) + 1) = (k : Int) + 1 := by rw [IntKind.wrap_i64]; omega
      have hk0 : (0 : Int) ≤ (k : Int) := by omega
      have hk1 : (k : Int) ≤ (T.size : Int) := by omega
      have hk2 : (k : Int) < (T.size : Int) := by omega
      have hk3 : (k : Int) + 1 ≤ (T.size : Int) := by omega
      have hk4 : (0 : Int) ≤ (k : Int) + 1 := by omega
      have hx1 : (T.extract 0 k).size ≤ 9200 := by rw [ByteArray.size_extract]; omega
      have hx2 : (T.extract (k + 1) T.size).size ≤ 9200 := by rw [ByteArray.size_extract]; omega
      rcases (by omega : z = 1 ∨ z = 2 ∨ z = 3) with hz1 | hz1 | hz1
      · have f1 : (z == 1) = true := beq_iff_eq.2 hz1
        obtain ⟨c', hc', hc0, hc1⟩ : ∃ c', bits BinOp.xor IntKind.u8 (((T[k]'hkT).toNat : Nat) : Int) (IntKind.u8.wrap q2) = c' ∧ 0 ≤ c' ∧ c' < 256 := by
          have h1 : ((T[k]'hkT).toNat : Int) < 256 := by have := (T[k]'hkT).toNat_lt; omega
          have h2 : 0 ≤ IntKind.u8.wrap q2 ∧ IntKind.u8.wrap q2 < 256 := by rw [IntKind.wrap_u8]; omega
          have h3 := u8_xor (((T[k]'hkT).toNat : Nat) : Int) (IntKind.u8.wrap q2) (by omega) h1 h2.1 h2.2
          have h4 := Nat.xor_lt_two_pow (x := (((T[k]'hkT).toNat : Nat) : Int).toNat) (y := (IntKind.u8.wrap q2).toNat) (n := 8) (by omega) (by omega)
          exact ⟨_, h3, by omega, by omega⟩
        have hcv : (convert 26 9 (.slice (some ⟨w4.heap.size, 0, none⟩) 1 1)).run Try.prog (w4.alloc (.cells #[.int .u8 c'] 5)).drew = .ok (.string (bOf c')) (w4.alloc (.cells #[.int .u8 c'] 5)).drew := run_toString1 hc0 hc1 (by simp)
        have hc2 : bits BinOp.xor IntKind.u8 (((T[k]'hkT).toNat : Nat) : Int) (q2 % 256) = c' := by rw [← IntKind.wrap_u8]; exact hc'
        have hb1 := bOf_size c'
        have g4 : (9223372036854775807 < min k T.size + 1) = False := eq_false (by omega)
        have g5 : (9223372036854775807 < min k T.size + 1 + (T.size - (k + 1))) = False := eq_false (by omega)
        have g6 : (9223372036854775807 < min k T.size + 1 + (min T.size T.size - (k + 1))) = False := eq_false (by omega)
        have g1 : (9223372036854775807 < (T.extract 0 k).size + (bOf c').size) = False := eq_false (by omega)
        have g2 : (9223372036854775807 < (T.extract 0 k ++ bOf c').size + (T.extract (k + 1) T.size).size) = False := eq_false (by rw [ByteArray.size_append]; omega)
        have g3 : (9223372036854775807 < (T.extract 0 k).size + (bOf c').size + (T.extract (k + 1) T.size).size) = False := eq_false (by omega)
        go_wp2_with fail
        go_region
        have hF4 := (hF4.alloc (.cells #[.int .u8 c'] 5)).drew
        clear d0 d1 d2 e1 e2 f1 hcv g1 g2 g3 g4 g5 g6 hc' hc2
        generalize (w4.alloc (.cells #[.int .u8 c'] 5)).drew = W5 at hF4 ⊢
        have hX : (T.extract 0 k ++ bOf c' ++ T.extract (k + 1) T.size).size ≤ 20000 := by rw [ByteArray.size_append, ByteArray.size_append, bOf_size]; omega
        generalize T.extract 0 k ++ bOf c' ++ T.extract (k + 1) T.size = X at *
        go_wp2_with fail
        (with_reducible refine (ERead_calls _ X (by omega)).mono ?_)
        rintro e w5 ⟨v, r5, rfl, hsr, hf5, -⟩
        have hF5 := hF4.then hf5
        obtain ⟨A5, c5, rfl, hl1, hl2, hrd, -⟩ := hsr.reads
        have her5 := EvR.of_flat hrd
        clear hsr hrd hf5 hF4
        go_wp2_with fail
        (with_reducible refine (RRead_calls _ X (by omega)).mono ?_)
        rintro e w6 ⟨v, r6, rfl, hsr, hf6, -⟩
        have hF6 := hF5.then hf6
        have her5 := her5.keep hf6 (by simp)
        obtain ⟨A6, c6, rfl, -, -, hrd, -⟩ := hsr.reads
        have her6 := EvR.of_flat hrd
        clear hsr hrd hf6 hF5
        generalize (evRead X).2 = ec at *
        generalize (evRead X).1 = L at *
        go_wp2_with fail
        (with_reducible refine (Same15_calls _ A5 A6 c5 c6 L her5 her6 (Nat.le_trans hl1 hl2)).mono ?_)
        rintro e w7 ⟨rfl, hf7⟩
        have hF7 := hF6.then hf7
        clear her5 her6 hF6 hf7
        go_wp2_with fail
        go_ret
        exact ⟨by simp, hF7⟩
      · have f1 : (z == 1) = false := beq_eq_false_iff_ne.2 (by omega)
        have f2 : (z == 2) = true := beq_iff_eq.2 hz1
        have g1 : (9223372036854775807 < (T.extract 0 k).size + (T.extract (k + 1) T.size).size) = False := eq_false (by omega)
        go_wp2_with fail
        go_quiet (fail)
        have hF4 := hF4.drewN nq
        clear d0 d1 d2 e1 e2 f1 f2
        have hX : (T.extract 0 k ++ T.extract (k + 1) T.size).size ≤ 20000 := by rw [ByteArray.size_append]; omega
        generalize T.extract 0 k ++ T.extract (k + 1) T.size = X at *
        go_wp2_with fail
        (with_reducible refine (ERead_calls _ X (by omega)).mono ?_)
        rintro e w5 ⟨v, r5, rfl, hsr, hf5, -⟩
        have hF5 := hF4.then hf5
        obtain ⟨A5, c5, rfl, hl1, hl2, hrd, -⟩ := hsr.reads
        have her5 := EvR.of_flat hrd
        clear hsr hrd hf5 hF4
        go_wp2_with fail
        (with_reducible refine (RRead_calls _ X (by omega)).mono ?_)
        rintro e w6 ⟨v, r6, rfl, hsr, hf6, -⟩
        have hF6 := hF5.then hf6
        have her5 := her5.keep hf6 (by simp)
        obtain ⟨A6, c6, rfl, -, -, hrd, -⟩ := hsr.reads
        have her6 := EvR.of_flat hrd
        clear hsr hrd hf6 hF5
        generalize (evRead X).2 = ec at *
        generalize (evRead X).1 = L at *
        go_wp2_with fail
        (with_reducible refine (Same15_calls _ A5 A6 c5 c6 L her5 her6 (Nat.le_trans hl1 hl2)).mono ?_)
        rintro e w7 ⟨rfl, hf7⟩
        have hF7 := hF6.then hf7
        clear her5 her6 hF6 hf7
        go_wp2_with fail
        go_ret
        exact ⟨by simp, hF7⟩
      · have f1 : (z == 1) = false := beq_eq_false_iff_ne.2 (by omega)
        have f2 : (z == 2) = false := beq_eq_false_iff_ne.2 (by omega)
        have f3 : (z == 3) = true := beq_iff_eq.2 hz1
        go_wp2_with fail
        clear d0 d1 d2 e1 e2 f1 f2 f3
        generalize T.extract 0 k = X at *
        (with_reducible refine (ERead_calls _ X (by omega)).mono ?_)
        rintro e w5 ⟨v, r5, rfl, hsr, hf5, -⟩
        have hF5 := hF4.then hf5
        obtain ⟨A5, c5, rfl, hl1, hl2, hrd, -⟩ := hsr.reads
        have her5 := EvR.of_flat hrd
        clear hsr hrd hf5 hF4
        go_wp2_with fail
        (with_reducible refine (RRead_calls _ X (by omega)).mono ?_)
        rintro e w6 ⟨v, r6, rfl, hsr, hf6, -⟩
        have hF6 := hF5.then hf6
        have her5 := her5.keep hf6 (by simp)
        obtain ⟨A6, c6, rfl, -, -, hrd, -⟩ := hsr.reads
        have her6 := EvR.of_flat hrd
        clear hsr hrd hf6 hF5
        generalize (evRead X).2 = ec at *
        generalize (evRead X).1 = L at *
        go_wp2_with fail
        (with_reducible refine (Same15_calls _ A5 A6 c5 c6 L her5 her6 (Nat.le_trans hl1 hl2)).mono ?_)
        rintro e w7 ⟨rfl, hf7⟩
        have hF7 := hF6.then hf7
        clear her5 her6 hF6 hf7
        go_wp2_with fail
        go_ret
        exact ⟨by simp, hF7⟩
theorem EventReads_walk (w : World) (s0 : ByteArray) (hs0 : s0.size ≤ 140737488351232) (A : Option Addr) (cap : Nat) (l : List (List Value)) (hr : RdR w A 8 l) (hrow : ∀ row, row ∈ l → FRow [.int .i64, .int .i64, .int .i64, .int .i64, .int .i64, .str, .str, .str] row) (hl : l.length ≤ maxLen) (q0 q1 q2 : Int) (hq0 : Bd .i64 q0) (hq1 : Bd .i64 q1) (hq2 : Bd .i64 q2) :
    Calls Try.prog 12 #[.string s0, .slice A l.length cap, .agg #[.int .i64 q0, .int .i64 q1, .int .i64 q2]] w fun e w' => e = .returned (.bool true) ∧ Fr [] w w' := by
  obtain ⟨es, rfl, hlen, hbd⟩ := Ev.of_rows l hrow
  rw [List.length_map] at hl ⊢
  exact EventReads_core w s0 hs0 A cap es (EvR.of_rdr hr) hbd hl q0 q1 q2 hq0 hq1 hq2
end Go.Proofs.Ytngonnnjehlfbaa
