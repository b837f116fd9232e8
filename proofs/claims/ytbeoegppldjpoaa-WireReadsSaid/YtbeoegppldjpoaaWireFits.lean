/- The law WireFits: for any request and reply the Go function returns true (its walk). -/
import Derived.Test.YtbeoegppldjpoaaWireMade2
import Derived.Test.YtbeoegppldjpoaaWireAwake
import Derived.Test.YtbeoegppldjpoaaWireRead2
import Derived.Test.YtbeoegppldjpoaaWireIn
import Derived.Deep.Cut
import Derived.Deep.RegionHeld3
import Derived.Laws.BitsAllLaws
namespace Go.Proofs.Ytbeoegppldjpoaa
open Go.RowKit
set_option linter.unusedVariables false
set_option linter.unusedSimpArgs false

theorem i64_and63 (n : Int) : bits .and .i64 n 63 = n % 64 := by
  have h127 : (BitVec.ofInt 64 63).toNat = 2 ^ 6 - 1 := by decide
  have key : (BitVec.ofInt 64 n &&& BitVec.ofInt 64 63).toNat = (n % ((2 ^ 64 : Nat) : Int)).toNat % 2 ^ 6 := by
    rw [BitVec.toNat_and, BitVec.toNat_ofInt, h127, Nat.and_two_pow_sub_one_eq_mod]
  show IntKind.i64.wrap ((BitVec.ofInt 64 n &&& BitVec.ofInt 64 63).toNat : Nat) = n % 64
  rw [key, IntKind.wrap_i64]
  omega
theorem rqLess_short (r : Rq) : (rqLess r).short 1000 := ⟨Nat.le_trans (shortB_size _ _) (by decide), Nat.le_trans (shortB_size _ _) (by decide), Nat.le_trans (shortB_size _ _) (by decide), Nat.le_trans (shortB_size _ _) (by decide), Nat.le_trans (shortB_size _ _) (by decide)⟩
/-- The request that the statements make of any: less, then made. -/
theorem xmade_calls (k pu : Int) (so ma ot se pa : ByteArray) (hs : (Rq.mk k pu so ma ot se pa).short 9223372036854775807) :
    ∃ (xk xpu : Nat) (y0 y1 y2 y3 y4 : ByteArray) (l0 l1 l2 l3 l4 : ByteArray) (lk lpu : Int), (Rq.mk xk xpu y0 y1 y2 y3 y4).ok = true ∧ rqMade (rqLess ⟨k, pu, so, ma, ot, se, pa⟩) = ⟨xk, xpu, y0, y1, y2, y3, y4⟩ ∧
      (∀ W, Calls Try.prog 9 #[.agg #[.int .i64 k, .int .i64 pu, .string so, .string ma, .string ot, .string se, .string pa]] W fun e w' => e = .returned (.agg #[.int .i64 lk, .int .i64 lpu, .string l0, .string l1, .string l2, .string l3, .string l4]) ∧ Fr [] W w') ∧
      (∀ W, Calls Try.prog 8 #[.agg #[.int .i64 lk, .int .i64 lpu, .string l0, .string l1, .string l2, .string l3, .string l4]] W fun e w' => e = .returned (.agg #[.int .i64 xk, .int .i64 xpu, .string y0, .string y1, .string y2, .string y3, .string y4]) ∧ Fr [] W w') := by
  have h1 := fun W => less_calls W k pu so ma ot se pa hs
  have h2 := rqLess_short ⟨k, pu, so, ma, ot, se, pa⟩
  generalize rqLess ⟨k, pu, so, ma, ot, se, pa⟩ = l at *
  obtain ⟨lk, lpu, l0, l1, l2, l3, l4⟩ := l
  have h3 := fun W => made_calls W lk lpu l0 l1 l2 l3 l4 h2
  have hok := rqMade_ok ⟨lk, lpu, l0, l1, l2, l3, l4⟩
  generalize rqMade ⟨lk, lpu, l0, l1, l2, l3, l4⟩ = x at *
  obtain ⟨xk, xpu, y0, y1, y2, y3, y4⟩ := x
  have hi := Rq.ok_iff hok
  simp only at hi
  obtain ⟨xk, rfl⟩ := Int.eq_ofNat_of_zero_le (show 0 ≤ xk by omega)
  obtain ⟨xpu, rfl⟩ := Int.eq_ofNat_of_zero_le (show 0 ≤ xpu by omega)
  exact ⟨xk, xpu, y0, y1, y2, y3, y4, l0, l1, l2, l3, l4, lk, lpu, hok, rfl, h1, h3⟩

set_option maxHeartbeats 4000000 in
set_option maxRecDepth 100000 in
theorem WireFits_core (w : World) (k pu : Int) (so ma ot se pa : ByteArray) (hs : (Rq.mk k pu so ma ot se pa).short 9223372036854775807) (c : Int) (t : ByteArray) (ht : t.size ≤ 9223372036854775807) :
    Calls Try.prog 3 #[.agg #[.int .i64 k, .int .i64 pu, .string so, .string ma, .string ot, .string se, .string pa], .agg #[.int .i64 c, .string t]] w fun e w' => e = .returned (.bool true) ∧ Fr [] w w' := by
  obtain ⟨xk, xpu, y0, y1, y2, y3, y4, l0, l1, l2, l3, l4, lk, lpu, hok, -, hless, hmade⟩ := xmade_calls k pu so ma ot se pa hs
  have hi := Rq.ok_iff hok
  simp only at hi
  obtain ⟨-, -, hi0, hi1, hi2, hi3, hi4⟩ := hi
  have hby := fun W => WBytes_ok W xk xpu y0 y1 y2 y3 y4 hok
  have hbs := rqB_size hok
  simp only at hbs
  generalize rqB ⟨xk, xpu, y0, y1, y2, y3, y4⟩ = B at *
  obtain ⟨m, hm, hm63⟩ : ∃ m : Nat, bits BinOp.and IntKind.i64 c 63 = (m : Int) ∧ m ≤ 63 := ⟨(c % 64).toNat, by rw [i64_and63]; omega, by omega⟩
  have hsh := fun W => short19_calls t 64 64 rfl W ht (by decide)
  have h64 := shortB_size t 64
  generalize shortB t 64 = z at *
  have hrp := fun W => WReply_calls W m z (by omega)
  have hrs : (replyB m z).size = z.size + 2 := by
    rw [replyB, if_pos (by simp only [Bool.and_eq_true, decide_eq_true_eq]; omega)]
    have hn : ∀ n, n < 128 → (numB n).size = 1 := fun n hn => by rw [numB_small hn]; rfl
    simp only [numsB, txtsB, txtB, app_nil, ByteArray.size_append]
    rw [hn _ (by omega), hn _ (by omega)]
    omega
  generalize replyB m z = D at *
  have HLE := Lib.hid hless
  have HMA := Lib.hid hmade
  have HBY := Lib.hid hby
  have HRP := Lib.hid hrp
  have HSH := Lib.hid hsh
  have HBS := Lib.hid hbs
  have HRS := Lib.hid hrs
  clear hless hmade hby hrp hsh hbs hrs hok hs ht
  go_enter Try.func3, Try.ntmps3
  go_wp2_with fail
  have hr0 := alloc_keep (o := .cells #[.int .i64 c, .string t] 26) (heap_alloc_new w (.cells #[.int .i64 k, .int .i64 pu, .string so, .string ma, .string ot, .string se, .string pa] 23))
  have hy0 := heap_alloc_new (w.alloc (.cells #[.int .i64 k, .int .i64 pu, .string so, .string ma, .string ot, .string se, .string pa] 23)) (.cells #[.int .i64 c, .string t] 26)
  have hF0 : Fr [] w ((w.alloc (.cells #[.int .i64 k, .int .i64 pu, .string so, .string ma, .string ot, .string se, .string pa] 23)).alloc (.cells #[.int .i64 c, .string t] 26)) := ((Fr.refl _ _).alloc _).alloc _
  have hsz : (w.alloc (.cells #[.int .i64 k, .int .i64 pu, .string so, .string ma, .string ot, .string se, .string pa] 23)).heap.size = w.heap.size + 1 := by simp
  rw [hsz] at hy0
  generalize (w.alloc (.cells #[.int .i64 k, .int .i64 pu, .string so, .string ma, .string ot, .string se, .string pa] 23)).alloc (.cells #[.int .i64 c, .string t] 26) = W0 at *
  clear hsz
  generalize w.heap.size + 1 = Y at *
  generalize w.heap.size = R at *
  (with_reducible refine (awake19_calls _).mono ?_)
  rintro e w1 ⟨rfl, hf1⟩
  have hr1 := blk_keep hr0 hf1 (by simp)
  have hy1 := blk_keep hy0 hf1 (by simp)
  have hF1 := hF0.then hf1
  clear hr0 hy0 hF0 hf1
  obtain ⟨c0, c1, c2, c3, c4, c5, c6⟩ := rq_cells hr1
  go_wp2_with fail
  clear c0 c1 c2 c3 c4 c5 c6
  (with_reducible refine (HLE.out _).mono ?_)
  rintro e w2 ⟨rfl, hf2⟩
  have hy2 := blk_keep hy1 hf2 (by simp)
  have hF2 := hF1.then hf2
  clear hy1 hF1 hf2 hr1 HLE
  go_wp2_with fail
  (with_reducible refine (HMA.out _).mono ?_)
  rintro e w3 ⟨rfl, hf3⟩
  have hy3 := blk_keep hy2 hf3 (by simp)
  have hF3 := hF2.then hf3
  clear hy2 hF2 hf3 HMA
  go_wp2_with fail
  have hx3 := heap_alloc_new w3 (.cells #[.int .i64 xk, .int .i64 xpu, .string y0, .string y1, .string y2, .string y3, .string y4] 23)
  have hy4 := alloc_keep (o := .cells #[.int .i64 xk, .int .i64 xpu, .string y0, .string y1, .string y2, .string y3, .string y4] 23) hy3
  have hF4 := hF3.alloc (.cells #[.int .i64 xk, .int .i64 xpu, .string y0, .string y1, .string y2, .string y3, .string y4] 23)
  generalize w3.alloc (.cells #[.int .i64 xk, .int .i64 xpu, .string y0, .string y1, .string y2, .string y3, .string y4] 23) = W4 at *
  generalize w3.heap.size = X at *
  obtain ⟨e0, e1⟩ := rp_cells hy4
  have HX3 := Lib.hid hx3
  have HF4 := Lib.hid hF4
  clear hy3 hF3 hx3 hF4 hy4
  go_cut [7] from 9 (fun s7 wx => ∃ V, s7 = .pointer (some ⟨V, 0, none⟩) ∧ Hid (wx.heap[V]? = some (.cells #[.int .i64 m, .string z] 26 (0, 0)) ∧ wx.heap[X]? = some (.cells #[.int .i64 xk, .int .i64 xpu, .string y0, .string y1, .string y2, .string y3, .string y4] 23 (0, 0)) ∧ Fr [] w wx))
  case first =>
    go_region_held3 (fun w' => w'.cell? ⟨Y, 0, none⟩ = some (.int .i64 c) ∧ w'.cell? ⟨Y, 1, none⟩ = some (.string t)) (first | exact ⟨e0, e1⟩ | go_keep) (first
      | (go_at_call 10; (with_reducible refine (HSH.out _).mono ?_); rintro e w9 ⟨rfl, rfl⟩))
    all_goals
      go_wp2_with fail
      go_meet
      exact ⟨_, rfl, heap_alloc_new _ _, alloc_keep HX3.out, (HF4.out.alloc _).drew⟩
  case rest =>
    obtain ⟨V, rfl, H⟩ := hcut
    clear e0 e1 HX3 HF4 hm HSH
    obtain ⟨c0, c1, c2, c3, c4, c5, c6⟩ := rq_cells H.out.2.1
    go_wp2_with fail
    obtain ⟨v0, v1⟩ := rp_cells H.out.1
    obtain ⟨N, hN, hN9⟩ : ∃ N : Int, (y0.size : Int) + y1.size + y2.size + y3.size + y4.size = N ∧ 0 ≤ N ∧ N ≤ 999 := ⟨_, rfl, by omega, by omega⟩
    rw [hN]
    have hw : IntKind.i64.wrap (N + 7) = N + 7 := by rw [IntKind.wrap_i64]; omega
    have hq1 : ((B.size : Int) == N + 7) = true := beq_iff_eq.2 (by have := HBS.out; omega)
    have hw2 : IntKind.i64.wrap ((z.size : Int) + 2) = (z.size : Int) + 2 := by rw [IntKind.wrap_i64]; omega
    have hq2 : ((D.size : Int) == (z.size : Int) + 2) = true := beq_iff_eq.2 (by have := HRS.out; omega)
    have HX := Lib.hid (show wc.drew.heap[X]? = _ from H.out.2.1)
    have HV := Lib.hid (show wc.drew.heap[V]? = _ from H.out.1)
    have HF := Lib.hid H.out.2.2.drew
    clear HBS HRS hN H hi0 hi1 hi2 hi3 hi4
    go_region_held3 (fun w' => w'.cell? ⟨X, 0, none⟩ = some (.int .i64 xk) ∧ w'.cell? ⟨X, 1, none⟩ = some (.int .i64 xpu) ∧ w'.cell? ⟨X, 2, none⟩ = some (.string y0) ∧ w'.cell? ⟨X, 3, none⟩ = some (.string y1) ∧ w'.cell? ⟨X, 4, none⟩ = some (.string y2) ∧ w'.cell? ⟨X, 5, none⟩ = some (.string y3) ∧ w'.cell? ⟨X, 6, none⟩ = some (.string y4) ∧ w'.cell? ⟨V, 0, none⟩ = some (.int .i64 m) ∧ w'.cell? ⟨V, 1, none⟩ = some (.string z)) (first | exact hk2 | exact hk1 | go_keep) (first
      | (go_at_call 11; (with_reducible refine (HBY.out _).mono ?_); rintro e w6 ⟨rfl, hf6⟩; (have HV6 := Lib.hid (blk_keep HV.out hf6 (by simp))); (have HF6 := Lib.hid (HF.out.then hf6)); (have hk1 : _ ∧ _ ∧ _ ∧ _ ∧ _ ∧ _ ∧ _ ∧ _ ∧ _ := ⟨(rq_cells (blk_keep HX.out hf6 (by simp))).1, (rq_cells (blk_keep HX.out hf6 (by simp))).2.1, (rq_cells (blk_keep HX.out hf6 (by simp))).2.2.1, (rq_cells (blk_keep HX.out hf6 (by simp))).2.2.2.1, (rq_cells (blk_keep HX.out hf6 (by simp))).2.2.2.2.1, (rq_cells (blk_keep HX.out hf6 (by simp))).2.2.2.2.2.1, (rq_cells (blk_keep HX.out hf6 (by simp))).2.2.2.2.2.2, (rp_cells HV6.out).1, (rp_cells HV6.out).2⟩); (have HX6 := Lib.hid (blk_keep HX.out hf6 (by simp))))
      | (go_at_call 12; (with_reducible refine (HRP.out _).mono ?_); rintro e w7 ⟨rfl, hf7⟩; (have HF7 := Lib.hid (HF6.out.then hf7)); (have hk2 : _ ∧ _ ∧ _ ∧ _ ∧ _ ∧ _ ∧ _ ∧ _ ∧ _ := ⟨(rq_cells (blk_keep HX6.out hf7 (by simp))).1, (rq_cells (blk_keep HX6.out hf7 (by simp))).2.1, (rq_cells (blk_keep HX6.out hf7 (by simp))).2.2.1, (rq_cells (blk_keep HX6.out hf7 (by simp))).2.2.2.1, (rq_cells (blk_keep HX6.out hf7 (by simp))).2.2.2.2.1, (rq_cells (blk_keep HX6.out hf7 (by simp))).2.2.2.2.2.1, (rq_cells (blk_keep HX6.out hf7 (by simp))).2.2.2.2.2.2, (rp_cells (blk_keep HV6.out hf7 (by simp))).1, (rp_cells (blk_keep HV6.out hf7 (by simp))).2⟩)))
    all_goals
      go_wp2_with fail
      go_ret
      exact ⟨rfl, HF7.out⟩
theorem WireFits_walk (w : World) (l : List Value) (hl : FRow [.int .i64, .int .i64, .str, .str, .str, .str, .str] l) (m : List Value) (hm : FRow [.int .i64, .str] m) :
    Calls Try.prog 3 #[.agg l.toArray, .agg m.toArray] w fun e w' => e = .returned (.bool true) ∧ Fr [] w w' := by
  obtain ⟨k, pu, s0, s1, s2, s3, s4, rfl, hs, -, -⟩ := rq_of_row hl
  obtain ⟨c, t, rfl, ht, -⟩ := rp_of_row hm
  exact WireFits_core w k pu s0 s1 s2 s3 s4 hs c t ht
end Go.Proofs.Ytbeoegppldjpoaa
