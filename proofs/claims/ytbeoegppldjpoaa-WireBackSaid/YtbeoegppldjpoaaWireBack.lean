/- The law WireBack: for any request, reply and byte the Go function returns true (its walk). -/
import Derived.Test.YtbeoegppldjpoaaWireFits
import Derived.Test.YtbeoegppldjpoaaRef03W
import Derived.Laws.StructEq
import Derived.Test.YtbeoegppldjpoaaMildR
namespace Go.Proofs.Ytbeoegppldjpoaa
open Go.RowKit
set_option linter.unusedVariables false
set_option linter.unusedSimpArgs false
attribute [local go_sem] mildAt mildUpon

/-- A new block: its number, and that it is new. -/
def PtN (cs : Array Value) (T : TypeId) (base : Nat) (v : Value) (W : World) : Prop := ∃ b, v = .pointer (some ⟨b, 0, none⟩) ∧ W.heap[b]? = some (.cells cs T (0, 0)) ∧ base ≤ b
theorem PtN.stable {cs : Array Value} {T : TypeId} {base : Nat} (v : Value) (W W' : World) (h : PtN cs T base v W) (hf : Fr [] W W') : PtN cs T base v W' := by
  obtain ⟨b, hv, hb, hn⟩ := h
  exact ⟨b, hv, (hf.block b (lt_of_heap hb) (by simp)).trans hb, hn⟩
theorem replyR_wrote (c : Nat) (t : ByteArray) (hc : c ≤ 99) (ht : t.size ≤ 64) : replyR (replyB c t) = (((c : Int), t), 0) := by
  have h1 := rpTake_wrote c t ⟨#[]⟩ hc ht
  rw [app_nil] at h1
  rw [replyB, if_pos (by simp only [Bool.and_eq_true, decide_eq_true_eq]; omega)]
  unfold replyR
  rw [h1]
  simp only [pEnd_some]
  rfl
theorem replyR_more (c : Nat) (t : ByteArray) (hc : c ≤ 99) (ht : t.size ≤ 64) (u : ByteArray) (hu : u.size ≠ 0) : replyR (replyB c t ++ u) = ((0, ⟨#[]⟩), 10) := by
  have h1 := rpTake_wrote c t u hc ht
  rw [replyB, if_pos (by simp only [Bool.and_eq_true, decide_eq_true_eq]; omega)]
  unfold replyR
  rw [h1]
  simp only [pEnd_some, hu, decide_false]
  rfl
set_option maxHeartbeats 4000000 in
set_option maxRecDepth 100000 in
theorem WireBack_core (w : World) (k pu : Int) (so ma ot se pa : ByteArray) (hs : (Rq.mk k pu so ma ot se pa).short 9223372036854775807) (c : Int) (t : ByteArray) (ht : t.size ≤ 9223372036854775807) (cc : Int) (hcc : Bd .u8 cc) :
    Calls Try.prog 5 #[.agg #[.int .i64 k, .int .i64 pu, .string so, .string ma, .string ot, .string se, .string pa], .agg #[.int .i64 c, .string t], .int .u8 cc] w fun e w' => e = .returned (.bool true) ∧ Fr [] w w' := by
  obtain ⟨xk, xpu, y0, y1, y2, y3, y4, l0, l1, l2, l3, l4, lk, lpu, hok, -, hless, hmade⟩ := xmade_calls k pu so ma ot se pa hs
  have hi := Rq.ok_iff hok
  simp only at hi
  obtain ⟨-, -, hi0, hi1, hi2, hi3, hi4⟩ := hi
  have hby := fun W => WBytes_ok W xk xpu y0 y1 y2 y3 y4 hok
  have hbs := rqB_size hok
  simp only at hbs
  have hr1 := wireR_wrote _ hok
  have hr2 := wireR_more _ hok (bOf cc) (by rw [bOf_size]; decide)
  have hck := fun W => Check_calls W xk xpu y0 y1 y2 y3 y4 ⟨by show y0.size ≤ _; omega, by show y1.size ≤ _; omega, by show y2.size ≤ _; omega, by show y3.size ≤ _; omega, by show y4.size ≤ _; omega⟩
  rw [hok] at hck
  obtain ⟨hcc0, hcc1⟩ := hcc.u8
  have hcv : ∀ (W : World) (b : Nat), W.cell? ⟨b, 0, none⟩ = some (.int .u8 cc) → (convert 34 9 (.slice (some ⟨b, 0, none⟩) 1 1)).run Try.prog W = .ok (.string (bOf cc)) W := fun W b h => run_toString1 hcc0 hcc1 h
  have hbz : (bOf cc).size = 1 := bOf_size cc
  generalize rqB ⟨xk, xpu, y0, y1, y2, y3, y4⟩ = B at *
  obtain ⟨m, hm, hm63⟩ : ∃ m : Nat, bits BinOp.and IntKind.i64 c 63 = (m : Int) ∧ m ≤ 63 := ⟨(c % 64).toNat, by rw [i64_and63]; omega, by omega⟩
  have hsh := fun W => short19_calls t 64 64 rfl W ht (by decide)
  have h64 := shortB_size t 64
  generalize shortB t 64 = z at *
  have hrp := fun W => WReply_calls W m z (by omega)
  have hrs : (replyB m z).size = z.size + 2 := by
    rw [replyB, if_pos (by simp only [Bool.and_eq_true, decide_eq_true_eq]; omega)]
    have hn : ∀ n, n < 128 → (numB n).size = 1 := fun n hn => by rw [numB_small hn]; rfl
    simp only [numsB, txtsB, txtB, app_nil, ByteArray.size_append]
    rw [hn _ (by omega), hn _ (by omega)]
    omega
  have hq1 := replyR_wrote m z (by omega) (by omega)
  have hq2 := replyR_more m z (by omega) (by omega) (bOf cc) (by rw [bOf_size]; decide)
  generalize replyB m z = D at *
  have hd1 := fun W => WRead_calls W B (by omega)
  have hd2 := fun W => WRead_calls W (B ++ bOf cc) (by rw [ByteArray.size_append]; omega)
  have hd3 := fun W => WReadReply_calls W D (by omega)
  have hd4 := fun W => WReadReply_calls W (D ++ bOf cc) (by rw [ByteArray.size_append]; omega)
  rw [hr1] at hd1
  rw [hr2] at hd2
  rw [hq1] at hd3
  rw [hq2] at hd4
  simp only [Rq.val, rqNo] at hd1 hd2
  simp only at hd3 hd4
  have g1 : (9223372036854775807 < B.size + (bOf cc).size) = False := eq_false (by omega)
  have g2 : (9223372036854775807 < B.size + 1) = False := eq_false (by omega)
  have g3 : (9223372036854775807 < D.size + (bOf cc).size) = False := eq_false (by omega)
  have g4 : (9223372036854775807 < D.size + 1) = False := eq_false (by omega)
  have HD1 := Lib.hid hd1
  have HD2 := Lib.hid hd2
  have HD3 := Lib.hid hd3
  have HD4 := Lib.hid hd4
  have HCK := Lib.hid hck
  clear hr1 hr2 hq1 hq2 hd1 hd2 hd3 hd4 hck hcc
  have HLE := Lib.hid hless
  have HMA := Lib.hid hmade
  have HBY := Lib.hid hby
  have HRP := Lib.hid hrp
  have HSH := Lib.hid hsh
  clear hless hmade hby hrp hsh hbs hrs hok hs ht
  go_enter Try.func5, Try.ntmps5
  go_wp2_with fail
  have hr0 := alloc_keep (o := .cells #[.int .i64 c, .string t] 26) (heap_alloc_new w (.cells #[.int .i64 k, .int .i64 pu, .string so, .string ma, .string ot, .string se, .string pa] 23))
  have hy0 := heap_alloc_new (w.alloc (.cells #[.int .i64 k, .int .i64 pu, .string so, .string ma, .string ot, .string se, .string pa] 23)) (.cells #[.int .i64 c, .string t] 26)
  have hF0 : Fr [] w ((w.alloc (.cells #[.int .i64 k, .int .i64 pu, .string so, .string ma, .string ot, .string se, .string pa] 23)).alloc (.cells #[.int .i64 c, .string t] 26)) := ((Fr.refl _ _).alloc _).alloc _
  have hsz : (w.alloc (.cells #[.int .i64 k, .int .i64 pu, .string so, .string ma, .string ot, .string se, .string pa] 23)).heap.size = w.heap.size + 1 := by simp
  rw [hsz] at hy0
  generalize (w.alloc (.cells #[.int .i64 k, .int .i64 pu, .string so, .string ma, .string ot, .string se, .string pa] 23)).alloc (.cells #[.int .i64 c, .string t] 26) = W0 at *
  clear hsz
  generalize w.heap.size + 1 = Y at *
  generalize w.heap.size = R at *
  (with_reducible refine (awake19_calls _).mono ?_)
  rintro e w1 ⟨rfl, hf1⟩
  have hr1 := blk_keep hr0 hf1 (by simp)
  have hy1 := blk_keep hy0 hf1 (by simp)
  have hF1 := hF0.then hf1
  clear hr0 hy0 hF0 hf1
  obtain ⟨c0, c1, c2, c3, c4, c5, c6⟩ := rq_cells hr1
  go_wp2_with fail
  clear c0 c1 c2 c3 c4 c5 c6
  (with_reducible refine (HLE.out _).mono ?_)
  rintro e w2 ⟨rfl, hf2⟩
  have hy2 := blk_keep hy1 hf2 (by simp)
  have hF2 := hF1.then hf2
  clear hy1 hF1 hf2 hr1 HLE
  go_wp2_with fail
  (with_reducible refine (HMA.out _).mono ?_)
  rintro e w3 ⟨rfl, hf3⟩
  have hy3 := blk_keep hy2 hf3 (by simp)
  have hF3 := hF2.then hf3
  clear hy2 hF2 hf3 HMA
  go_wp2_with fail
  have hx3 := heap_alloc_new w3 (.cells #[.int .i64 xk, .int .i64 xpu, .string y0, .string y1, .string y2, .string y3, .string y4] 23)
  have hy4 := alloc_keep (o := .cells #[.int .i64 xk, .int .i64 xpu, .string y0, .string y1, .string y2, .string y3, .string y4] 23) hy3
  have hF4 := hF3.alloc (.cells #[.int .i64 xk, .int .i64 xpu, .string y0, .string y1, .string y2, .string y3, .string y4] 23)
  generalize w3.alloc (.cells #[.int .i64 xk, .int .i64 xpu, .string y0, .string y1, .string y2, .string y3, .string y4] 23) = W4 at *
  generalize w3.heap.size = X at *
  obtain ⟨e0, e1⟩ := rp_cells hy4
  have HX3 := Lib.hid hx3
  have HF4 := Lib.hid hF4
  clear hy3 hF3 hx3 hF4 hy4
  go_cut [9] from 18 (fun s7 wx => ∃ V, s7 = .pointer (some ⟨V, 0, none⟩) ∧ Hid (wx.heap[V]? = some (.cells #[.int .i64 m, .string z] 26 (0, 0)) ∧ wx.heap[X]? = some (.cells #[.int .i64 xk, .int .i64 xpu, .string y0, .string y1, .string y2, .string y3, .string y4] 23 (0, 0)) ∧ Fr [] w wx))
  case first =>
    go_region_held3 (fun w' => w'.cell? ⟨Y, 0, none⟩ = some (.int .i64 c) ∧ w'.cell? ⟨Y, 1, none⟩ = some (.string t)) (first | exact ⟨e0, e1⟩ | go_keep) (first
      | (go_at_call 10; (with_reducible refine (HSH.out _).mono ?_); rintro e w9 ⟨rfl, rfl⟩))
    all_goals
      go_wp2_with fail
      go_meet
      exact ⟨_, rfl, heap_alloc_new _ _, alloc_keep HX3.out, (HF4.out.alloc _).drew⟩
  case rest =>
    obtain ⟨V, rfl, H⟩ := hcut
    clear e0 e1 HX3 HF4 hm HSH
    obtain ⟨c0, c1, c2, c3, c4, c5, c6⟩ := rq_cells H.out.2.1
    go_wp2_with fail
    clear c0 c1 c2 c3 c4 c5 c6
    (with_reducible refine (HBY.out _).mono ?_)
    rintro e w5 ⟨rfl, hf5⟩
    have hv5 := blk_keep H.out.1 hf5 (by simp)
    have hx5 := blk_keep H.out.2.1 hf5 (by simp)
    have hF5 := H.out.2.2.then hf5
    clear H hf5
    go_wp2_with fail
    (with_reducible refine (HD1.out _).mono ?_)
    rintro e w6 ⟨rfl, hf6⟩
    have hv6 := blk_keep hv5 hf6 (by simp)
    have hx6 := blk_keep hx5 hf6 (by simp)
    have hF6 := hF5.then hf6
    clear hv5 hx5 hF5 hf6 HD1
    have dv0 := fun o => (rp_cells (alloc_keep (o := o) hv6)).1
    have dv1 := fun o => (rp_cells (alloc_keep (o := o) hv6)).2
    go_wp2_with fail
    clear dv0 dv1
    have ha7 := heap_alloc_new w6 (.cells #[.int .i64 xk, .int .i64 xpu, .string y0, .string y1, .string y2, .string y3, .string y4] 23)
    have hv7 := alloc_keep (o := .cells #[.int .i64 xk, .int .i64 xpu, .string y0, .string y1, .string y2, .string y3, .string y4] 23) hv6
    have hx7 := alloc_keep (o := .cells #[.int .i64 xk, .int .i64 xpu, .string y0, .string y1, .string y2, .string y3, .string y4] 23) hx6
    have hF7 := hF6.alloc (.cells #[.int .i64 xk, .int .i64 xpu, .string y0, .string y1, .string y2, .string y3, .string y4] 23)
    generalize w6.alloc (.cells #[.int .i64 xk, .int .i64 xpu, .string y0, .string y1, .string y2, .string y3, .string y4] 23) = w7 at *
    generalize w6.heap.size = A at *
    clear hv6 hx6 hF6
    (with_reducible refine (HRP.out _).mono ?_)
    rintro e w8 ⟨rfl, hf8⟩
    have hv8 := blk_keep hv7 hf8 (by simp)
    have hx8 := blk_keep hx7 hf8 (by simp)
    have ha8 := blk_keep ha7 hf8 (by simp)
    have hF8 := hF7.then hf8
    clear hv7 hx7 ha7 hF7 hf8
    go_wp2_with fail
    (with_reducible refine (HD3.out _).mono ?_)
    rintro e w9 ⟨rfl, hf9⟩
    have hv9 := blk_keep hv8 hf9 (by simp)
    have hx9 := blk_keep hx8 hf9 (by simp)
    have ha9 := blk_keep ha8 hf9 (by simp)
    have hF9 := hF8.then hf9
    clear hv8 hx8 ha8 hF8 hf9 HD3
    go_wp2_with fail
    have hb10 := heap_alloc_new w9 (.cells #[.int .i64 m, .string z] 26)
    have hv10 := alloc_keep (o := .cells #[.int .i64 m, .string z] 26) hv9
    have hx10 := alloc_keep (o := .cells #[.int .i64 m, .string z] 26) hx9
    have ha10 := alloc_keep (o := .cells #[.int .i64 m, .string z] 26) ha9
    have hF10 := hF9.alloc (.cells #[.int .i64 m, .string z] 26)
    generalize w9.alloc (.cells #[.int .i64 m, .string z] 26) = w10 at *
    generalize w9.heap.size = G at *
    clear hv9 hx9 ha9 hF9
    have HW := Lib.hid (And.intro hx10 (And.intro hv10 (And.intro ha10 (And.intro hb10 hF10))))
    clear hv10 hx10 ha10 hb10 hF10
    have HCV := Lib.hid hcv
    clear hcv
    go_wp2_with fail
    refine wp_region_mildR (RT 23 w10.heap.size) (RT.refl 23 w10.heap.size) (RT.trans 23 w10.heap.size) 13 (by kernel_rfl) (by kernel_rfl) ?_
    simp only [List.take_succ_cons, List.take_zero, List.drop_succ_cons, List.drop_zero, List.take_nil, List.drop_nil]
    repeat (first
      | (apply mildR_det0; (· rfl); (· intro W hW K hK; go_simp; with_reducible exact mild_call (HBY.out W) (fun W' hf => hK W' (RT.of hf))); simp only [Act.put, List.setIfInBounds_toArray, List.set_cons_succ, List.set_cons_zero, Nat.reduceAdd])
      | (apply mildR_det0; (· rfl); (· intro W hW K hK; go_simp; with_reducible exact mild_call (HD2.out W) (fun W' hf => hK W' (RT.of hf))); simp only [Act.put, List.setIfInBounds_toArray, List.set_cons_succ, List.set_cons_zero, Nat.reduceAdd])
      | ((apply mildR_det1; (· rfl); (· intro W hW u hu K hK; obtain ⟨b, rfl, hb⟩ := hu; have hcw := HCV.out W b (by rw [Lib.cell_of_heap hb]; rfl); go_simp; exact hK _ (RT.refl _ _ _))); simp only [Act.put, List.setIfInBounds_toArray, List.set_cons_succ, List.set_cons_zero, Nat.reduceAdd])
      | ((apply mildR_free0 (φ := SlF #[.int .u8 cc] 5 1) (SlF.stableR (by decide)); (· rfl); (· intro W hW K hK; go_simp; exact hK _ _ (RT.of ((Fr.refl _ _).alloc _)) ⟨_, rfl, heap_alloc_new _ _⟩)); simp only [Act.put, List.setIfInBounds_toArray, List.set_cons_succ, List.set_cons_zero, Nat.reduceAdd])
      | ((apply mildR_free0 (φ := PtW 23 w10.heap.size 7) PtW.stable; (· rfl); (· intro W hW K hK; go_simp; exact hK _ _ (RT.of ((Fr.refl _ _).alloc _)) ⟨_, _, rfl, heap_alloc_new _ _, rfl, hW.size⟩)); simp only [Act.put, List.setIfInBounds_toArray, List.set_cons_succ, List.set_cons_zero, Nat.reduceAdd])
      | ((apply mildR_det1; (· rfl); (· intro W hW u hu K hK; obtain ⟨b, cs, rfl, hb, hm, hB⟩ := hu; exact mildAt_store rfl 23 _ _ rfl b #[.int .i64 0, .int .i64 0, .string ⟨#[]⟩, .string ⟨#[]⟩, .string ⟨#[]⟩, .string ⟨#[]⟩, .string ⟨#[]⟩] rfl rfl 23 cs hb infoRq hm (by simp [Value.oneCell']) (hK _ (RT.row hb hB hm.symm)))); simp only [Act.put, List.setIfInBounds_toArray, List.set_cons_succ, List.set_cons_zero, Nat.reduceAdd])
      | ((apply mildR_det0; (· rfl); (· intro W hW K hK; have hW' : Fr [] w10 W := (⟨hW.os, hW.tape, hW.output, hW.size, hW.keep, hW.may⟩ : RT 23 w10.heap.size w10 W).fr (Nat.le_refl _); obtain ⟨d0, d1, d2, d3, d4, d5, d6⟩ := rq_cells (blk_keep HW.out.1 hW' (by simp)); go_simp; exact hK _ (RT.refl _ _ _))); simp only [Act.put, List.setIfInBounds_toArray, List.set_cons_succ, List.set_cons_zero, Nat.reduceAdd])
      | (apply mildR_det0; (· rfl); (· intro W hW K hK; go_simp; exact hK _ (RT.refl _ _ _)); simp only [Act.put, List.setIfInBounds_toArray, List.set_cons_succ, List.set_cons_zero, Nat.reduceAdd]))
    refine mildR_nil ?_
    intro w11 hw11
    have hfw11 : Fr [] w10 w11 := (⟨hw11.os, hw11.tape, hw11.output, hw11.size, hw11.keep, hw11.may⟩ : RT 23 w10.heap.size w10 w11).fr (Nat.le_refl _)
    clear hw11
    simp only [subAll]
    rintro _ ⟨q1, csq1, rfl, h1q1, h2q1, h3q1⟩ _ ⟨bq1, rfl, h4q1⟩
    (try simp only [Act.put, List.setIfInBounds_toArray, List.set_cons_succ, List.set_cons_zero])
    clear h1q1 h2q1 h3q1 h4q1 csq1 HD2
    go_wp2_with fail
    refine wp_region_mildR (RT 26 w11.heap.size) (RT.refl 26 w11.heap.size) (RT.trans 26 w11.heap.size) 13 (by kernel_rfl) (by kernel_rfl) ?_
    simp only [List.take_succ_cons, List.take_zero, List.drop_succ_cons, List.drop_zero, List.take_nil, List.drop_nil]
    repeat (first
      | (apply mildR_det0; (· rfl); (· intro W hW K hK; go_simp; with_reducible exact mild_call (HRP.out W) (fun W' hf => hK W' (RT.of hf))); simp only [Act.put, List.setIfInBounds_toArray, List.set_cons_succ, List.set_cons_zero, Nat.reduceAdd])
      | (apply mildR_det0; (· rfl); (· intro W hW K hK; go_simp; with_reducible exact mild_call (HD4.out W) (fun W' hf => hK W' (RT.of hf))); simp only [Act.put, List.setIfInBounds_toArray, List.set_cons_succ, List.set_cons_zero, Nat.reduceAdd])
      | ((apply mildR_det1; (· rfl); (· intro W hW u hu K hK; obtain ⟨b, rfl, hb⟩ := hu; have hcw := HCV.out W b (by rw [Lib.cell_of_heap hb]; rfl); go_simp; exact hK _ (RT.refl _ _ _))); simp only [Act.put, List.setIfInBounds_toArray, List.set_cons_succ, List.set_cons_zero, Nat.reduceAdd])
      | ((apply mildR_free0 (φ := SlF #[.int .u8 cc] 5 1) (SlF.stableR (by decide)); (· rfl); (· intro W hW K hK; go_simp; exact hK _ _ (RT.of ((Fr.refl _ _).alloc _)) ⟨_, rfl, heap_alloc_new _ _⟩)); simp only [Act.put, List.setIfInBounds_toArray, List.set_cons_succ, List.set_cons_zero, Nat.reduceAdd])
      | ((apply mildR_free0 (φ := PtW 26 w11.heap.size 2) PtW.stable; (· rfl); (· intro W hW K hK; go_simp; exact hK _ _ (RT.of ((Fr.refl _ _).alloc _)) ⟨_, _, rfl, heap_alloc_new _ _, rfl, hW.size⟩)); simp only [Act.put, List.setIfInBounds_toArray, List.set_cons_succ, List.set_cons_zero, Nat.reduceAdd])
      | ((apply mildR_det1; (· rfl); (· intro W hW u hu K hK; obtain ⟨b, cs, rfl, hb, hm, hB⟩ := hu; exact mildAt_store rfl 26 _ _ rfl b #[.int .i64 0, .string ⟨#[]⟩] rfl rfl 26 cs hb infoRp hm (by simp [Value.oneCell']) (hK _ (RT.row hb hB hm.symm)))); simp only [Act.put, List.setIfInBounds_toArray, List.set_cons_succ, List.set_cons_zero, Nat.reduceAdd])
      | ((apply mildR_det0; (· rfl); (· intro W hW K hK; have hW' : Fr [] w11 W := (⟨hW.os, hW.tape, hW.output, hW.size, hW.keep, hW.may⟩ : RT 26 w11.heap.size w11 W).fr (Nat.le_refl _); obtain ⟨d0, d1⟩ := rp_cells (blk_keep HW.out.2.1 (hfw11.then hW') (by simp)); go_simp; exact hK _ (RT.refl _ _ _))); simp only [Act.put, List.setIfInBounds_toArray, List.set_cons_succ, List.set_cons_zero, Nat.reduceAdd])
      | (apply mildR_det0; (· rfl); (· intro W hW K hK; go_simp; exact hK _ (RT.refl _ _ _)); simp only [Act.put, List.setIfInBounds_toArray, List.set_cons_succ, List.set_cons_zero, Nat.reduceAdd]))
    refine mildR_nil ?_
    intro w12 hw12
    have hfw12 : Fr [] w11 w12 := (⟨hw12.os, hw12.tape, hw12.output, hw12.size, hw12.keep, hw12.may⟩ : RT 26 w11.heap.size w11 w12).fr (Nat.le_refl _)
    clear hw12
    simp only [subAll]
    rintro _ ⟨q2, csq2, rfl, h1q2, h2q2, h3q2⟩ _ ⟨bq2, rfl, h4q2⟩
    (try simp only [Act.put, List.setIfInBounds_toArray, List.set_cons_succ, List.set_cons_zero])
    clear h1q2 h2q2 h3q2 h4q2 csq2 HD4
    have hF12 := hfw11.then hfw12
    obtain ⟨x0, x1, x2, x3, x4, x5, x6⟩ := rq_cells (blk_keep HW.out.1 hF12 (by simp))
    have HF := Lib.hid (HW.out.2.2.2.2.then hF12)
    have HH := Lib.hid (And.intro (blk_keep HW.out.1 hF12 (by simp)) (And.intro (blk_keep HW.out.2.1 hF12 (by simp)) (And.intro (blk_keep HW.out.2.2.1 hF12 (by simp)) (blk_keep HW.out.2.2.2.1 hF12 (by simp)))))
    clear hF12 hfw11 hfw12 HW
    go_wp2_with fail
    clear x0 x1 x2 x3 x4 x5 x6
    (with_reducible refine (HCK.out _).mono ?_)
    rintro e w13 ⟨rfl, hf13⟩
    have HF13 := Lib.hid (HF.out.then hf13)
    obtain ⟨x0, x1, x2, x3, x4, x5, x6⟩ := rq_cells (blk_keep HH.out.1 hf13 (by simp))
    obtain ⟨v0, v1⟩ := rp_cells (blk_keep HH.out.2.1 hf13 (by simp))
    obtain ⟨a0, a1, a2, a3, a4, a5, a6⟩ := rq_cells (blk_keep HH.out.2.2.1 hf13 (by simp))
    obtain ⟨b0, b1⟩ := rp_cells (blk_keep HH.out.2.2.2 hf13 (by simp))
    clear HF HH hf13 HCK
    go_wp2_with fail
    go_ret
    exact ⟨rfl, HF13.out⟩
theorem WireBack_walk (w : World) (l : List Value) (hl : FRow [.int .i64, .int .i64, .str, .str, .str, .str, .str] l) (m : List Value) (hm : FRow [.int .i64, .str] m) (c : Int) (hc : Bd .u8 c) :
    Calls Try.prog 5 #[.agg l.toArray, .agg m.toArray, .int .u8 c] w fun e w' => e = .returned (.bool true) ∧ Fr [] w w' := by
  obtain ⟨k, pu, s0, s1, s2, s3, s4, rfl, hs, -, -⟩ := rq_of_row hl
  obtain ⟨c9, t, rfl, ht, -⟩ := rp_of_row hm
  exact WireBack_core w k pu s0 s1 s2 s3 s4 hs c9 t ht c hc
end Go.Proofs.Ytbeoegppldjpoaa
