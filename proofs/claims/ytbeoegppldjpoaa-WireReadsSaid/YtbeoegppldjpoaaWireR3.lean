/- The contracts of the document's Read and ReadReply (layer 19). -/
import Derived.Test.YtbeoegppldjpoaaWireR1
import Derived.Test.YtbeoegppldjpoaaWireRead2
import Derived.Test.YtbeoegppldjpoaaWirePure2
import Derived.Test.YtbeoegppldjpoaaRef03R2
namespace Go.Proofs.Ytbeoegppldjpoaa
open Go.RowKit
set_option linter.unusedVariables false
set_option linter.unusedSimpArgs false

theorem read2_end {R : Ending → World → Prop} {tmps : Array Value} {W : World} {b : Nat} {x0 x1 x2 x3 x4 x5 x6 y : Value} (hb : tmps.getD 2 undef = .pointer (some ⟨b, 0, none⟩)) (hy : tmps.getD 3 undef = y) (hc : W.heap[b]? = some (.cells #[x0, x1, x2, x3, x4, x5, x6] 23 (0, 0))) (h : R (.returned (.tuple #[.agg #[x0, x1, x2, x3, x4, x5, x6], y])) W) :
    bodyPost Try.prog Try.f15 R Exit.ret { tmps := tmps, defers := [] } W := by
  have hres : Try.f15.results = #[.cell 2 23, .tmp 3] := by kernel_rfl
  obtain ⟨d0, d1, d2, d3, d4, d5, d6⟩ := rq_cells hc
  refine bodyPost_ret (v := .tuple #[.agg #[x0, x1, x2, x3, x4, x5, x6], y]) ?_ rfl h
  rw [Array.getD_eq_getD_getElem?] at hb hy
  simp only [results, hres]
  go_simp
theorem readReply2_end {R : Ending → World → Prop} {tmps : Array Value} {W : World} {b : Nat} {x0 x1 y : Value} (hb : tmps.getD 2 undef = .pointer (some ⟨b, 0, none⟩)) (hy : tmps.getD 3 undef = y) (hc : W.heap[b]? = some (.cells #[x0, x1] 26 (0, 0))) (h : R (.returned (.tuple #[.agg #[x0, x1], y])) W) :
    bodyPost Try.prog Try.f17 R Exit.ret { tmps := tmps, defers := [] } W := by
  have hres : Try.f17.results = #[.cell 2 26, .tmp 3] := by kernel_rfl
  obtain ⟨d0, d1⟩ := rp_cells hc
  refine bodyPost_ret (v := .tuple #[.agg #[x0, x1], y]) ?_ rfl h
  rw [Array.getD_eq_getD_getElem?] at hb hy
  simp only [results, hres]
  go_simp

set_option maxHeartbeats 4000000 in
set_option maxRecDepth 100000 in
theorem R19ReadReply (w : World) (s : ByteArray) (hs : s.size ≤ 140737488351232) :
    Calls Try.prog 17 #[.string s] w fun e w' => e = .returned (.tuple #[.agg #[.int .i64 (replyR s).1.1, .string (replyR s).1.2], .int .i64 (replyR s).2]) ∧ Fr [] w w' := by
  unfold replyR rpTake
  simp only
  have h0 := pNum_size (some s) 99
  have l0 := pNum_lt (some s) 99
  have k0 := fun W b hr => R3_NumS_calls W b (some s) 99 (by decide) (by decide) hr (by simp only [Option.getD_some]; omega)
  rw [show (99 : Int).toNat = 99 from rfl] at k0
  generalize pNum (some s) 99 = p0 at *
  obtain ⟨v0, st0⟩ := p0
  simp only [Option.getD_some] at h0 l0 k0 ⊢
  have h1 := pText_size st0 64
  have l1 := pText_fst st0 64
  have k1 := fun W b hr => R3_Text_calls W b st0 64 (by decide) (by decide) hr (by omega)
  generalize pText st0 64 = p1 at *
  obtain ⟨x1, st1⟩ := p1
  simp only at h1 l1 k1 ⊢
  have he := fun W b hr => R3_End_calls W b st1 hr
  generalize pEnd st1 = pe at *
  have wk0 := i64_small (n := v0) (by omega)
  have HK0 := Lib.hid k0
  have HK1 := Lib.hid k1
  have HE := Lib.hid he
  clear he hs k0 h0 l0 k1 h1 l1
  go_enter Try.func17, Try.ntmps17
  go_wp2_with fail
  have hz0 := alloc_keep (o := .cells #[.string s, .bool false] 67) (heap_alloc_new w (.cells #[.int .i64 0, .string ⟨#[]⟩] 26))
  have hr0 := RS.new 67 (w.alloc (.cells #[.int .i64 0, .string ⟨#[]⟩] 26)) s rfl
  have hF0 : Fr [] w ((w.alloc (.cells #[.int .i64 0, .string ⟨#[]⟩] 26)).alloc (.cells #[.string s, .bool false] 67)) := ((Fr.refl _ _).alloc _).alloc _
  have hsz : (w.alloc (.cells #[.int .i64 0, .string ⟨#[]⟩] 26)).heap.size = w.heap.size + 1 := by simp
  rw [hsz] at hr0
  (try rw [hsz])
  generalize (w.alloc (.cells #[.int .i64 0, .string ⟨#[]⟩] 26)).alloc (.cells #[.string s, .bool false] 67) = W0 at *
  have HBZ := Lib.hid (show w.heap.size ≠ w.heap.size + 1 ∧ w.heap.size ≤ w.heap.size + 1 by omega)
  clear hsz
  generalize w.heap.size + 1 = b at *
  generalize hZ : w.heap.size = Z at *
  (with_reducible refine (HK0.out _ _ hr0).mono ?_)
  rintro e w1 ⟨rfl, hr1, hf1⟩
  have hz1 := blk_keep hz0 hf1 (by simpa using HBZ.out.1)
  have hF1 := hF0.trans hf1 (fun i hi => .inr (by simp at hi; have := HBZ.out.2; omega))
  clear hz0 hF0 hr0 hf1 HK0
  go_wp2_with fail
  have hE := heap_alloc_new w1 (.cells #[.int .i64 v0, .string ⟨#[]⟩] 26)
  have hbE := hr1.lt
  have hzE := lt_of_heap hz1
  have hz1 := alloc_keep (o := .cells #[.int .i64 v0, .string ⟨#[]⟩] 26) hz1
  have hr1 := hr1.keep ((Fr.refl [] w1).alloc (.cells #[.int .i64 v0, .string ⟨#[]⟩] 26)) (by simp)
  have hF1 := hF1.alloc (.cells #[.int .i64 v0, .string ⟨#[]⟩] 26)
  generalize w1.alloc (.cells #[.int .i64 v0, .string ⟨#[]⟩] 26) = W1 at *
  generalize w1.heap.size = E at *
  have HNE := Lib.hid (show b ≠ E ∧ Z ≠ E ∧ Z ≤ E by omega)
  clear hbE hzE
  (with_reducible refine (HK1.out _ _ hr1).mono ?_)
  rintro e wn ⟨rfl, hr2, hfn⟩
  have hz2 := blk_keep hz1 hfn (by simpa using HBZ.out.1)
  have hE2 := blk_keep hE hfn (by simpa using HNE.out.1.symm)
  have hF2 := hF1.trans hfn (fun i hi => .inr (by simp at hi; have := HBZ.out.2; omega))
  clear hz1 hF1 hr1 hE hfn HK1
  have c1 : wn.cell? ⟨E, 1, none⟩ = some (.string ⟨#[]⟩) := by rw [Lib.cell_of_heap hE2]; rfl
  have f1 : wn.frozen? ⟨E, 1, none⟩ = false := Lib.frozen_of_heap hE2 1
  go_wp2_with fail
  clear c1 f1
  have hE : (wn.setCell ⟨E, 1, none⟩ (.string x1)).heap[E]? = some (.cells #[.int .i64 v0, .string x1] 26 (0, 0)) := blk_set 1 _ hE2
  have hz1 := blk_other (j := 1) (v := .string x1) hz2 HNE.out.2.1
  have hr1 := RS.set (j := 1) (v := .string x1) hr2 HNE.out.1
  have hF1 : Fr [] w (wn.setCell ⟨E, 1, none⟩ (.string x1)) := hF2.setCell (.inr (by have := HNE.out.2.2; show w.heap.size ≤ E; omega)) _
  generalize wn.setCell ⟨E, 1, none⟩ (.string x1) = W2 at *
  clear hE2 hz2 hr2 hF2
  (with_reducible refine (HE.out _ b hr1).mono ?_)
  rintro e w12 ⟨rfl, rfl⟩
  clear hr1 HE
  obtain ⟨e0, e1⟩ := rp_cells hE
  have HZ4 := Lib.hid hz1
  have HF4 := Lib.hid hF1
  have HWZ := Lib.hid hZ
  clear hz1 hF1 hE hZ
  cases pe
  · go_wp2_with (refine wpList_store_row rfl 26 _ _ rfl Z #[.int .i64 0, .string ⟨#[]⟩] rfl rfl 26 _ HZ4.out infoRp rfl (by simp [Value.oneCell']) ?_)
    refine readReply2_end (b := Z) rfl rfl (setRow_heap _ _ _ _ _ _ HZ4.out) ⟨rfl, setRow_fr2 _ _ HF4.out (by have := HWZ.out; omega)⟩
  · go_wp2_with (refine wpList_store_row rfl 26 _ _ rfl Z #[.int .i64 v0, .string x1] rfl rfl 26 _ HZ4.out infoRp rfl (by simp [Value.oneCell']) ?_)
    refine readReply2_end (b := Z) rfl rfl (setRow_heap _ _ _ _ _ _ HZ4.out) ⟨rfl, setRow_fr2 _ _ HF4.out (by have := HWZ.out; omega)⟩

set_option maxHeartbeats 4000000 in
set_option maxRecDepth 100000 in
theorem R19Read (w : World) (s : ByteArray) (hs : s.size ≤ 140737488351232) :
    Calls Try.prog 15 #[.string s] w fun e w' => e = .returned (.tuple #[(wireR2 s).1.val, .int .i64 (wireR2 s).2]) ∧ Fr [] w w' := by
  unfold wireR2 rqTake2 Rq.val
  simp only
  have h0 := pNum_size (some s) 99
  have l0 := pNum_lt (some s) 99
  have k0 := fun W b hr => R3_NumS_calls W b (some s) 99 (by decide) (by decide) hr (by simp only [Option.getD_some]; omega)
  rw [show (99 : Int).toNat = 99 from rfl] at k0
  generalize pNum (some s) 99 = p0 at *
  obtain ⟨v0, st0⟩ := p0
  simp only [Option.getD_some] at h0 l0 k0 ⊢
  have h1 := pNum_size st0 99
  have l1 := pNum_lt st0 99
  have k1 := fun W b hr => R3_NumS_calls W b st0 99 (by decide) (by decide) hr (by omega)
  rw [show (99 : Int).toNat = 99 from rfl] at k1
  generalize pNum st0 99 = p1 at *
  obtain ⟨v1, st1⟩ := p1
  simp only at h1 l1 k1 ⊢
  have h2 := pText_size st1 99
  have l2 := pText_fst st1 99
  have k2 := fun W b hr => R3_Text_calls W b st1 99 (by decide) (by decide) hr (by omega)
  generalize pText st1 99 = p2 at *
  obtain ⟨x2, st2⟩ := p2
  simp only at h2 l2 k2 ⊢
  have h3 := pText_size st2 99
  have l3 := pText_fst st2 99
  have k3 := fun W b hr => R3_Text_calls W b st2 99 (by decide) (by decide) hr (by omega)
  generalize pText st2 99 = p3 at *
  obtain ⟨x3, st3⟩ := p3
  simp only at h3 l3 k3 ⊢
  have h4 := pText_size st3 99
  have l4 := pText_fst st3 99
  have k4 := fun W b hr => R3_Text_calls W b st3 99 (by decide) (by decide) hr (by omega)
  generalize pText st3 99 = p4 at *
  obtain ⟨x4, st4⟩ := p4
  simp only at h4 l4 k4 ⊢
  have h5 := pText_size st4 99
  have l5 := pText_fst st4 99
  have k5 := fun W b hr => R3_Text_calls W b st4 99 (by decide) (by decide) hr (by omega)
  generalize pText st4 99 = p5 at *
  obtain ⟨x5, st5⟩ := p5
  simp only at h5 l5 k5 ⊢
  have h6 := pText_size st5 99
  have l6 := pText_fst st5 99
  have k6 := fun W b hr => R3_Text_calls W b st5 99 (by decide) (by decide) hr (by omega)
  generalize pText st5 99 = p6 at *
  obtain ⟨x6, st6⟩ := p6
  simp only at h6 l6 k6 ⊢
  have he := fun W b hr => R3_End_calls W b st6 hr
  generalize pEnd st6 = pe at *
  have wk0 := i64_small (n := v0) (by omega)
  have wk1 := i64_small (n := v1) (by omega)
  have hck := fun W => R19Check W v0 v1 x2 x3 x4 x5 x6 ⟨by show x2.size ≤ _; simp at l2; omega, by show x3.size ≤ _; simp at l3; omega, by show x4.size ≤ _; simp at l4; omega, by show x5.size ≤ _; simp at l5; omega, by show x6.size ≤ _; simp at l6; omega⟩
  generalize (Rq.mk v0 v1 x2 x3 x4 x5 x6).ok = ok at *
  have HCK := Lib.hid hck
  clear hck
  have HK0 := Lib.hid k0
  have HK1 := Lib.hid k1
  have HK2 := Lib.hid k2
  have HK3 := Lib.hid k3
  have HK4 := Lib.hid k4
  have HK5 := Lib.hid k5
  have HK6 := Lib.hid k6
  have HE := Lib.hid he
  clear he hs k0 h0 l0 k1 h1 l1 k2 h2 l2 k3 h3 l3 k4 h4 l4 k5 h5 l5 k6 h6 l6
  go_enter Try.func15, Try.ntmps15
  go_wp2_with fail
  have hz0 := alloc_keep (o := .cells #[.string s, .bool false] 67) (heap_alloc_new w (.cells #[.int .i64 0, .int .i64 0, .string ⟨#[]⟩, .string ⟨#[]⟩, .string ⟨#[]⟩, .string ⟨#[]⟩, .string ⟨#[]⟩] 23))
  have hr0 := RS.new 67 (w.alloc (.cells #[.int .i64 0, .int .i64 0, .string ⟨#[]⟩, .string ⟨#[]⟩, .string ⟨#[]⟩, .string ⟨#[]⟩, .string ⟨#[]⟩] 23)) s rfl
  have hF0 : Fr [] w ((w.alloc (.cells #[.int .i64 0, .int .i64 0, .string ⟨#[]⟩, .string ⟨#[]⟩, .string ⟨#[]⟩, .string ⟨#[]⟩, .string ⟨#[]⟩] 23)).alloc (.cells #[.string s, .bool false] 67)) := ((Fr.refl _ _).alloc _).alloc _
  have hsz : (w.alloc (.cells #[.int .i64 0, .int .i64 0, .string ⟨#[]⟩, .string ⟨#[]⟩, .string ⟨#[]⟩, .string ⟨#[]⟩, .string ⟨#[]⟩] 23)).heap.size = w.heap.size + 1 := by simp
  rw [hsz] at hr0
  (try rw [hsz])
  generalize (w.alloc (.cells #[.int .i64 0, .int .i64 0, .string ⟨#[]⟩, .string ⟨#[]⟩, .string ⟨#[]⟩, .string ⟨#[]⟩, .string ⟨#[]⟩] 23)).alloc (.cells #[.string s, .bool false] 67) = W0 at *
  have HBZ := Lib.hid (show w.heap.size ≠ w.heap.size + 1 ∧ w.heap.size ≤ w.heap.size + 1 by omega)
  clear hsz
  generalize w.heap.size + 1 = b at *
  generalize hZ : w.heap.size = Z at *
  (with_reducible refine (HK0.out _ _ hr0).mono ?_)
  rintro e w1 ⟨rfl, hr1, hf1⟩
  have hz1 := blk_keep hz0 hf1 (by simpa using HBZ.out.1)
  have hF1 := hF0.trans hf1 (fun i hi => .inr (by simp at hi; have := HBZ.out.2; omega))
  clear hz0 hF0 hr0 hf1 HK0
  go_wp2_with fail
  have hE := heap_alloc_new w1 (.cells #[.int .i64 v0, .int .i64 0, .string ⟨#[]⟩, .string ⟨#[]⟩, .string ⟨#[]⟩, .string ⟨#[]⟩, .string ⟨#[]⟩] 23)
  have hbE := hr1.lt
  have hzE := lt_of_heap hz1
  have hz1 := alloc_keep (o := .cells #[.int .i64 v0, .int .i64 0, .string ⟨#[]⟩, .string ⟨#[]⟩, .string ⟨#[]⟩, .string ⟨#[]⟩, .string ⟨#[]⟩] 23) hz1
  have hr1 := hr1.keep ((Fr.refl [] w1).alloc (.cells #[.int .i64 v0, .int .i64 0, .string ⟨#[]⟩, .string ⟨#[]⟩, .string ⟨#[]⟩, .string ⟨#[]⟩, .string ⟨#[]⟩] 23)) (by simp)
  have hF1 := hF1.alloc (.cells #[.int .i64 v0, .int .i64 0, .string ⟨#[]⟩, .string ⟨#[]⟩, .string ⟨#[]⟩, .string ⟨#[]⟩, .string ⟨#[]⟩] 23)
  generalize w1.alloc (.cells #[.int .i64 v0, .int .i64 0, .string ⟨#[]⟩, .string ⟨#[]⟩, .string ⟨#[]⟩, .string ⟨#[]⟩, .string ⟨#[]⟩] 23) = W1 at *
  generalize w1.heap.size = E at *
  have HNE := Lib.hid (show b ≠ E ∧ Z ≠ E ∧ Z ≤ E by omega)
  clear hbE hzE
  (with_reducible refine (HK1.out _ _ hr1).mono ?_)
  rintro e wn ⟨rfl, hr2, hfn⟩
  have hz2 := blk_keep hz1 hfn (by simpa using HBZ.out.1)
  have hE2 := blk_keep hE hfn (by simpa using HNE.out.1.symm)
  have hF2 := hF1.trans hfn (fun i hi => .inr (by simp at hi; have := HBZ.out.2; omega))
  clear hz1 hF1 hr1 hE hfn HK1
  have c1 : wn.cell? ⟨E, 1, none⟩ = some (.int .i64 0) := by rw [Lib.cell_of_heap hE2]; rfl
  have f1 : wn.frozen? ⟨E, 1, none⟩ = false := Lib.frozen_of_heap hE2 1
  go_wp2_with fail
  clear c1 f1
  have hE : (wn.setCell ⟨E, 1, none⟩ (.int .i64 v1)).heap[E]? = some (.cells #[.int .i64 v0, .int .i64 v1, .string ⟨#[]⟩, .string ⟨#[]⟩, .string ⟨#[]⟩, .string ⟨#[]⟩, .string ⟨#[]⟩] 23 (0, 0)) := blk_set 1 _ hE2
  have hz1 := blk_other (j := 1) (v := .int .i64 v1) hz2 HNE.out.2.1
  have hr1 := RS.set (j := 1) (v := .int .i64 v1) hr2 HNE.out.1
  have hF1 : Fr [] w (wn.setCell ⟨E, 1, none⟩ (.int .i64 v1)) := hF2.setCell (.inr (by have := HNE.out.2.2; show w.heap.size ≤ E; omega)) _
  generalize wn.setCell ⟨E, 1, none⟩ (.int .i64 v1) = W2 at *
  clear hE2 hz2 hr2 hF2
  (with_reducible refine (HK2.out _ _ hr1).mono ?_)
  rintro e wn ⟨rfl, hr2, hfn⟩
  have hz2 := blk_keep hz1 hfn (by simpa using HBZ.out.1)
  have hE2 := blk_keep hE hfn (by simpa using HNE.out.1.symm)
  have hF2 := hF1.trans hfn (fun i hi => .inr (by simp at hi; have := HBZ.out.2; omega))
  clear hz1 hF1 hr1 hE hfn HK2
  have c1 : wn.cell? ⟨E, 2, none⟩ = some (.string ⟨#[]⟩) := by rw [Lib.cell_of_heap hE2]; rfl
  have f1 : wn.frozen? ⟨E, 2, none⟩ = false := Lib.frozen_of_heap hE2 2
  go_wp2_with fail
  clear c1 f1
  have hE : (wn.setCell ⟨E, 2, none⟩ (.string x2)).heap[E]? = some (.cells #[.int .i64 v0, .int .i64 v1, .string x2, .string ⟨#[]⟩, .string ⟨#[]⟩, .string ⟨#[]⟩, .string ⟨#[]⟩] 23 (0, 0)) := blk_set 2 _ hE2
  have hz1 := blk_other (j := 2) (v := .string x2) hz2 HNE.out.2.1
  have hr1 := RS.set (j := 2) (v := .string x2) hr2 HNE.out.1
  have hF1 : Fr [] w (wn.setCell ⟨E, 2, none⟩ (.string x2)) := hF2.setCell (.inr (by have := HNE.out.2.2; show w.heap.size ≤ E; omega)) _
  generalize wn.setCell ⟨E, 2, none⟩ (.string x2) = W3 at *
  clear hE2 hz2 hr2 hF2
  (with_reducible refine (HK3.out _ _ hr1).mono ?_)
  rintro e wn ⟨rfl, hr2, hfn⟩
  have hz2 := blk_keep hz1 hfn (by simpa using HBZ.out.1)
  have hE2 := blk_keep hE hfn (by simpa using HNE.out.1.symm)
  have hF2 := hF1.trans hfn (fun i hi => .inr (by simp at hi; have := HBZ.out.2; omega))
  clear hz1 hF1 hr1 hE hfn HK3
  have c1 : wn.cell? ⟨E, 3, none⟩ = some (.string ⟨#[]⟩) := by rw [Lib.cell_of_heap hE2]; rfl
  have f1 : wn.frozen? ⟨E, 3, none⟩ = false := Lib.frozen_of_heap hE2 3
  go_wp2_with fail
  clear c1 f1
  have hE : (wn.setCell ⟨E, 3, none⟩ (.string x3)).heap[E]? = some (.cells #[.int .i64 v0, .int .i64 v1, .string x2, .string x3, .string ⟨#[]⟩, .string ⟨#[]⟩, .string ⟨#[]⟩] 23 (0, 0)) := blk_set 3 _ hE2
  have hz1 := blk_other (j := 3) (v := .string x3) hz2 HNE.out.2.1
  have hr1 := RS.set (j := 3) (v := .string x3) hr2 HNE.out.1
  have hF1 : Fr [] w (wn.setCell ⟨E, 3, none⟩ (.string x3)) := hF2.setCell (.inr (by have := HNE.out.2.2; show w.heap.size ≤ E; omega)) _
  generalize wn.setCell ⟨E, 3, none⟩ (.string x3) = W4 at *
  clear hE2 hz2 hr2 hF2
  (with_reducible refine (HK4.out _ _ hr1).mono ?_)
  rintro e wn ⟨rfl, hr2, hfn⟩
  have hz2 := blk_keep hz1 hfn (by simpa using HBZ.out.1)
  have hE2 := blk_keep hE hfn (by simpa using HNE.out.1.symm)
  have hF2 := hF1.trans hfn (fun i hi => .inr (by simp at hi; have := HBZ.out.2; omega))
  clear hz1 hF1 hr1 hE hfn HK4
  have c1 : wn.cell? ⟨E, 4, none⟩ = some (.string ⟨#[]⟩) := by rw [Lib.cell_of_heap hE2]; rfl
  have f1 : wn.frozen? ⟨E, 4, none⟩ = false := Lib.frozen_of_heap hE2 4
  go_wp2_with fail
  clear c1 f1
  have hE : (wn.setCell ⟨E, 4, none⟩ (.string x4)).heap[E]? = some (.cells #[.int .i64 v0, .int .i64 v1, .string x2, .string x3, .string x4, .string ⟨#[]⟩, .string ⟨#[]⟩] 23 (0, 0)) := blk_set 4 _ hE2
  have hz1 := blk_other (j := 4) (v := .string x4) hz2 HNE.out.2.1
  have hr1 := RS.set (j := 4) (v := .string x4) hr2 HNE.out.1
  have hF1 : Fr [] w (wn.setCell ⟨E, 4, none⟩ (.string x4)) := hF2.setCell (.inr (by have := HNE.out.2.2; show w.heap.size ≤ E; omega)) _
  generalize wn.setCell ⟨E, 4, none⟩ (.string x4) = W5 at *
  clear hE2 hz2 hr2 hF2
  (with_reducible refine (HK5.out _ _ hr1).mono ?_)
  rintro e wn ⟨rfl, hr2, hfn⟩
  have hz2 := blk_keep hz1 hfn (by simpa using HBZ.out.1)
  have hE2 := blk_keep hE hfn (by simpa using HNE.out.1.symm)
  have hF2 := hF1.trans hfn (fun i hi => .inr (by simp at hi; have := HBZ.out.2; omega))
  clear hz1 hF1 hr1 hE hfn HK5
  have c1 : wn.cell? ⟨E, 5, none⟩ = some (.string ⟨#[]⟩) := by rw [Lib.cell_of_heap hE2]; rfl
  have f1 : wn.frozen? ⟨E, 5, none⟩ = false := Lib.frozen_of_heap hE2 5
  go_wp2_with fail
  clear c1 f1
  have hE : (wn.setCell ⟨E, 5, none⟩ (.string x5)).heap[E]? = some (.cells #[.int .i64 v0, .int .i64 v1, .string x2, .string x3, .string x4, .string x5, .string ⟨#[]⟩] 23 (0, 0)) := blk_set 5 _ hE2
  have hz1 := blk_other (j := 5) (v := .string x5) hz2 HNE.out.2.1
  have hr1 := RS.set (j := 5) (v := .string x5) hr2 HNE.out.1
  have hF1 : Fr [] w (wn.setCell ⟨E, 5, none⟩ (.string x5)) := hF2.setCell (.inr (by have := HNE.out.2.2; show w.heap.size ≤ E; omega)) _
  generalize wn.setCell ⟨E, 5, none⟩ (.string x5) = W6 at *
  clear hE2 hz2 hr2 hF2
  (with_reducible refine (HK6.out _ _ hr1).mono ?_)
  rintro e wn ⟨rfl, hr2, hfn⟩
  have hz2 := blk_keep hz1 hfn (by simpa using HBZ.out.1)
  have hE2 := blk_keep hE hfn (by simpa using HNE.out.1.symm)
  have hF2 := hF1.trans hfn (fun i hi => .inr (by simp at hi; have := HBZ.out.2; omega))
  clear hz1 hF1 hr1 hE hfn HK6
  have c1 : wn.cell? ⟨E, 6, none⟩ = some (.string ⟨#[]⟩) := by rw [Lib.cell_of_heap hE2]; rfl
  have f1 : wn.frozen? ⟨E, 6, none⟩ = false := Lib.frozen_of_heap hE2 6
  have hE9 : (wn.setCell ⟨E, 6, none⟩ (.string x6)).heap[E]? = some (.cells #[.int .i64 v0, .int .i64 v1, .string x2, .string x3, .string x4, .string x5, .string x6] 23 (0, 0)) := blk_set 6 _ hE2
  obtain ⟨e0, e1, e2, e3, e4, e5, e6⟩ := rq_cells hE9
  go_wp2_with fail
  clear c1 f1 e0 e1 e2 e3 e4 e5 e6 hE9
  have hE : (wn.setCell ⟨E, 6, none⟩ (.string x6)).heap[E]? = some (.cells #[.int .i64 v0, .int .i64 v1, .string x2, .string x3, .string x4, .string x5, .string x6] 23 (0, 0)) := blk_set 6 _ hE2
  have hz1 := blk_other (j := 6) (v := .string x6) hz2 HNE.out.2.1
  have hr1 := RS.set (j := 6) (v := .string x6) hr2 HNE.out.1
  have hF1 : Fr [] w (wn.setCell ⟨E, 6, none⟩ (.string x6)) := hF2.setCell (.inr (by have := HNE.out.2.2; show w.heap.size ≤ E; omega)) _
  generalize wn.setCell ⟨E, 6, none⟩ (.string x6) = W7 at *
  clear hE2 hz2 hr2 hF2
  (with_reducible refine (HCK.out _).mono ?_)
  rintro e wc ⟨rfl, hfc⟩
  have hz1 := blk_keep hz1 hfc (by simp)
  have hE := blk_keep hE hfc (by simp)
  have hr1 := hr1.keep hfc (by simp)
  have hF1 := hF1.then hfc
  clear hfc HCK
  go_wp2_with fail
  (with_reducible refine (HE.out _ b hr1).mono ?_)
  rintro e w12 ⟨rfl, rfl⟩
  clear hr1 HE
  obtain ⟨e0, e1, e2, e3, e4, e5, e6⟩ := rq_cells hE
  have HZ4 := Lib.hid hz1
  have HF4 := Lib.hid hF1
  have HWZ := Lib.hid hZ
  clear hz1 hF1 hE hZ
  cases pe
  · go_wp2_with (refine wpList_store_row rfl 23 _ _ rfl Z #[.int .i64 0, .int .i64 0, .string ⟨#[]⟩, .string ⟨#[]⟩, .string ⟨#[]⟩, .string ⟨#[]⟩, .string ⟨#[]⟩] rfl rfl 23 _ HZ4.out infoRq rfl (by simp [Value.oneCell']) ?_)
    refine read2_end (b := Z) rfl rfl (setRow_heap _ _ _ _ _ _ HZ4.out) ⟨rfl, setRow_fr2 _ _ HF4.out (by have := HWZ.out; omega)⟩
  cases ok
  · go_wp2_with (refine wpList_store_row rfl 23 _ _ rfl Z #[.int .i64 0, .int .i64 0, .string ⟨#[]⟩, .string ⟨#[]⟩, .string ⟨#[]⟩, .string ⟨#[]⟩, .string ⟨#[]⟩] rfl rfl 23 _ HZ4.out infoRq rfl (by simp [Value.oneCell']) ?_)
    refine read2_end (b := Z) rfl rfl (setRow_heap _ _ _ _ _ _ HZ4.out) ⟨rfl, setRow_fr2 _ _ HF4.out (by have := HWZ.out; omega)⟩
  · go_wp2_with (refine wpList_store_row rfl 23 _ _ rfl Z #[.int .i64 v0, .int .i64 v1, .string x2, .string x3, .string x4, .string x5, .string x6] rfl rfl 23 _ HZ4.out infoRq rfl (by simp [Value.oneCell']) ?_)
    refine read2_end (b := Z) rfl rfl (setRow_heap _ _ _ _ _ _ HZ4.out) ⟨rfl, setRow_fr2 _ _ HF4.out (by have := HWZ.out; omega)⟩
end Go.Proofs.Ytbeoegppldjpoaa
