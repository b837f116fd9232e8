/- The contracts of wire.Read and wire.ReadReply: what is read. -/
import Derived.Test.YtbeoegppldjpoaaWireBytes2
namespace Go.Proofs.Ytbeoegppldjpoaa
open Go.RowKit
set_option linter.unusedVariables false
set_option linter.unusedSimpArgs false

theorem infoRq : (Try.prog.info? 23).map (·.size) = some 7 := by kernel_rfl
theorem infoRp : (Try.prog.info? 26).map (·.size) = some 2 := by kernel_rfl
theorem i64_small {n : Nat} (h : n ≤ 99) : IntKind.i64.wrap (n : Int) = (n : Int) := by rw [IntKind.wrap_i64]; omega
theorem read_end {R : Ending → World → Prop} {tmps : Array Value} {W : World} {b : Nat} {x0 x1 x2 x3 x4 x5 x6 y : Value} (hb : tmps.getD 2 undef = .pointer (some ⟨b, 0, none⟩)) (hy : tmps.getD 3 undef = y) (hc : W.heap[b]? = some (.cells #[x0, x1, x2, x3, x4, x5, x6] 23 (0, 0))) (h : R (.returned (.tuple #[.agg #[x0, x1, x2, x3, x4, x5, x6], y])) W) :
    bodyPost Try.prog Try.f14 R Exit.ret { tmps := tmps, defers := [] } W := by
  have hres : Try.f14.results = #[.cell 2 23, .tmp 3] := by kernel_rfl
  obtain ⟨d0, d1, d2, d3, d4, d5, d6⟩ := rq_cells hc
  refine bodyPost_ret (v := .tuple #[.agg #[x0, x1, x2, x3, x4, x5, x6], y]) ?_ rfl h
  rw [Array.getD_eq_getD_getElem?] at hb hy
  simp only [results, hres]
  go_simp
theorem readReply_end {R : Ending → World → Prop} {tmps : Array Value} {W : World} {b : Nat} {x0 x1 y : Value} (hb : tmps.getD 2 undef = .pointer (some ⟨b, 0, none⟩)) (hy : tmps.getD 3 undef = y) (hc : W.heap[b]? = some (.cells #[x0, x1] 26 (0, 0))) (h : R (.returned (.tuple #[.agg #[x0, x1], y])) W) :
    bodyPost Try.prog Try.f16 R Exit.ret { tmps := tmps, defers := [] } W := by
  have hres : Try.f16.results = #[.cell 2 26, .tmp 3] := by kernel_rfl
  obtain ⟨d0, d1⟩ := rp_cells hc
  refine bodyPost_ret (v := .tuple #[.agg #[x0, x1], y]) ?_ rfl h
  rw [Array.getD_eq_getD_getElem?] at hb hy
  simp only [results, hres]
  go_simp
theorem setRow_fr2 {w W : World} (b : Nat) (vs : Array Value) (h : Fr [] w W) (hb : w.heap.size ≤ b) : Fr [] w (W.setRow b vs) := setRow_fr' b vs h (.inr hb)
theorem RS.set {T : TypeId} {wi : World} {b E j : Nat} {v : Value} {st : Option ByteArray} (h : RS T wi b st) (hE : b ≠ E) : RS T (wi.setCell ⟨E, j, none⟩ v) b st :=
  h.keep ((Fr.refl [E] wi).setCell (.inl (by simp)) v) (by simpa using hE)
theorem blk_other {w : World} {b E j : Nat} {v : Value} {o : Obj} (h : w.heap[b]? = some o) (hE : b ≠ E) : (w.setCell ⟨E, j, none⟩ v).heap[b]? = some o :=
  blk_keep h ((Fr.refl [E] w).setCell (.inl (by simp)) v) (by simpa using hE)

set_option maxHeartbeats 2000000 in
set_option maxRecDepth 100000 in
theorem WReadReply_calls (w : World) (s : ByteArray) (hs : s.size ≤ 140737488351232) :
    Calls Try.prog 16 #[.string s] w fun e w' => e = .returned (.tuple #[.agg #[.int .i64 (replyR s).1.1, .string (replyR s).1.2], .int .i64 (replyR s).2]) ∧ Fr [] w w' := by
  have hq : replyR s = if pEnd (pText (pNum (some s) 99).2 64).2 then ((((pNum (some s) 99).1 : Int), (pText (pNum (some s) 99).2 64).1), 0) else ((0, ⟨#[]⟩), 10) := rfl
  rw [hq]
  clear hq
  have h0 := pNum_size (some s) 99
  have l0 := pNum_lt (some s) 99
  have hn0 := fun W b hr => R_Num_calls W b (some s) 99 (by decide) (by decide) hr (by simp only [Option.getD_some]; omega)
  rw [show (99 : Int).toNat = 99 from rfl] at hn0
  generalize pNum (some s) 99 = p0 at *
  obtain ⟨v0, st0⟩ := p0
  simp only [Option.getD_some] at h0 l0 hn0 ⊢
  have ht1 := fun W b hr => R_Text_calls W b st0 64 (by decide) (by decide) hr (by omega)
  generalize pText st0 64 = p1 at *
  obtain ⟨x1, st1⟩ := p1
  simp only at ht1 ⊢
  have he := fun W b hr => R_End_calls W b st1 hr
  generalize pEnd st1 = pe at *
  have wk := i64_small (n := v0) (by omega)
  have HN := Lib.hid hn0
  have HT := Lib.hid ht1
  have HE := Lib.hid he
  clear hn0 ht1 h0 l0 hs he
  go_enter Try.func16, Try.ntmps16
  go_wp2_with fail
  have hz0 := heap_alloc_new w (.cells #[.int .i64 0, .string ⟨#[]⟩] 26)
  have hF0 : Fr [] w (w.alloc (.cells #[.int .i64 0, .string ⟨#[]⟩] 26)) := (Fr.refl _ _).alloc _
  have hZ : (w.alloc (.cells #[.int .i64 0, .string ⟨#[]⟩] 26)).heap.size = w.heap.size + 1 := by simp
  generalize w.alloc (.cells #[.int .i64 0, .string ⟨#[]⟩] 26) = W0 at *
  (with_reducible refine (pack_Read_calls _ s).mono ?_)
  rintro e w1 ⟨b, rfl, hb, hr1, hf1⟩
  have hz1 := blk_keep hz0 hf1 (by simp)
  have hF1 := hF0.then hf1
  have HBZ := Lib.hid (show w.heap.size ≠ b ∧ w.heap.size ≤ b by omega)
  clear hz0 hF0 hf1 hZ hb
  generalize hZ : w.heap.size = Z at *
  go_wp2_with fail
  (with_reducible refine (HN.out _ _ hr1).mono ?_)
  rintro e w2 ⟨rfl, hr2, hf2⟩
  have hz2 := blk_keep hz1 hf2 (by simpa using HBZ.out.1)
  have hF2 := hF1.trans hf2 (fun i hi => .inr (by simp at hi; have := HBZ.out.2; omega))
  clear hz1 hF1 hr1 hf2 HN
  go_wp2_with fail
  have hE2 := heap_alloc_new w2 (.cells #[.int .i64 v0, .string ⟨#[]⟩] 26)
  have hbE := hr2.lt
  have hzE := lt_of_heap hz2
  have hz2 := alloc_keep (o := .cells #[.int .i64 v0, .string ⟨#[]⟩] 26) hz2
  have hr2 := hr2.keep ((Fr.refl [] w2).alloc (.cells #[.int .i64 v0, .string ⟨#[]⟩] 26)) (by simp)
  have hF2 := hF2.alloc (.cells #[.int .i64 v0, .string ⟨#[]⟩] 26)
  generalize w2.alloc (.cells #[.int .i64 v0, .string ⟨#[]⟩] 26) = W2 at *
  generalize w2.heap.size = E at *
  have HNE := Lib.hid (show b ≠ E ∧ Z ≠ E ∧ Z ≤ E by omega)
  clear hbE hzE
  (with_reducible refine (HT.out _ _ hr2).mono ?_)
  rintro e w3 ⟨rfl, hr3, hf3⟩
  have hz3 := blk_keep hz2 hf3 (by simpa using HBZ.out.1)
  have hE3 := blk_keep hE2 hf3 (by simpa using HNE.out.1.symm)
  have hF3 := hF2.trans hf3 (fun i hi => .inr (by simp at hi; have := HBZ.out.2; omega))
  clear hz2 hF2 hr2 hf3 hE2 HT
  have c1 : w3.cell? ⟨E, 1, none⟩ = some (.string ⟨#[]⟩) := by rw [Lib.cell_of_heap hE3]; rfl
  have f1 : w3.frozen? ⟨E, 1, none⟩ = false := Lib.frozen_of_heap hE3 1
  go_wp2_with fail
  clear c1 f1
  have hE4 : (w3.setCell ⟨E, 1, none⟩ (.string x1)).heap[E]? = some (.cells #[.int .i64 v0, .string x1] 26 (0, 0)) := blk_set 1 _ hE3
  have hz4 := blk_other (j := 1) (v := .string x1) hz3 HNE.out.2.1
  have hr4 := RS.set (j := 1) (v := .string x1) hr3 HNE.out.1
  have hF4 : Fr [] w (w3.setCell ⟨E, 1, none⟩ (.string x1)) := hF3.setCell (.inr (by have := HNE.out.2.2; show w.heap.size ≤ E; omega)) _
  generalize w3.setCell ⟨E, 1, none⟩ (.string x1) = w4 at *
  clear hz3 hr3 hE3 hF3
  (with_reducible refine (HE.out _ b hr4).mono ?_)
  rintro e w5 ⟨rfl, rfl⟩
  obtain ⟨e0, e1⟩ := rp_cells hE4
  obtain ⟨z0, z1⟩ := rp_cells hz4
  have HZ4 := Lib.hid hz4
  have HF4 := Lib.hid hF4
  have HWZ := Lib.hid hZ
  have g0 : w4.frozen? ⟨Z, 0, none⟩ = false := Lib.frozen_of_heap hz4 0
  have g1 : w4.frozen? ⟨Z, 1, none⟩ = false := Lib.frozen_of_heap hz4 1
  clear hr4 hz4 hF4 hE4 hZ
  cases pe
  · go_wp2_with (refine wpList_store_row rfl 26 _ _ rfl Z #[.int .i64 0, .string ⟨#[]⟩] rfl rfl 26 _ HZ4.out infoRp rfl (by simp [Value.oneCell']) ?_)
    refine readReply_end (b := Z) rfl rfl (setRow_heap _ _ _ _ _ _ HZ4.out) ⟨rfl, setRow_fr2 _ _ HF4.out (by have := HWZ.out; omega)⟩
  · go_wp2_with (refine wpList_store_row rfl 26 _ _ rfl Z #[.int .i64 v0, .string x1] rfl rfl 26 _ HZ4.out infoRp rfl (by simp [Value.oneCell']) ?_)
    refine readReply_end (b := Z) rfl rfl (setRow_heap _ _ _ _ _ _ HZ4.out) ⟨rfl, setRow_fr2 _ _ HF4.out (by have := HWZ.out; omega)⟩

end Go.Proofs.Ytbeoegppldjpoaa
