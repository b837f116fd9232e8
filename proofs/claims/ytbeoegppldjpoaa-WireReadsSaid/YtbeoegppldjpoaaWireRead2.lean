/- The contract of wire.Read: what is read. -/
import Derived.Test.YtbeoegppldjpoaaWireRead
namespace Go.Proofs.Ytbeoegppldjpoaa
open Go.RowKit
set_option linter.unusedVariables false
set_option linter.unusedSimpArgs false

set_option maxHeartbeats 4000000 in
set_option maxRecDepth 100000 in
theorem WRead_calls (w : World) (s : ByteArray) (hs : s.size ≤ 140737488351232) :
    Calls Try.prog 14 #[.string s] w fun e w' => e = .returned (.tuple #[(wireR s).1.val, .int .i64 (wireR s).2]) ∧ Fr [] w w' := by
  unfold wireR rqTake Rq.val
  simp only
  have h0 := pNum_size (some s) 16
  have l0 := pNum_lt (some s) 16
  have hn0 := fun W b hr => R_Num_calls W b (some s) 16 (by decide) (by decide) hr (by simp only [Option.getD_some]; omega)
  rw [show (16 : Int).toNat = 16 from rfl] at hn0
  generalize pNum (some s) 16 = p0 at *
  obtain ⟨v0, st0⟩ := p0
  simp only [Option.getD_some] at h0 l0 hn0 ⊢
  have h1 := pNum_size st0 4
  have l1 := pNum_lt st0 4
  have hn1 := fun W b hr => R_Num_calls W b st0 4 (by decide) (by decide) hr (by omega)
  rw [show (4 : Int).toNat = 4 from rfl] at hn1
  generalize pNum st0 4 = p1 at *
  obtain ⟨v1, st1⟩ := p1
  simp only at h1 l1 hn1 ⊢
  have h2 := pText_size st1 20
  have f2 := pText_fst st1 20
  have ht2 := fun W b hr => R_Text_calls W b st1 20 (by decide) (by decide) hr (by omega)
  generalize pText st1 20 = p2 at *
  obtain ⟨x2, st2⟩ := p2
  simp only at h2 f2 ht2 ⊢
  have h3 := pText_size st2 64
  have f3 := pText_fst st2 64
  have ht3 := fun W b hr => R_Text_calls W b st2 64 (by decide) (by decide) hr (by omega)
  generalize pText st2 64 = p3 at *
  obtain ⟨x3, st3⟩ := p3
  simp only at h3 f3 ht3 ⊢
  have h4 := pText_size st3 64
  have f4 := pText_fst st3 64
  have ht4 := fun W b hr => R_Text_calls W b st3 64 (by decide) (by decide) hr (by omega)
  generalize pText st3 64 = p4 at *
  obtain ⟨x4, st4⟩ := p4
  simp only at h4 f4 ht4 ⊢
  have h5 := pText_size st4 64
  have f5 := pText_fst st4 64
  have ht5 := fun W b hr => R_Text_calls W b st4 64 (by decide) (by decide) hr (by omega)
  generalize pText st4 64 = p5 at *
  obtain ⟨x5, st5⟩ := p5
  simp only at h5 f5 ht5 ⊢
  have h6 := pText_size st5 64
  have f6 := pText_fst st5 64
  have ht6 := fun W b hr => R_Text_calls W b st5 64 (by decide) (by decide) hr (by omega)
  generalize pText st5 64 = p6 at *
  obtain ⟨x6, st6⟩ := p6
  simp only at h6 f6 ht6 ⊢
  have he := fun W b hr => R_End_calls W b st6 hr
  generalize pEnd st6 = pe at *
  have wk0 := i64_small (n := v0) (by omega)
  have wk1 := i64_small (n := v1) (by omega)
  have hck := fun W => Check_calls W v0 v1 x2 x3 x4 x5 x6 ⟨by show x2.size ≤ _; simp at f2; omega, by show x3.size ≤ _; simp at f3; omega, by show x4.size ≤ _; simp at f4; omega, by show x5.size ≤ _; simp at f5; omega, by show x6.size ≤ _; simp at f6; omega⟩
  generalize (Rq.mk v0 v1 x2 x3 x4 x5 x6).ok = ok at *
  have HN0 := Lib.hid hn0
  have HN1 := Lib.hid hn1
  have HT2 := Lib.hid ht2
  have HT3 := Lib.hid ht3
  have HT4 := Lib.hid ht4
  have HT5 := Lib.hid ht5
  have HT6 := Lib.hid ht6
  have HE := Lib.hid he
  have HCK := Lib.hid hck
  clear hn0 hn1 ht2 ht3 ht4 ht5 ht6 he hck h0 h1 h2 h3 h4 h5 h6 l0 l1 f2 f3 f4 f5 f6 hs
  go_enter Try.func14, Try.ntmps14
  go_wp2_with fail
  have hz0 := heap_alloc_new w (.cells #[.int .i64 0, .int .i64 0, .string ⟨#[]⟩, .string ⟨#[]⟩, .string ⟨#[]⟩, .string ⟨#[]⟩, .string ⟨#[]⟩] 23)
  have hF0 : Fr [] w (w.alloc (.cells #[.int .i64 0, .int .i64 0, .string ⟨#[]⟩, .string ⟨#[]⟩, .string ⟨#[]⟩, .string ⟨#[]⟩, .string ⟨#[]⟩] 23)) := (Fr.refl _ _).alloc _
  have hZ : (w.alloc (.cells #[.int .i64 0, .int .i64 0, .string ⟨#[]⟩, .string ⟨#[]⟩, .string ⟨#[]⟩, .string ⟨#[]⟩, .string ⟨#[]⟩] 23)).heap.size = w.heap.size + 1 := by simp
  generalize w.alloc (.cells #[.int .i64 0, .int .i64 0, .string ⟨#[]⟩, .string ⟨#[]⟩, .string ⟨#[]⟩, .string ⟨#[]⟩, .string ⟨#[]⟩] 23) = W0 at *
  (with_reducible refine (pack_Read_calls _ s).mono ?_)
  rintro e w1 ⟨b, rfl, hb, hr1, hf1⟩
  have hz1 := blk_keep hz0 hf1 (by simp)
  have hF1 := hF0.then hf1
  have HBZ := Lib.hid (show w.heap.size ≠ b ∧ w.heap.size ≤ b by omega)
  clear hz0 hF0 hf1 hZ hb
  generalize hZ : w.heap.size = Z at *
  go_wp2_with fail
  (with_reducible refine (HN0.out _ _ hr1).mono ?_)
  rintro e w2 ⟨rfl, hr2, hf2⟩
  have hz2 := blk_keep hz1 hf2 (by simpa using HBZ.out.1)
  have hF2 := hF1.trans hf2 (fun i hi => .inr (by simp at hi; have := HBZ.out.2; omega))
  clear hz1 hF1 hr1 hf2 HN0
  go_wp2_with fail
  (with_reducible refine (HN1.out _ _ hr2).mono ?_)
  rintro e w3 ⟨rfl, hr3, hf3⟩
  have hz3 := blk_keep hz2 hf3 (by simpa using HBZ.out.1)
  have hF3 := hF2.trans hf3 (fun i hi => .inr (by simp at hi; have := HBZ.out.2; omega))
  clear hz2 hF2 hr2 hf3 HN1
  go_wp2_with fail
  have hE4 := heap_alloc_new w3 (.cells #[.int .i64 v0, .int .i64 v1, .string ⟨#[]⟩, .string ⟨#[]⟩, .string ⟨#[]⟩, .string ⟨#[]⟩, .string ⟨#[]⟩] 23)
  have hbE := hr3.lt
  have hzE := lt_of_heap hz3
  have hz4 := alloc_keep (o := .cells #[.int .i64 v0, .int .i64 v1, .string ⟨#[]⟩, .string ⟨#[]⟩, .string ⟨#[]⟩, .string ⟨#[]⟩, .string ⟨#[]⟩] 23) hz3
  have hr4 := hr3.keep ((Fr.refl [] w3).alloc (.cells #[.int .i64 v0, .int .i64 v1, .string ⟨#[]⟩, .string ⟨#[]⟩, .string ⟨#[]⟩, .string ⟨#[]⟩, .string ⟨#[]⟩] 23)) (by simp)
  have hF4 := hF3.alloc (.cells #[.int .i64 v0, .int .i64 v1, .string ⟨#[]⟩, .string ⟨#[]⟩, .string ⟨#[]⟩, .string ⟨#[]⟩, .string ⟨#[]⟩] 23)
  generalize w3.alloc (.cells #[.int .i64 v0, .int .i64 v1, .string ⟨#[]⟩, .string ⟨#[]⟩, .string ⟨#[]⟩, .string ⟨#[]⟩, .string ⟨#[]⟩] 23) = w4 at *
  generalize w3.heap.size = E at *
  have HNE := Lib.hid (show b ≠ E ∧ Z ≠ E ∧ Z ≤ E by omega)
  clear hbE hzE hz3 hr3 hF3
  (with_reducible refine (HT2.out _ _ hr4).mono ?_)
  rintro e w5 ⟨rfl, hr5, hf5⟩
  have hz5 := blk_keep hz4 hf5 (by simpa using HBZ.out.1)
  have hE5 := blk_keep hE4 hf5 (by simpa using HNE.out.1.symm)
  have hF5 := hF4.trans hf5 (fun i hi => .inr (by simp at hi; have := HBZ.out.2; omega))
  clear hz4 hF4 hr4 hf5 hE4 HT2
  go_wp2_with fail
  (with_reducible refine (HT3.out _ _ hr5).mono ?_)
  rintro e w6 ⟨rfl, hr6, hf6⟩
  have hz6 := blk_keep hz5 hf6 (by simpa using HBZ.out.1)
  have hE6 := blk_keep hE5 hf6 (by simpa using HNE.out.1.symm)
  have hF6 := hF5.trans hf6 (fun i hi => .inr (by simp at hi; have := HBZ.out.2; omega))
  clear hz5 hF5 hr5 hf6 hE5 HT3
  go_wp2_with fail
  (with_reducible refine (HT4.out _ _ hr6).mono ?_)
  rintro e w7 ⟨rfl, hr7, hf7⟩
  have hz7 := blk_keep hz6 hf7 (by simpa using HBZ.out.1)
  have hE7 := blk_keep hE6 hf7 (by simpa using HNE.out.1.symm)
  have hF7 := hF6.trans hf7 (fun i hi => .inr (by simp at hi; have := HBZ.out.2; omega))
  clear hz6 hF6 hr6 hf7 hE6 HT4
  have c2 : w7.cell? ⟨E, 2, none⟩ = some (.string ⟨#[]⟩) := by rw [Lib.cell_of_heap hE7]; rfl
  have f2 : w7.frozen? ⟨E, 2, none⟩ = false := Lib.frozen_of_heap hE7 2
  have c3 : w7.cell? ⟨E, 3, none⟩ = some (.string ⟨#[]⟩) := by rw [Lib.cell_of_heap hE7]; rfl
  have f3 : w7.frozen? ⟨E, 3, none⟩ = false := Lib.frozen_of_heap hE7 3
  have c4 : w7.cell? ⟨E, 4, none⟩ = some (.string ⟨#[]⟩) := by rw [Lib.cell_of_heap hE7]; rfl
  have f4 : w7.frozen? ⟨E, 4, none⟩ = false := Lib.frozen_of_heap hE7 4
  go_wp2_with fail
  clear c2 c3 c4 f2 f3 f4
  have hE8 : (((w7.setCell ⟨E, 2, none⟩ (.string x2)).setCell ⟨E, 3, none⟩ (.string x3)).setCell ⟨E, 4, none⟩ (.string x4)).heap[E]? = some (.cells #[.int .i64 v0, .int .i64 v1, .string x2, .string x3, .string x4, .string ⟨#[]⟩, .string ⟨#[]⟩] 23 (0, 0)) := (blk_set 4 _ (blk_set 3 _ (blk_set 2 _ hE7)))
  have hz8 := (blk_other (j := 4) (v := .string x4) (blk_other (j := 3) (v := .string x3) (blk_other (j := 2) (v := .string x2) hz7 HNE.out.2.1) HNE.out.2.1) HNE.out.2.1)
  have hr8 := (RS.set (j := 4) (v := .string x4) (RS.set (j := 3) (v := .string x3) (RS.set (j := 2) (v := .string x2) hr7 HNE.out.1) HNE.out.1) HNE.out.1)
  have hF8 : Fr [] w (((w7.setCell ⟨E, 2, none⟩ (.string x2)).setCell ⟨E, 3, none⟩ (.string x3)).setCell ⟨E, 4, none⟩ (.string x4)) := (Fr.setCell (Fr.setCell (Fr.setCell hF7 (p := ⟨E, 2, none⟩) (.inr (by have := HNE.out.2.2; show w.heap.size ≤ E; omega)) (.string x2)) (p := ⟨E, 3, none⟩) (.inr (by have := HNE.out.2.2; show w.heap.size ≤ E; omega)) (.string x3)) (p := ⟨E, 4, none⟩) (.inr (by have := HNE.out.2.2; show w.heap.size ≤ E; omega)) (.string x4))
  generalize (((w7.setCell ⟨E, 2, none⟩ (.string x2)).setCell ⟨E, 3, none⟩ (.string x3)).setCell ⟨E, 4, none⟩ (.string x4)) = w8 at *
  clear hz7 hr7 hE7 hF7
  (with_reducible refine (HT5.out _ _ hr8).mono ?_)
  rintro e w9 ⟨rfl, hr9, hf9⟩
  have hz9 := blk_keep hz8 hf9 (by simpa using HBZ.out.1)
  have hE9 := blk_keep hE8 hf9 (by simpa using HNE.out.1.symm)
  have hF9 := hF8.trans hf9 (fun i hi => .inr (by simp at hi; have := HBZ.out.2; omega))
  clear hz8 hF8 hr8 hf9 hE8 HT5
  go_wp2_with fail
  (with_reducible refine (HT6.out _ _ hr9).mono ?_)
  rintro e w10 ⟨rfl, hr10, hf10⟩
  have hz10 := blk_keep hz9 hf10 (by simpa using HBZ.out.1)
  have hE10 := blk_keep hE9 hf10 (by simpa using HNE.out.1.symm)
  have hF10 := hF9.trans hf10 (fun i hi => .inr (by simp at hi; have := HBZ.out.2; omega))
  clear hz9 hF9 hr9 hf10 hE9 HT6
  have c5 : w10.cell? ⟨E, 5, none⟩ = some (.string ⟨#[]⟩) := by rw [Lib.cell_of_heap hE10]; rfl
  have f5 : w10.frozen? ⟨E, 5, none⟩ = false := Lib.frozen_of_heap hE10 5
  have c6 : w10.cell? ⟨E, 6, none⟩ = some (.string ⟨#[]⟩) := by rw [Lib.cell_of_heap hE10]; rfl
  have f6 : w10.frozen? ⟨E, 6, none⟩ = false := Lib.frozen_of_heap hE10 6
  go_wp2_with fail
  clear c5 c6 f5 f6
  have hE11 : ((w10.setCell ⟨E, 5, none⟩ (.string x5)).setCell ⟨E, 6, none⟩ (.string x6)).heap[E]? = some (.cells #[.int .i64 v0, .int .i64 v1, .string x2, .string x3, .string x4, .string x5, .string x6] 23 (0, 0)) := (blk_set 6 _ (blk_set 5 _ hE10))
  have hz11 := (blk_other (j := 6) (v := .string x6) (blk_other (j := 5) (v := .string x5) hz10 HNE.out.2.1) HNE.out.2.1)
  have hr11 := (RS.set (j := 6) (v := .string x6) (RS.set (j := 5) (v := .string x5) hr10 HNE.out.1) HNE.out.1)
  have hF11 : Fr [] w ((w10.setCell ⟨E, 5, none⟩ (.string x5)).setCell ⟨E, 6, none⟩ (.string x6)) := (Fr.setCell (Fr.setCell hF10 (p := ⟨E, 5, none⟩) (.inr (by have := HNE.out.2.2; show w.heap.size ≤ E; omega)) (.string x5)) (p := ⟨E, 6, none⟩) (.inr (by have := HNE.out.2.2; show w.heap.size ≤ E; omega)) (.string x6))
  generalize ((w10.setCell ⟨E, 5, none⟩ (.string x5)).setCell ⟨E, 6, none⟩ (.string x6)) = w11 at *
  clear hz10 hr10 hE10 hF10
  (with_reducible refine (HE.out _ b hr11).mono ?_)
  rintro e w12 ⟨rfl, rfl⟩
  clear hr11 HE
  cases pe
  · obtain ⟨e0, e1, e2, e3, e4, e5, e6⟩ := rq_cells hE11
    have HZ4 := Lib.hid hz11
    have HF4 := Lib.hid hF11
    have HWZ := Lib.hid hZ
    clear hz11 hF11 hE11 hZ HCK
    go_wp2_with (refine wpList_store_row rfl 23 _ _ rfl Z #[.int .i64 0, .int .i64 0, .string ⟨#[]⟩, .string ⟨#[]⟩, .string ⟨#[]⟩, .string ⟨#[]⟩, .string ⟨#[]⟩] rfl rfl 23 _ HZ4.out infoRq rfl (by simp [Value.oneCell']) ?_)
    refine read_end (b := Z) rfl rfl (setRow_heap _ _ _ _ _ _ HZ4.out) ⟨rfl, setRow_fr2 _ _ HF4.out (by have := HWZ.out; omega)⟩
  · obtain ⟨e0, e1, e2, e3, e4, e5, e6⟩ := rq_cells hE11
    go_wp2_with fail
    (with_reducible refine (HCK.out _).mono ?_)
    rintro e w13 ⟨rfl, hf13⟩
    have hz13 := blk_keep hz11 hf13 (by simp)
    have hE13 := blk_keep hE11 hf13 (by simp)
    have hF13 := hF11.then hf13
    clear e0 e1 e2 e3 e4 e5 e6 hz11 hE11 hF11 hf13 HCK
    obtain ⟨e0, e1, e2, e3, e4, e5, e6⟩ := rq_cells hE13
    have HZ4 := Lib.hid hz13
    have HF4 := Lib.hid hF13
    have HWZ := Lib.hid hZ
    clear hz13 hF13 hE13 hZ
    cases ok
    · go_wp2_with (refine wpList_store_row rfl 23 _ _ rfl Z #[.int .i64 0, .int .i64 0, .string ⟨#[]⟩, .string ⟨#[]⟩, .string ⟨#[]⟩, .string ⟨#[]⟩, .string ⟨#[]⟩] rfl rfl 23 _ HZ4.out infoRq rfl (by simp [Value.oneCell']) ?_)
      refine read_end (b := Z) rfl rfl (setRow_heap _ _ _ _ _ _ HZ4.out) ⟨rfl, setRow_fr2 _ _ HF4.out (by have := HWZ.out; omega)⟩
    · go_wp2_with (refine wpList_store_row rfl 23 _ _ rfl Z #[.int .i64 v0, .int .i64 v1, .string x2, .string x3, .string x4, .string x5, .string x6] rfl rfl 23 _ HZ4.out infoRq rfl (by simp [Value.oneCell']) ?_)
      refine read_end (b := Z) rfl rfl (setRow_heap _ _ _ _ _ _ HZ4.out) ⟨rfl, setRow_fr2 _ _ HF4.out (by have := HWZ.out; omega)⟩

end Go.Proofs.Ytbeoegppldjpoaa
