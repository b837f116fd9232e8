/- The law WireClean: for any request and any number the Go function returns true (its walk). -/
import Derived.Test.YtbeoegppldjpoaaDoorWCleanP
import Derived.Test.YtbeoegppldjpoaaDoorWireFits
import Derived.Test.YtbeoegppldjpoaaDoorMask
import Derived.Laws.StructEq
import Derived.Deep.CutRange
namespace Go.Proofs.YtbeoegppldjpoaaDoor
open Go.RowKit
set_option linter.unusedVariables false
set_option linter.unusedSimpArgs false

theorem i64_and1 (n : Int) : bits .and .i64 n 1 = n % 2 := by
  have h127 : (BitVec.ofInt 64 1).toNat = 2 ^ 1 - 1 := by decide
  have key : (BitVec.ofInt 64 n &&& BitVec.ofInt 64 1).toNat = (n % ((2 ^ 64 : Nat) : Int)).toNat % 2 ^ 1 := by
    rw [BitVec.toNat_and, BitVec.toNat_ofInt, h127, Nat.and_two_pow_sub_one_eq_mod]
  show IntKind.i64.wrap ((BitVec.ofInt 64 n &&& BitVec.ofInt 64 1).toNat : Nat) = n % 2
  rw [key, IntKind.wrap_i64]
  omega
theorem i64_and2 (n : Int) (h : n % 4 = 3) : bits .and .i64 n 2 = 2 := by
  have h127 : (BitVec.ofInt 64 3).toNat = 2 ^ 2 - 1 := by decide
  have key : (BitVec.ofInt 64 n &&& BitVec.ofInt 64 3).toNat = 3 := by
    rw [BitVec.toNat_and, BitVec.toNat_ofInt, h127, Nat.and_two_pow_sub_one_eq_mod]
    omega
  have k2 : BitVec.ofInt 64 n &&& BitVec.ofInt 64 3 = BitVec.ofInt 64 3 := BitVec.eq_of_toNat_eq (key.trans (by decide))
  have k3 : BitVec.ofInt 64 n &&& BitVec.ofInt 64 2 = BitVec.ofInt 64 2 := by
    rw [show BitVec.ofInt 64 2 = BitVec.ofInt 64 3 &&& BitVec.ofInt 64 2 from by decide, ← BitVec.and_assoc, k2]
  show IntKind.i64.wrap ((BitVec.ofInt 64 n &&& BitVec.ofInt 64 2).toNat : Nat) = 2
  rw [k3]
  decide
theorem pickS_no {m : Bool} {t s : ByteArray} (h : ¬ (m = true ∧ s.size ≠ 0)) : pickS m t s = s := if_neg (by simp only [Bool.and_eq_true, decide_eq_true_eq]; exact h)
theorem pickS_yes {t s : ByteArray} (h : s.size ≠ 0) : pickS true t s = t := if_pos (by simp only [Bool.and_eq_true, decide_eq_true_eq]; exact ⟨trivial, h⟩)
/-- What the law's tests are. -/
theorem clean_facts {k pu : Int} {so ma ot se pa : ByteArray} (h : (Rq.mk k pu so ma ot se pa).ok = true) (g : Int) {G1 G2 G3 : Int} (h1 : bits .and .i64 g 1 = G1) (h2 : bits .and .i64 g 2 = G2) (h3 : bits .and .i64 g 3 = G3) {y3 y4 : ByteArray} (e3 : y3 = pickS (decide (G1 = 1)) annIn ma) (e4 : y4 = pickS (decide (G2 = 2)) bobIn ot) :
    (Rq.mk k pu so y3 y4 se pa).ok = true ∧ (G1 = 0 ∨ G1 = 1) ∧
    ((cleanRq ⟨k, pu, so, y3, y4, se, pa⟩ = (rqNo, false) ∧ G3 ≠ 3) ∨
      ∃ a3 a4, cleanRq ⟨k, pu, so, y3, y4, se, pa⟩ = (⟨k, pu, so, a3, a4, se, pa⟩, true) ∧ (Rq.mk k pu so a3 a4 se pa).ok = true ∧ cleanRq ⟨k, pu, so, a3, a4, se, pa⟩ = (⟨k, pu, so, a3, a4, se, pa⟩, true) ∧ (G1 = 1 → y3.size ≠ 0 → a3 = annOut)) := by
  subst e3 e4
  have ho := good_ok h (decide (G1 = 1)) (decide (G2 = 2))
  rw [i64_and1] at h1
  refine ⟨ho, by omega, ?_⟩
  rcases cleanRq_cases _ ho with hc | ⟨a3, a4, c1, c2, hc, ho2, hc2⟩
  · refine .inl ⟨hc, fun hg => ?_⟩
    rw [i64_and3] at h3
    have g1 : G1 = 1 := by omega
    have g2 : G2 = 2 := h2.symm.trans (i64_and2 g (by omega))
    rw [decide_eq_true g1, decide_eq_true g2] at hc
    have := good_clean h
    rw [hc] at this
    cases this
  · refine .inr ⟨a3, a4, hc, ho2, hc2, fun g1 h0 => ?_⟩
    simp only at c1
    rw [decide_eq_true g1] at c1 h0
    exact good_ma h c1 (fun e => h0 ((pick_size true ma).symm ▸ e))
set_option maxHeartbeats 4000000 in
set_option maxRecDepth 100000 in
theorem WireClean_core (w : World) (hM : ML w) (k pu : Int) (so ma ot se pa : ByteArray) (hs : (Rq.mk k pu so ma ot se pa).short 9223372036854775807) (g : Int) :
    Calls Tryd.prog 3 #[.agg #[.int .i64 k, .int .i64 pu, .string so, .string ma, .string ot, .string se, .string pa], .int .i64 g] w fun e w' => e = .returned (.bool true) ∧ Fr [] w w' := by
  obtain ⟨xk, xpu, y0, y1, y2, y3, y4, l0, l1, l2, l3, l4, lk, lpu, hok, -, hless, hmade⟩ := xmade_calls k pu so ma ot se pa hs
  obtain ⟨G1, h1⟩ : ∃ G1, bits .and .i64 g 1 = G1 := ⟨_, rfl⟩
  obtain ⟨G2, h2⟩ : ∃ G2, bits .and .i64 g 2 = G2 := ⟨_, rfl⟩
  obtain ⟨G3, h3⟩ : ∃ G3, bits .and .i64 g 3 = G3 := ⟨_, rfl⟩
  obtain ⟨m, em⟩ : ∃ m, m = pickS (decide (G1 = 1)) annIn y1 := ⟨_, rfl⟩
  obtain ⟨o, eo⟩ : ∃ o, o = pickS (decide (G2 = 2)) bobIn y2 := ⟨_, rfl⟩
  have HF := Lib.hid (clean_facts hok g h1 h2 h3 em eo)
  obtain ⟨A1, ha1⟩ : ∃ A1, (decide (G1 = 1) && decide (y1.size ≠ 0)) = A1 := ⟨_, rfl⟩
  obtain ⟨A2, ha2⟩ : ∃ A2, (decide (G2 = 2) && decide (y2.size ≠ 0)) = A2 := ⟨_, rfl⟩
  have em2 : m = if A1 = true then annIn else y1 := by rw [em, ← ha1]; rfl
  have eo2 : o = if A2 = true then bobIn else y2 := by rw [eo, ← ha2]; rfl
  have HA1 := Lib.hid ha1
  have HA2 := Lib.hid ha2
  have HLE := Lib.hid hless
  have HMA := Lib.hid hmade
  have HEM := Lib.hid em2
  have HEO := Lib.hid eo2
  have HM := Lib.hid hM
  clear hless hmade hM hok hs em eo em2 eo2 ha1 ha2
  go_enter Tryd.func3, Tryd.ntmps3
  go_wp2_with fail
  have hr0 := heap_alloc_new w (.cells #[.int .i64 k, .int .i64 pu, .string so, .string ma, .string ot, .string se, .string pa] 23)
  have hF0 : Fr [] w (w.alloc (.cells #[.int .i64 k, .int .i64 pu, .string so, .string ma, .string ot, .string se, .string pa] 23)) := (Fr.refl _ _).alloc _
  generalize w.alloc (.cells #[.int .i64 k, .int .i64 pu, .string so, .string ma, .string ot, .string se, .string pa] 23) = W0 at *
  generalize hR : w.heap.size = R at *
  have HR := Lib.hid hR
  clear hR
  (with_reducible refine (awake19_calls _).mono ?_)
  rintro e w1 ⟨rfl, hf1⟩
  have hr1 := blk_keep hr0 hf1 (by simp)
  have hF1 := hF0.then hf1
  clear hr0 hF0 hf1
  obtain ⟨c0, c1, c2, c3, c4, c5, c6⟩ := rq_cells hr1
  go_wp2_with fail
  clear c0 c1 c2 c3 c4 c5 c6
  (with_reducible refine (HLE.out _).mono ?_)
  rintro e w2 ⟨rfl, hf2⟩
  have hF2 := hF1.then hf2
  clear hF1 hf2 hr1 HLE
  go_wp2_with fail
  (with_reducible refine (HMA.out _).mono ?_)
  rintro e w3 ⟨rfl, hf3⟩
  have hF3 := hF2.then hf3
  clear hF2 hf3 HMA
  go_upto_region 3 with fail
  have hx4 := heap_alloc_new w3 (.cells #[.int .i64 xk, .int .i64 xpu, .string y0, .string y1, .string y2, .string y3, .string y4] 23)
  have hF4 := hF3.alloc (.cells #[.int .i64 xk, .int .i64 xpu, .string y0, .string y1, .string y2, .string y3, .string y4] 23)
  have hn4 := hF3.size
  generalize w3.alloc (.cells #[.int .i64 xk, .int .i64 xpu, .string y0, .string y1, .string y2, .string y3, .string y4] 23) = w4 at *
  generalize w3.heap.size = X at *
  have HX4 := Lib.hid hx4
  have HF4 := Lib.hid hF4
  have HN4 := Lib.hid hn4
  clear hx4 hF4 hn4 hF3
  go_cut [23] from 16 (fun s23 wx => s23 = .bool A1 ∧ wx = w4)
  case first =>
    obtain ⟨c0, c1, c2, c3, c4, c5, c6⟩ := rq_cells HX4.out
    by_cases g1 : G1 = 1
    · by_cases hz : y1.size = 0
      · have HD := Lib.hid (show decide (G1 = 1) = true ∧ decide (y1.size ≠ 0) = false from ⟨decide_eq_true g1, decide_eq_false (fun h => h hz)⟩)
        have hb : (G1 == 1) = true := beq_iff_eq.2 g1
        have hl2 : y1.toList = [] := by rw [str_empty hz, Lib.toList_data]
        have hl : y1.toList.isEmpty = true := by rw [hl2]; rfl
        clear hz g1
        go_wp2_with fail
        go_meet
        exact ⟨by rw [← HA1.out, HD.out.1, HD.out.2]; first | done | rfl, rfl⟩
      · obtain ⟨n1, n2⟩ := str_ne hz
        have HD := Lib.hid (show decide (G1 = 1) = true ∧ decide (y1.size ≠ 0) = true from ⟨decide_eq_true g1, decide_eq_true hz⟩)
        have hb : (G1 == 1) = true := beq_iff_eq.2 g1
        clear hz g1
        go_wp2_with fail
        go_meet
        exact ⟨by rw [← HA1.out, HD.out.1, HD.out.2]; first | done | rfl, rfl⟩
    · have hb : (G1 == 1) = false := beq_eq_false_iff_ne.2 g1
      have HD := Lib.hid g1
      clear g1
      go_wp2_with fail
      go_meet
      exact ⟨by rw [← HA1.out, decide_eq_false HD.out]; first | done | rfl, rfl⟩
  case rest =>
  obtain ⟨rfl, rfl⟩ := hcut
  go_upto_if 23 with fail
  go_cut [] from 24 (fun wx => Hid (wx.heap[X]? = some (.cells #[.int .i64 xk, .int .i64 xpu, .string y0, .string m, .string y2, .string y3, .string y4] 23 (0, 0)) ∧ Fr [] w wx))
  case first =>
    cases A1
    · obtain rfl : m = y1 := HEM.out
      go_wp2_with fail
      go_meet
      exact Lib.hid ⟨HX4.out, HF4.out⟩
    · obtain rfl : m = annIn := HEM.out
      obtain ⟨c0, c1, c2, c3, c4, c5, c6⟩ := rq_cells HX4.out
      have z3 := Lib.frozen_of_heap HX4.out 3
      go_wp2_with fail
      go_meet
      exact Lib.hid ⟨blk_set 3 _ HX4.out, HF4.out.setCell (.inr HN4.out) _⟩
  case rest =>
  have HX5 := Lib.hid hcut.out.1
  have HF5 := Lib.hid hcut.out.2
  clear HX4 HF4 hcut
  go_upto_region 5 with fail
  go_cut [32] from 25 (fun s32 wx => s32 = .bool A2 ∧ wx = wc)
  case first =>
    obtain ⟨c0, c1, c2, c3, c4, c5, c6⟩ := rq_cells HX5.out
    by_cases g1 : G2 = 2
    · by_cases hz : y2.size = 0
      · have HD := Lib.hid (show decide (G2 = 2) = true ∧ decide (y2.size ≠ 0) = false from ⟨decide_eq_true g1, decide_eq_false (fun h => h hz)⟩)
        have hb : (G2 == 2) = true := beq_iff_eq.2 g1
        have hl2 : y2.toList = [] := by rw [str_empty hz, Lib.toList_data]
        have hl : y2.toList.isEmpty = true := by rw [hl2]; rfl
        clear hz g1
        go_wp2_with fail
        go_meet
        exact ⟨by rw [← HA2.out, HD.out.1, HD.out.2]; first | done | rfl, rfl⟩
      · obtain ⟨n1, n2⟩ := str_ne hz
        have HD := Lib.hid (show decide (G2 = 2) = true ∧ decide (y2.size ≠ 0) = true from ⟨decide_eq_true g1, decide_eq_true hz⟩)
        have hb : (G2 == 2) = true := beq_iff_eq.2 g1
        clear hz g1
        go_wp2_with fail
        go_meet
        exact ⟨by rw [← HA2.out, HD.out.1, HD.out.2]; first | done | rfl, rfl⟩
    · have hb : (G2 == 2) = false := beq_eq_false_iff_ne.2 g1
      have HD := Lib.hid g1
      clear g1
      go_wp2_with fail
      go_meet
      exact ⟨by rw [← HA2.out, decide_eq_false HD.out]; first | done | rfl, rfl⟩
  case rest =>
  obtain ⟨rfl, rfl⟩ := hcut
  go_upto_if 32 with fail
  go_cut [] from 33 (fun wx => Hid (wx.heap[X]? = some (.cells #[.int .i64 xk, .int .i64 xpu, .string y0, .string m, .string o, .string y3, .string y4] 23 (0, 0)) ∧ Fr [] w wx))
  case first =>
    cases A2
    · obtain rfl : o = y2 := HEO.out
      go_wp2_with fail
      go_meet
      exact Lib.hid ⟨HX5.out, HF5.out⟩
    · obtain rfl : o = bobIn := HEO.out
      obtain ⟨c0, c1, c2, c3, c4, c5, c6⟩ := rq_cells HX5.out
      have z4 := Lib.frozen_of_heap HX5.out 4
      go_wp2_with fail
      go_meet
      exact Lib.hid ⟨blk_set 4 _ HX5.out, HF5.out.setCell (.inr HN4.out) _⟩
  case rest =>
  have hx6 := hcut.out.1
  have hF6 := hcut.out.2
  clear HX5 HF5 hcut HEM HEO HA1 HA2
  rename World => w6
  obtain ⟨hok, hG1, hres⟩ := HF.out
  have hi := Rq.ok_iff hok
  simp only at hi
  have hcl := Clean_calls w6 (HM.out.keep hF6) xk xpu y0 m o y3 y4 ⟨by show y0.size ≤ _; omega, by show m.size ≤ _; omega, by show o.size ≤ _; omega, by show y3.size ≤ _; omega, by show y4.size ≤ _; omega⟩
  rcases hres with ⟨hc, hg⟩ | ⟨a3, a4, hc, hok2, hc2, hann⟩
  · rw [hc] at hcl
    simp only [rqNo, Rq.val] at hcl
    have HCL := Lib.hid hcl
    have hb : (G3 != 3) = true := bne_iff_ne.2 hg
    obtain ⟨c0, c1, c2, c3, c4, c5, c6⟩ := rq_cells hx6
    clear hcl hc hg hok hG1 hi HF hx6
    go_wp2_with fail
    (with_reducible refine HCL.out.mono ?_)
    rintro e w7 ⟨rfl, hf7⟩
    have HF7 := Lib.hid (hF6.then hf7)
    clear hf7 hF6 c0 c1 c2 c3 c4 c5 c6 HCL
    go_wp2_with fail
    go_ret
    exact ⟨rfl, ((HF7.out.alloc _).alloc _)⟩
  · have hi2 := Rq.ok_iff hok2
    simp only at hi2
    have hcl2 := fun W h => Clean_calls W h xk xpu y0 a3 a4 y3 y4 ⟨by show y0.size ≤ _; omega, by show a3.size ≤ _; omega, by show a4.size ≤ _; omega, by show y3.size ≤ _; omega, by show y4.size ≤ _; omega⟩
    have hck := fun W => Check_calls W xk xpu y0 a3 a4 y3 y4 ⟨by show y0.size ≤ _; omega, by show a3.size ≤ _; omega, by show a4.size ≤ _; omega, by show y3.size ≤ _; omega, by show y4.size ≤ _; omega⟩
    rw [hc] at hcl
    rw [hc2] at hcl2
    rw [hok2] at hck
    simp only [Rq.val] at hcl hcl2
    have hend : G1 = 0 ∨ (G1 = 1 ∧ m.size = 0) ∨ (G1 = 1 ∧ m.size ≠ 0 ∧ a3 = annOut) := by
      rcases hG1 with h | h
      · exact .inl h
      · by_cases hz : m.size = 0
        · exact .inr (.inl ⟨h, hz⟩)
        · exact .inr (.inr ⟨h, hz, hann h hz⟩)
    have HEND := Lib.hid hend
    have HCL := Lib.hid hcl
    have HCL2 := Lib.hid hcl2
    have HCK := Lib.hid hck
    obtain ⟨c0, c1, c2, c3, c4, c5, c6⟩ := rq_cells hx6
    clear hcl hcl2 hck hc hc2 hok hok2 hG1 hi hi2 HF hann hend
    go_wp2_with fail
    (with_reducible refine HCL.out.mono ?_)
    rintro e w7 ⟨rfl, hf7⟩
    have hF7 := hF6.then hf7
    have hx7 := blk_keep hx6 hf7 (by simp)
    clear hf7 hF6 hx6 c0 c1 c2 c3 c4 c5 c6 HCL
    go_wp2_with fail
    have ha8 := heap_alloc_new w7 (.cells #[.int .i64 xk, .int .i64 xpu, .string y0, .string a3, .string a4, .string y3, .string y4] 23)
    have hx8 := alloc_keep (o := (.cells #[.int .i64 xk, .int .i64 xpu, .string y0, .string a3, .string a4, .string y3, .string y4] 23)) hx7
    have hF8 := hF7.alloc (.cells #[.int .i64 xk, .int .i64 xpu, .string y0, .string a3, .string a4, .string y3, .string y4] 23)
    generalize w7.alloc (.cells #[.int .i64 xk, .int .i64 xpu, .string y0, .string a3, .string a4, .string y3, .string y4] 23) = w8 at *
    generalize w7.heap.size = A at *
    clear hx7 hF7
    (with_reducible refine (HCL2.out _ (HM.out.keep hF8)).mono ?_)
    rintro e w9 ⟨rfl, hf9⟩
    have hx9 := blk_keep hx8 hf9 (by simp)
    have ha9 := blk_keep ha8 hf9 (by simp)
    have hF9 := hF8.then hf9
    clear hx8 ha8 hF8 hf9 HCL2 HM
    have d0 := fun o => (rq_cells (alloc_keep (o := o) ha9)).1
    have d1 := fun o => (rq_cells (alloc_keep (o := o) ha9)).2.1
    have d2 := fun o => (rq_cells (alloc_keep (o := o) ha9)).2.2.1
    have d3 := fun o => (rq_cells (alloc_keep (o := o) ha9)).2.2.2.1
    have d4 := fun o => (rq_cells (alloc_keep (o := o) ha9)).2.2.2.2.1
    have d5 := fun o => (rq_cells (alloc_keep (o := o) ha9)).2.2.2.2.2.1
    have d6 := fun o => (rq_cells (alloc_keep (o := o) ha9)).2.2.2.2.2.2
    go_wp2_with fail
    clear d0 d1 d2 d3 d4 d5 d6
    have hb10 := heap_alloc_new w9 (.cells #[.int .i64 xk, .int .i64 xpu, .string y0, .string a3, .string a4, .string y3, .string y4] 23)
    have hx10 := alloc_keep (o := (.cells #[.int .i64 xk, .int .i64 xpu, .string y0, .string a3, .string a4, .string y3, .string y4] 23)) hx9
    have ha10 := alloc_keep (o := (.cells #[.int .i64 xk, .int .i64 xpu, .string y0, .string a3, .string a4, .string y3, .string y4] 23)) ha9
    have hF10 := hF9.alloc (.cells #[.int .i64 xk, .int .i64 xpu, .string y0, .string a3, .string a4, .string y3, .string y4] 23)
    generalize w9.alloc (.cells #[.int .i64 xk, .int .i64 xpu, .string y0, .string a3, .string a4, .string y3, .string y4] 23) = w10 at *
    generalize w9.heap.size = B at *
    clear hx9 ha9 hF9
    (with_reducible refine (HCK.out _).mono ?_)
    rintro e w11 ⟨rfl, hf11⟩
    have HF11 := Lib.hid (hF10.then hf11)
    obtain ⟨x0, x1, x2, x3, x4, x5, x6⟩ := rq_cells (blk_keep hx10 hf11 (by simp))
    obtain ⟨a0, a1, a2, a3', a4', a5, a6⟩ := rq_cells (blk_keep ha10 hf11 (by simp))
    obtain ⟨b0, b1, b2, b3, b4, b5, b6⟩ := rq_cells (blk_keep hb10 hf11 (by simp))
    clear hx10 ha10 hb10 hF10 hf11 HCK
    rcases HEND.out with g1 | ⟨g1, hz⟩ | ⟨g1, hz, rfl⟩
    · have e0 : (G1 == 0) = true := beq_iff_eq.2 g1
      clear g1 HEND
      go_wp2_with fail
      go_ret
      exact ⟨rfl, HF11.out⟩
    · have e0 : (G1 == 0) = false := by rw [g1]; rfl
      have hl2 : m.toList = [] := by rw [str_empty hz, Lib.toList_data]
      have hl : m.toList.isEmpty = true := by rw [hl2]; rfl
      clear g1 HEND hz
      go_wp2_with fail
      go_ret
      exact ⟨rfl, HF11.out⟩
    · have e0 : (G1 == 0) = false := by rw [g1]; rfl
      obtain ⟨n1, n2⟩ := str_ne hz
      clear g1 HEND hz
      unfold annOut at *
      go_wp2_with fail
      go_ret
      exact ⟨rfl, HF11.out⟩
theorem WireClean_walk (w : World) (hM : ML w) (l : List Value) (hl : FRow [.int .i64, .int .i64, .str, .str, .str, .str, .str] l) (g : Int) (hg : Bd .i64 g) :
    Calls Tryd.prog 3 #[.agg l.toArray, .int .i64 g] w fun e w' => e = .returned (.bool true) ∧ Fr [] w w' := by
  obtain ⟨k, pu, s0, s1, s2, s3, s4, rfl, hs, -, -⟩ := rq_of_row hl
  exact WireClean_core w hM k pu s0 s1 s2 s3 s4 hs g
end Go.Proofs.YtbeoegppldjpoaaDoor
