/- The law DiskPlays: for any size and any steps the Go function returns true (its walk). -/
import Derived.Test.YtndenbcdhbnamaaDPair
import Derived.Test.YtndenbcdhbnamaaMask
import Derived.Test.YtndenbcdhbnamaaFlat
import Derived.Test.YtndenbcdhbnamaaShort02
import Derived.Deep.Cut
import Derived.Deep.CutRange
namespace Go.Proofs.Ytndenbcdhbnamaa
open Go.RowKit
set_option linter.unusedVariables false
set_option linter.unusedSimpArgs false
attribute [local go_sem] mildAt mildUpon

theorem addr_at5 (ad : Addr) (m j : Nat) (hj : 0 < j) : (⟨(ad.add m).block, (ad.add m).off + j, none⟩ : Addr) = ad.add (m + j) := by
  unfold Addr.add
  by_cases h : m = 0
  · subst h
    simp [show j ≠ 0 by omega]
  · simp [h, Nat.add_assoc]
theorem frow5 {row : List Value} (h : FRow [.int .i64, .int .i64, .int .i64, .str, .bool] row) : ∃ kind at' n s near, row = [.int .i64 kind, .int .i64 at', .int .i64 n, .string s, .bool near] ∧ Bd .i64 kind ∧ Bd .i64 at' ∧ Bd .i64 n ∧ s.size ≤ maxLen := by
  rcases row with _ | ⟨v0, _ | ⟨v1, _ | ⟨v2, _ | ⟨v3, _ | ⟨v4, _ | ⟨v5, row⟩⟩⟩⟩⟩⟩
  · exact h.elim
  · exact h.2.elim
  · exact h.2.2.elim
  · exact h.2.2.2.elim
  · exact h.2.2.2.2.elim
  · obtain ⟨h0, h1, h2, h3, h4, _⟩ := h
    obtain ⟨k, e0, hk⟩ := h0
    obtain ⟨m, e1, hm⟩ := h1
    obtain ⟨z, e2, hz⟩ := h2
    obtain ⟨s, e3, hs⟩ := h3
    obtain ⟨b, e4⟩ := h4
    exact ⟨k, m, z, s, b, by rw [e0, e1, e2, e3, e4], hk, hm, hz, hs⟩
  · exact h.2.2.2.2.2.elim
/-- What the law's test reads of the two disks. -/
theorem PK.test {w0 w : World} {d q : Nat} {D : DSt} {N : Nat} (h : PK w0 w d q D D) (hN : D.st.size = N) : ∀ W, Fr [] w W →
    (Calls Try.prog 13 #[.pointer (some ⟨d, 0, none⟩)] W fun e w' => e = .returned (.int .i64 (pend D.wl)) ∧ Fr [] W w') ∧
    (Calls Try.prog 25 #[.pointer (some ⟨q, 0, none⟩)] W fun e w' => e = .returned (.int .i64 (pend D.wl)) ∧ Fr [] W w') ∧
    (Calls Try.prog 18 #[.pointer (some ⟨d, 0, none⟩)] W fun e w' => e = .returned (.bool D.bad) ∧ Fr [] W w') ∧
    (Calls Try.prog 26 #[.pointer (some ⟨d, 0, none⟩)] W fun e w' => e = .returned (.int .i64 N) ∧ Fr [] W w') ∧
    W.cell? ⟨q, 3, none⟩ = some (.bool D.bad) := by
  intro W hW
  subst hN
  obtain ⟨⟨ps, pn, v, r, vs, rs, v', r', h1, h2, h3, h4, h5⟩, h6⟩ := h
  have g1 := h1.keep hW (by simp)
  have g2 := h2.keep hW (by simp)
  refine ⟨Pending_calls W d ps pn v r _ _ _ _ _ g1, (rpending_calls W q vs rs v' r' _ _ _ _ g2).mono ?_, (Broken_calls W d ps pn v r _ _ _ _ _ g1).mono ?_, (Size_calls W d ps pn v r _ _ _ _ _ g1).mono ?_, ?_⟩
  · rintro e w' ⟨rfl, hw⟩
    rw [hw]
    exact ⟨rfl, Fr.refl _ _⟩
  · rintro e w' ⟨rfl, hw⟩
    rw [← hw]
    exact ⟨rfl, Fr.refl _ _⟩
  · rintro e w' ⟨rfl, hw⟩
    rw [← hw]
    exact ⟨rfl, Fr.refl _ _⟩
  · rw [Lib.cell_of_heap g2.blk]
    rfl

set_option maxHeartbeats 4000000 in
set_option maxRecDepth 100000 in
theorem DiskPlays_walk (w : World) (size : Int) (hsize : Bd .i64 size) (A : Option Addr) (cap : Nat) (l : List (List Value)) (hr : RdR w A 5 l) (hrow : ∀ row, row ∈ l → FRow [.int .i64, .int .i64, .int .i64, .str, .bool] row) (hll : l.length ≤ maxLen) :
    Calls Try.prog 7 #[.int .i64 size, .slice A l.length cap] w fun e w' => e = .returned (.bool true) ∧ Fr [] w w' := by
  unfold maxLen at hll
  have HR := Lib.hid hr
  have HROW := Lib.hid hrow
  clear hr hrow
  have ⟨hz0, hz1⟩ := hsize.i64
  obtain ⟨T, hT, hT0, hT1⟩ : ∃ T, size.tmod 24 = T ∧ -24 < T ∧ T < 24 := ⟨_, rfl, Int.lt_tmod_of_pos _ (by decide), Int.tmod_lt_of_pos _ (by decide)⟩
  obtain ⟨q0, hq, hq24⟩ : ∃ q : Nat, (T + 24) % 24 = (q : Int) ∧ q < 24 := ⟨((T + 24) % 24).toNat, by omega, by omega⟩
  have hq2 : T % 24 = (q0 : Int) := by omega
  obtain ⟨N, hN, hN1, hN24⟩ : ∃ N : Nat, (1 : Int) + (q0 : Int) = (N : Int) ∧ 1 ≤ N ∧ N ≤ 24 := ⟨1 + q0, by omega, by omega, by omega⟩
  clear hsize
  go_enter Try.func7, Try.ntmps7
  go_wp2_with fail
  (with_reducible refine (awake02_calls _).mono ?_)
  rintro e w1 ⟨rfl, hf1⟩
  go_wp2_with fail
  (try rw [hq2])
  (try rw [hN])
  (with_reducible refine (NewN_calls w _ hf1 N rfl hN1 (by omega)).mono ?_)
  rintro e w2 ⟨d, ps, pn, rfl, h2⟩
  have H2 := Lib.hid h2
  clear h2 hf1
  go_wp2_with fail
  (try rw [hq2])
  (try rw [hN])
  (with_reducible refine (rNew_calls w2 N rfl hN1 (by omega)).mono ?_)
  rintro e w3 ⟨q, vs, rs, rfl, h3, hf3, hn3⟩
  have hZ := zerosB_size N
  have H3 := Lib.hid (PK.make H2.out h3 hf3 hn3)
  clear h3 hf3 hn3 H2
  generalize zerosB N = Z at H3 hZ
  go_wp2_with fail
  (try rw [hq2])
  (try rw [hN])
  clear hT hT0 hT1 hq hq24 hq2 hN hz0 hz1
  go_loopw [9] (fun v9 wr => ∃ (i : Nat) (D : DSt), v9 = .int .i64 i ∧ i ≤ 60 ∧ D.st.size = N ∧ D.wl.length ≤ i ∧ Hid (PK w wr d q D D)) (fun v9 _ => 60 - (intOf v9).toNat)
  case atStart => exact ⟨0, _, rfl, by decide, hZ, Nat.le_refl _, H3.out⟩
  case round =>
    clear H3 hZ
    obtain ⟨i, D, rfl, hi60, hst, hwl, H⟩ := hrel
    by_cases hl1 : i < l.length
    · by_cases hl2 : i < 60
      · obtain ⟨row, hrw⟩ : ∃ row, l[i]? = some row := ⟨_, List.getElem?_eq_getElem hl1⟩
        obtain ⟨kind, at', n, s, near, rfl, hk, hat, hn, hs⟩ := frow5 (HROW.out row (List.mem_of_getElem? hrw))
        obtain ⟨ad, rfl, hc0⟩ := HR.out i _ hrw 0 _ rfl
        obtain ⟨ad', e1, hc1⟩ := HR.out i _ hrw 1 _ rfl
        injection e1 with e1
        subst e1
        obtain ⟨ad', e1, hc2⟩ := HR.out i _ hrw 2 _ rfl
        injection e1 with e1
        subst e1
        obtain ⟨ad', e1, hc3⟩ := HR.out i _ hrw 3 _ rfl
        injection e1 with e1
        subst e1
        obtain ⟨ad', e1, hc4⟩ := HR.out i _ hrw 4 _ rfl
        injection e1 with e1
        subst e1
        have d0 := H.out.fr.cell' hc0 (by simp)
        have d1 := H.out.fr.cell' hc1 (by simp)
        have d2 := H.out.fr.cell' hc2 (by simp)
        have d3 := H.out.fr.cell' hc3 (by simp)
        have d4 := H.out.fr.cell' hc4 (by simp)
        rw [Nat.add_zero] at d0
        rw [← addr_at5 _ _ _ (by decide)] at d1 d2 d3 d4
        have ⟨ha0, ha1⟩ := hat.i64
        have ⟨hn0, hn1⟩ := hn.i64
        unfold maxLen at hs
        obtain ⟨K, hK⟩ : ∃ K, kind % 8 = K := ⟨_, rfl⟩
        have hcases : K = 0 ∨ K = 1 ∨ K = 2 ∨ K = 3 ∨ K = 4 ∨ K = 5 ∨ K = 6 ∨ K = 7 := by omega
        have hand : bits .and .i64 kind 7 = K := by rw [i64_and7, hK]
        have HX := Lib.hid (And.intro (H.out.other ((Fr.refl [] wr).alloc (.cells #[.int .i64 kind, .int .i64 at', .int .i64 n, .string s, .bool near] 48))) (heap_alloc_new wr (.cells #[.int .i64 kind, .int .i64 at', .int .i64 n, .string s, .bool near] 48)))
        have HB := Lib.hid (And.intro hat hn)
        clear hc0 hc1 hc2 hc3 hc4 hrw hk hat hn hK H
        go_wp2_with fail
        clear d0 d1 d2 d3 d4
        generalize wr.alloc (.cells #[.int .i64 kind, .int .i64 at', .int .i64 n, .string s, .bool near] 48) = W0 at HX ⊢
        generalize wr.heap.size = B at HX ⊢
        (with_reducible refine (short02_calls s 12 12 rfl _ (by omega) (by omega)).mono ?_)
        rintro e w5 ⟨rfl, rfl⟩
        have h12 := shortB_size s 12
        generalize shortB s 12 = S at h12 ⊢
        have x0 : W0.cell? ⟨B, 0, none⟩ = some (.int .i64 kind) := by rw [Lib.cell_of_heap HX.out.2]; rfl
        have x1 : W0.cell? ⟨B, 1, none⟩ = some (.int .i64 at') := by rw [Lib.cell_of_heap HX.out.2]; rfl
        have x2 : W0.cell? ⟨B, 2, none⟩ = some (.int .i64 n) := by rw [Lib.cell_of_heap HX.out.2]; rfl
        have x4 : W0.cell? ⟨B, 4, none⟩ = some (.bool near) := by rw [Lib.cell_of_heap HX.out.2]; rfl
        clear hs
        go_upto_if 57 with fail
        go_cut [12, 13] from 35 to 173 (fun s12 s13 wx => ∃ a9 k9 : Int, s12 = .int .i64 a9 ∧ s13 = .int .i64 k9 ∧ Hid (Bd .i64 a9 ∧ Bd .i64 k9) ∧ wx = W0)
        case first =>
          cases near with
          | false =>
            go_wp2_with fail
            go_meet
            exact ⟨_, _, rfl, rfl, HB, rfl⟩
          | true =>
            obtain ⟨T, hT, hT0, hT1⟩ : ∃ T, at'.tmod 24 = T ∧ -24 < T ∧ T < 24 := ⟨_, rfl, Int.lt_tmod_of_pos _ (by decide), Int.tmod_lt_of_pos _ (by decide)⟩
            obtain ⟨k0, hk0, hk24⟩ : ∃ q : Nat, (T + 24) % 24 = (q : Int) ∧ q < 24 := ⟨((T + 24) % 24).toNat, by omega, by omega⟩
            have hk2 : T % 24 = (k0 : Int) := by omega
            obtain ⟨U, hU, hU0, hU1⟩ : ∃ T, n.tmod 8 = T ∧ -8 < T ∧ T < 8 := ⟨_, rfl, Int.lt_tmod_of_pos _ (by decide), Int.tmod_lt_of_pos _ (by decide)⟩
            obtain ⟨j0, hj0, hj24⟩ : ∃ q : Nat, (U + 8) % 8 = (q : Int) ∧ q < 8 := ⟨((U + 8) % 8).toNat, by omega, by omega⟩
            have hj2 : U % 8 = (j0 : Int) := by omega
            have HB2 := Lib.hid (And.intro (Bd.of_i64 (x := (k0 : Int)) (by omega) (by omega)) (Bd.of_i64 (x := (j0 : Int)) (by omega) (by omega)))
            go_wp2_with fail
            go_meet
            (try rw [hk2])
            (try rw [hj2])
            first
            | exact ⟨_, _, rfl, rfl, HB2, rfl⟩
            | exact ⟨_, _, rfl, rfl, Lib.hid ⟨Bd.of_i64 (by omega) (by omega), Bd.of_i64 (by omega) (by omega)⟩, rfl⟩
        case rest =>
          obtain ⟨a9, k9, rfl, rfl, HB9, rfl⟩ := hcut
          clear HB x1 x2 x4 ha0 ha1 hn0 hn1
          have HPK := Lib.hid HX.out.1
          clear HX
          have hwl6 : D.wl.length < 1000000 := by omega
          have hst0 : 0 < D.st.size := by omega
          have hbN : Bd .i64 (N : Int) := Bd.of_i64 (by omega) (by omega)
          -- @@K
          rcases hcases with rfl | rfl | rfl | rfl | rfl | rfl | rfl | rfl
          · obtain ⟨⟨D2, c⟩, hw⟩ : ∃ x, wrS D a9 S = x := ⟨_, rfl⟩
            go_wp2_with fail
            (with_reducible refine (dWrite_calls w _ d q D D HPK.out a9 HB9.out.1 S (by omega) hwl6 hw).mono ?_)
            rintro e w6 ⟨rfl, h6⟩
            have H6 := Lib.hid h6
            clear h6
            go_wp2_with fail
            (with_reducible refine (rWriteP w _ d q D2 D H6.out a9 HB9.out.1 S (by omega) hwl6 hw).mono ?_)
            rintro e w7 ⟨rfl, h7⟩
            have hkeep := wrS_keep hw
            clear H6 hw
            have H7 := Lib.hid h7
            have hst2 : D2.st.size = N := by omega
            have hwl2 : D2.wl.length ≤ i + 1 := by omega
            have HT := Lib.hid (H7.out.test hst2)
            clear h7 hkeep HPK
            go_wp2_with fail
            refine wp_region_mild 24 (by kernel_rfl) (by kernel_rfl) ?_
            simp only [List.take_succ_cons, List.take_zero, List.drop_succ_cons, List.drop_zero, List.take_nil, List.drop_nil]
            repeat (first
              | ((apply mild_det0; (· rfl); (· intro W hW K hK; have hW' : Fr [] w7 W := ⟨hW.os, hW.tape, hW.output, hW.size, hW.block⟩; have y3 := (HT.out W hW').2.2.2.2; go_simp; exact hK _ (Fr.refl _ _))); simp only [Act.put, List.setIfInBounds_toArray, List.set_cons_succ, List.set_cons_zero, Nat.reduceAdd])
              | ((apply mild_det0; (· rfl); (· intro W hW K hK; have hW' : Fr [] w7 W := ⟨hW.os, hW.tape, hW.output, hW.size, hW.block⟩; go_simp; with_reducible exact mild_call (HT.out W hW').1 hK)); simp only [Act.put, List.setIfInBounds_toArray, List.set_cons_succ, List.set_cons_zero, Nat.reduceAdd])
              | ((apply mild_det0; (· rfl); (· intro W hW K hK; have hW' : Fr [] w7 W := ⟨hW.os, hW.tape, hW.output, hW.size, hW.block⟩; go_simp; with_reducible exact mild_call (HT.out W hW').2.1 hK)); simp only [Act.put, List.setIfInBounds_toArray, List.set_cons_succ, List.set_cons_zero, Nat.reduceAdd])
              | ((apply mild_det0; (· rfl); (· intro W hW K hK; have hW' : Fr [] w7 W := ⟨hW.os, hW.tape, hW.output, hW.size, hW.block⟩; go_simp; with_reducible exact mild_call (HT.out W hW').2.2.1 hK)); simp only [Act.put, List.setIfInBounds_toArray, List.set_cons_succ, List.set_cons_zero, Nat.reduceAdd])
              | ((apply mild_det0; (· rfl); (· intro W hW K hK; have hW' : Fr [] w7 W := ⟨hW.os, hW.tape, hW.output, hW.size, hW.block⟩; go_simp; with_reducible exact mild_call (HT.out W hW').2.2.2.1 hK)); simp only [Act.put, List.setIfInBounds_toArray, List.set_cons_succ, List.set_cons_zero, Nat.reduceAdd])
              | (apply mild_det0; (· rfl); (· intro W hW K hK; go_simp; exact hK _ (Fr.refl _ _)); simp only [Act.put, List.setIfInBounds_toArray, List.set_cons_succ, List.set_cons_zero, Nat.reduceAdd])
              | (apply mild_slice; (· rfl); (· intro W hW K hK; go_simp; exact hK _ _ ((Fr.refl _ _).alloc _) ⟨_, rfl, heap_alloc_new _ _⟩); simp only [Act.put, List.setIfInBounds_toArray, List.set_cons_succ, List.set_cons_zero, Nat.reduceAdd]))
            refine mild_nil ?_
            intro W2 hW2
            have HW2 := Lib.hid (H7.out.other (w' := W2) ⟨hW2.os, hW2.tape, hW2.output, hW2.size, hW2.block⟩)
            clear hW2 HT H7
            simp only [subAll]
            intros
            (try simp only [Act.put, List.setIfInBounds_toArray, List.set_cons_succ, List.set_cons_zero])
            go_wp2_with fail
            exact ⟨⟨i + 1, D2, by go_num, by omega, hst2, hwl2, HW2.out⟩, by simp only [intOf]; omega⟩
          · obtain ⟨⟨D2, c⟩, hw⟩ : ∃ x, wrS D a9 S = x := ⟨_, rfl⟩
            go_wp2_with fail
            (with_reducible refine (dWrite_calls w _ d q D D HPK.out a9 HB9.out.1 S (by omega) hwl6 hw).mono ?_)
            rintro e w6 ⟨rfl, h6⟩
            have H6 := Lib.hid h6
            clear h6
            go_wp2_with fail
            (with_reducible refine (rWriteP w _ d q D2 D H6.out a9 HB9.out.1 S (by omega) hwl6 hw).mono ?_)
            rintro e w7 ⟨rfl, h7⟩
            have hkeep := wrS_keep hw
            clear H6 hw
            have H7 := Lib.hid h7
            have hst2 : D2.st.size = N := by omega
            have hwl2 : D2.wl.length ≤ i + 1 := by omega
            have HT := Lib.hid (H7.out.test hst2)
            clear h7 hkeep HPK
            go_wp2_with fail
            refine wp_region_mild 24 (by kernel_rfl) (by kernel_rfl) ?_
            simp only [List.take_succ_cons, List.take_zero, List.drop_succ_cons, List.drop_zero, List.take_nil, List.drop_nil]
            repeat (first
              | ((apply mild_det0; (· rfl); (· intro W hW K hK; have hW' : Fr [] w7 W := ⟨hW.os, hW.tape, hW.output, hW.size, hW.block⟩; have y3 := (HT.out W hW').2.2.2.2; go_simp; exact hK _ (Fr.refl _ _))); simp only [Act.put, List.setIfInBounds_toArray, List.set_cons_succ, List.set_cons_zero, Nat.reduceAdd])
              | ((apply mild_det0; (· rfl); (· intro W hW K hK; have hW' : Fr [] w7 W := ⟨hW.os, hW.tape, hW.output, hW.size, hW.block⟩; go_simp; with_reducible exact mild_call (HT.out W hW').1 hK)); simp only [Act.put, List.setIfInBounds_toArray, List.set_cons_succ, List.set_cons_zero, Nat.reduceAdd])
              | ((apply mild_det0; (· rfl); (· intro W hW K hK; have hW' : Fr [] w7 W := ⟨hW.os, hW.tape, hW.output, hW.size, hW.block⟩; go_simp; with_reducible exact mild_call (HT.out W hW').2.1 hK)); simp only [Act.put, List.setIfInBounds_toArray, List.set_cons_succ, List.set_cons_zero, Nat.reduceAdd])
              | ((apply mild_det0; (· rfl); (· intro W hW K hK; have hW' : Fr [] w7 W := ⟨hW.os, hW.tape, hW.output, hW.size, hW.block⟩; go_simp; with_reducible exact mild_call (HT.out W hW').2.2.1 hK)); simp only [Act.put, List.setIfInBounds_toArray, List.set_cons_succ, List.set_cons_zero, Nat.reduceAdd])
              | ((apply mild_det0; (· rfl); (· intro W hW K hK; have hW' : Fr [] w7 W := ⟨hW.os, hW.tape, hW.output, hW.size, hW.block⟩; go_simp; with_reducible exact mild_call (HT.out W hW').2.2.2.1 hK)); simp only [Act.put, List.setIfInBounds_toArray, List.set_cons_succ, List.set_cons_zero, Nat.reduceAdd])
              | (apply mild_det0; (· rfl); (· intro W hW K hK; go_simp; exact hK _ (Fr.refl _ _)); simp only [Act.put, List.setIfInBounds_toArray, List.set_cons_succ, List.set_cons_zero, Nat.reduceAdd])
              | (apply mild_slice; (· rfl); (· intro W hW K hK; go_simp; exact hK _ _ ((Fr.refl _ _).alloc _) ⟨_, rfl, heap_alloc_new _ _⟩); simp only [Act.put, List.setIfInBounds_toArray, List.set_cons_succ, List.set_cons_zero, Nat.reduceAdd]))
            refine mild_nil ?_
            intro W2 hW2
            have HW2 := Lib.hid (H7.out.other (w' := W2) ⟨hW2.os, hW2.tape, hW2.output, hW2.size, hW2.block⟩)
            clear hW2 HT H7
            simp only [subAll]
            intros
            (try simp only [Act.put, List.setIfInBounds_toArray, List.set_cons_succ, List.set_cons_zero])
            go_wp2_with fail
            exact ⟨⟨i + 1, D2, by go_num, by omega, hst2, hwl2, HW2.out⟩, by simp only [intOf]; omega⟩
          · obtain ⟨⟨D2, c⟩, hw⟩ : ∃ x, wrS D a9 S = x := ⟨_, rfl⟩
            go_wp2_with fail
            (with_reducible refine (dWrite_calls w _ d q D D HPK.out a9 HB9.out.1 S (by omega) hwl6 hw).mono ?_)
            rintro e w6 ⟨rfl, h6⟩
            have H6 := Lib.hid h6
            clear h6
            go_wp2_with fail
            (with_reducible refine (rWriteP w _ d q D2 D H6.out a9 HB9.out.1 S (by omega) hwl6 hw).mono ?_)
            rintro e w7 ⟨rfl, h7⟩
            have hkeep := wrS_keep hw
            clear H6 hw
            have H7 := Lib.hid h7
            have hst2 : D2.st.size = N := by omega
            have hwl2 : D2.wl.length ≤ i + 1 := by omega
            have HT := Lib.hid (H7.out.test hst2)
            clear h7 hkeep HPK
            go_wp2_with fail
            refine wp_region_mild 24 (by kernel_rfl) (by kernel_rfl) ?_
            simp only [List.take_succ_cons, List.take_zero, List.drop_succ_cons, List.drop_zero, List.take_nil, List.drop_nil]
            repeat (first
              | ((apply mild_det0; (· rfl); (· intro W hW K hK; have hW' : Fr [] w7 W := ⟨hW.os, hW.tape, hW.output, hW.size, hW.block⟩; have y3 := (HT.out W hW').2.2.2.2; go_simp; exact hK _ (Fr.refl _ _))); simp only [Act.put, List.setIfInBounds_toArray, List.set_cons_succ, List.set_cons_zero, Nat.reduceAdd])
              | ((apply mild_det0; (· rfl); (· intro W hW K hK; have hW' : Fr [] w7 W := ⟨hW.os, hW.tape, hW.output, hW.size, hW.block⟩; go_simp; with_reducible exact mild_call (HT.out W hW').1 hK)); simp only [Act.put, List.setIfInBounds_toArray, List.set_cons_succ, List.set_cons_zero, Nat.reduceAdd])
              | ((apply mild_det0; (· rfl); (· intro W hW K hK; have hW' : Fr [] w7 W := ⟨hW.os, hW.tape, hW.output, hW.size, hW.block⟩; go_simp; with_reducible exact mild_call (HT.out W hW').2.1 hK)); simp only [Act.put, List.setIfInBounds_toArray, List.set_cons_succ, List.set_cons_zero, Nat.reduceAdd])
              | ((apply mild_det0; (· rfl); (· intro W hW K hK; have hW' : Fr [] w7 W := ⟨hW.os, hW.tape, hW.output, hW.size, hW.block⟩; go_simp; with_reducible exact mild_call (HT.out W hW').2.2.1 hK)); simp only [Act.put, List.setIfInBounds_toArray, List.set_cons_succ, List.set_cons_zero, Nat.reduceAdd])
              | ((apply mild_det0; (· rfl); (· intro W hW K hK; have hW' : Fr [] w7 W := ⟨hW.os, hW.tape, hW.output, hW.size, hW.block⟩; go_simp; with_reducible exact mild_call (HT.out W hW').2.2.2.1 hK)); simp only [Act.put, List.setIfInBounds_toArray, List.set_cons_succ, List.set_cons_zero, Nat.reduceAdd])
              | (apply mild_det0; (· rfl); (· intro W hW K hK; go_simp; exact hK _ (Fr.refl _ _)); simp only [Act.put, List.setIfInBounds_toArray, List.set_cons_succ, List.set_cons_zero, Nat.reduceAdd])
              | (apply mild_slice; (· rfl); (· intro W hW K hK; go_simp; exact hK _ _ ((Fr.refl _ _).alloc _) ⟨_, rfl, heap_alloc_new _ _⟩); simp only [Act.put, List.setIfInBounds_toArray, List.set_cons_succ, List.set_cons_zero, Nat.reduceAdd]))
            refine mild_nil ?_
            intro W2 hW2
            have HW2 := Lib.hid (H7.out.other (w' := W2) ⟨hW2.os, hW2.tape, hW2.output, hW2.size, hW2.block⟩)
            clear hW2 HT H7
            simp only [subAll]
            intros
            (try simp only [Act.put, List.setIfInBounds_toArray, List.set_cons_succ, List.set_cons_zero])
            go_wp2_with fail
            exact ⟨⟨i + 1, D2, by go_num, by omega, hst2, hwl2, HW2.out⟩, by simp only [intOf]; omega⟩
          · obtain ⟨⟨t, c⟩, hw⟩ : ∃ x, rdS D a9 k9 = x := ⟨_, rfl⟩
            go_wp2_with fail
            (with_reducible refine (dRead_calls w _ d q D D HPK.out a9 k9 HB9.out.1 HB9.out.2 hw).mono ?_)
            rintro e w6 ⟨rfl, h6⟩
            have H6 := Lib.hid h6
            clear h6
            go_wp2_with fail
            (with_reducible refine (rReadP w _ d q D D H6.out hst0 a9 k9 HB9.out.1 HB9.out.2 hw).mono ?_)
            rintro e w7 ⟨rfl, h7⟩
            have hkeep := hwl
            obtain ⟨D2, hD2⟩ : ∃ D2, D2 = D := ⟨_, rfl⟩
            subst hD2
            clear H6 hw
            have H7 := Lib.hid h7
            have hst2 : D2.st.size = N := by omega
            have hwl2 : D2.wl.length ≤ i + 1 := by omega
            have HT := Lib.hid (H7.out.test hst2)
            clear h7 hkeep HPK
            go_wp2_with fail
            refine wp_region_mild 24 (by kernel_rfl) (by kernel_rfl) ?_
            simp only [List.take_succ_cons, List.take_zero, List.drop_succ_cons, List.drop_zero, List.take_nil, List.drop_nil]
            repeat (first
              | ((apply mild_det0; (· rfl); (· intro W hW K hK; have hW' : Fr [] w7 W := ⟨hW.os, hW.tape, hW.output, hW.size, hW.block⟩; have y3 := (HT.out W hW').2.2.2.2; go_simp; exact hK _ (Fr.refl _ _))); simp only [Act.put, List.setIfInBounds_toArray, List.set_cons_succ, List.set_cons_zero, Nat.reduceAdd])
              | ((apply mild_det0; (· rfl); (· intro W hW K hK; have hW' : Fr [] w7 W := ⟨hW.os, hW.tape, hW.output, hW.size, hW.block⟩; go_simp; with_reducible exact mild_call (HT.out W hW').1 hK)); simp only [Act.put, List.setIfInBounds_toArray, List.set_cons_succ, List.set_cons_zero, Nat.reduceAdd])
              | ((apply mild_det0; (· rfl); (· intro W hW K hK; have hW' : Fr [] w7 W := ⟨hW.os, hW.tape, hW.output, hW.size, hW.block⟩; go_simp; with_reducible exact mild_call (HT.out W hW').2.1 hK)); simp only [Act.put, List.setIfInBounds_toArray, List.set_cons_succ, List.set_cons_zero, Nat.reduceAdd])
              | ((apply mild_det0; (· rfl); (· intro W hW K hK; have hW' : Fr [] w7 W := ⟨hW.os, hW.tape, hW.output, hW.size, hW.block⟩; go_simp; with_reducible exact mild_call (HT.out W hW').2.2.1 hK)); simp only [Act.put, List.setIfInBounds_toArray, List.set_cons_succ, List.set_cons_zero, Nat.reduceAdd])
              | ((apply mild_det0; (· rfl); (· intro W hW K hK; have hW' : Fr [] w7 W := ⟨hW.os, hW.tape, hW.output, hW.size, hW.block⟩; go_simp; with_reducible exact mild_call (HT.out W hW').2.2.2.1 hK)); simp only [Act.put, List.setIfInBounds_toArray, List.set_cons_succ, List.set_cons_zero, Nat.reduceAdd])
              | (apply mild_det0; (· rfl); (· intro W hW K hK; go_simp; exact hK _ (Fr.refl _ _)); simp only [Act.put, List.setIfInBounds_toArray, List.set_cons_succ, List.set_cons_zero, Nat.reduceAdd])
              | (apply mild_slice; (· rfl); (· intro W hW K hK; go_simp; exact hK _ _ ((Fr.refl _ _).alloc _) ⟨_, rfl, heap_alloc_new _ _⟩); simp only [Act.put, List.setIfInBounds_toArray, List.set_cons_succ, List.set_cons_zero, Nat.reduceAdd]))
            refine mild_nil ?_
            intro W2 hW2
            have HW2 := Lib.hid (H7.out.other (w' := W2) ⟨hW2.os, hW2.tape, hW2.output, hW2.size, hW2.block⟩)
            clear hW2 HT H7
            simp only [subAll]
            intros
            (try simp only [Act.put, List.setIfInBounds_toArray, List.set_cons_succ, List.set_cons_zero])
            go_wp2_with fail
            exact ⟨⟨i + 1, D2, by go_num, by omega, hst2, hwl2, HW2.out⟩, by simp only [intOf]; omega⟩
          · obtain ⟨⟨D2, c⟩, hw⟩ : ∃ x, syS D = x := ⟨_, rfl⟩
            go_wp2_with fail
            (with_reducible refine (dSync_calls w _ d q D D HPK.out hw).mono ?_)
            rintro e w6 ⟨rfl, h6⟩
            have H6 := Lib.hid h6
            clear h6
            go_wp2_with fail
            (with_reducible refine (rSyncP w _ d q D2 D H6.out hst0 hw).mono ?_)
            rintro e w7 ⟨rfl, h7⟩
            have hkeep := syS_keep HPK.out.fitD.1 hw
            clear H6 hw
            have H7 := Lib.hid h7
            have hst2 : D2.st.size = N := by omega
            have hwl2 : D2.wl.length ≤ i + 1 := by omega
            have HT := Lib.hid (H7.out.test hst2)
            clear h7 hkeep HPK
            go_wp2_with fail
            refine wp_region_mild 24 (by kernel_rfl) (by kernel_rfl) ?_
            simp only [List.take_succ_cons, List.take_zero, List.drop_succ_cons, List.drop_zero, List.take_nil, List.drop_nil]
            repeat (first
              | ((apply mild_det0; (· rfl); (· intro W hW K hK; have hW' : Fr [] w7 W := ⟨hW.os, hW.tape, hW.output, hW.size, hW.block⟩; have y3 := (HT.out W hW').2.2.2.2; go_simp; exact hK _ (Fr.refl _ _))); simp only [Act.put, List.setIfInBounds_toArray, List.set_cons_succ, List.set_cons_zero, Nat.reduceAdd])
              | ((apply mild_det0; (· rfl); (· intro W hW K hK; have hW' : Fr [] w7 W := ⟨hW.os, hW.tape, hW.output, hW.size, hW.block⟩; go_simp; with_reducible exact mild_call (HT.out W hW').1 hK)); simp only [Act.put, List.setIfInBounds_toArray, List.set_cons_succ, List.set_cons_zero, Nat.reduceAdd])
              | ((apply mild_det0; (· rfl); (· intro W hW K hK; have hW' : Fr [] w7 W := ⟨hW.os, hW.tape, hW.output, hW.size, hW.block⟩; go_simp; with_reducible exact mild_call (HT.out W hW').2.1 hK)); simp only [Act.put, List.setIfInBounds_toArray, List.set_cons_succ, List.set_cons_zero, Nat.reduceAdd])
              | ((apply mild_det0; (· rfl); (· intro W hW K hK; have hW' : Fr [] w7 W := ⟨hW.os, hW.tape, hW.output, hW.size, hW.block⟩; go_simp; with_reducible exact mild_call (HT.out W hW').2.2.1 hK)); simp only [Act.put, List.setIfInBounds_toArray, List.set_cons_succ, List.set_cons_zero, Nat.reduceAdd])
              | ((apply mild_det0; (· rfl); (· intro W hW K hK; have hW' : Fr [] w7 W := ⟨hW.os, hW.tape, hW.output, hW.size, hW.block⟩; go_simp; with_reducible exact mild_call (HT.out W hW').2.2.2.1 hK)); simp only [Act.put, List.setIfInBounds_toArray, List.set_cons_succ, List.set_cons_zero, Nat.reduceAdd])
              | (apply mild_det0; (· rfl); (· intro W hW K hK; go_simp; exact hK _ (Fr.refl _ _)); simp only [Act.put, List.setIfInBounds_toArray, List.set_cons_succ, List.set_cons_zero, Nat.reduceAdd])
              | (apply mild_slice; (· rfl); (· intro W hW K hK; go_simp; exact hK _ _ ((Fr.refl _ _).alloc _) ⟨_, rfl, heap_alloc_new _ _⟩); simp only [Act.put, List.setIfInBounds_toArray, List.set_cons_succ, List.set_cons_zero, Nat.reduceAdd]))
            refine mild_nil ?_
            intro W2 hW2
            have HW2 := Lib.hid (H7.out.other (w' := W2) ⟨hW2.os, hW2.tape, hW2.output, hW2.size, hW2.block⟩)
            clear hW2 HT H7
            simp only [subAll]
            intros
            (try simp only [Act.put, List.setIfInBounds_toArray, List.set_cons_succ, List.set_cons_zero])
            go_wp2_with fail
            exact ⟨⟨i + 1, D2, by go_num, by omega, hst2, hwl2, HW2.out⟩, by simp only [intOf]; omega⟩
          · obtain ⟨⟨D2, c⟩, hw⟩ : ∃ x, crS D k9 = x := ⟨_, rfl⟩
            go_wp2_with fail
            (with_reducible refine (dCrash_calls w _ d q D D HPK.out k9 HB9.out.2 hw).mono ?_)
            rintro e w6 ⟨rfl, h6⟩
            have H6 := Lib.hid h6
            clear h6
            go_wp2_with fail
            (with_reducible refine (rCrashP w _ d q D2 D H6.out hst0 k9 HB9.out.2 hw).mono ?_)
            rintro e w7 ⟨rfl, h7⟩
            have hkeep := crS_keep HPK.out.fitD.1 hw
            clear H6 hw
            have H7 := Lib.hid h7
            have hst2 : D2.st.size = N := by omega
            have hwl2 : D2.wl.length ≤ i + 1 := by omega
            have HT := Lib.hid (H7.out.test hst2)
            clear h7 hkeep HPK
            go_wp2_with fail
            refine wp_region_mild 24 (by kernel_rfl) (by kernel_rfl) ?_
            simp only [List.take_succ_cons, List.take_zero, List.drop_succ_cons, List.drop_zero, List.take_nil, List.drop_nil]
            repeat (first
              | ((apply mild_det0; (· rfl); (· intro W hW K hK; have hW' : Fr [] w7 W := ⟨hW.os, hW.tape, hW.output, hW.size, hW.block⟩; have y3 := (HT.out W hW').2.2.2.2; go_simp; exact hK _ (Fr.refl _ _))); simp only [Act.put, List.setIfInBounds_toArray, List.set_cons_succ, List.set_cons_zero, Nat.reduceAdd])
              | ((apply mild_det0; (· rfl); (· intro W hW K hK; have hW' : Fr [] w7 W := ⟨hW.os, hW.tape, hW.output, hW.size, hW.block⟩; go_simp; with_reducible exact mild_call (HT.out W hW').1 hK)); simp only [Act.put, List.setIfInBounds_toArray, List.set_cons_succ, List.set_cons_zero, Nat.reduceAdd])
              | ((apply mild_det0; (· rfl); (· intro W hW K hK; have hW' : Fr [] w7 W := ⟨hW.os, hW.tape, hW.output, hW.size, hW.block⟩; go_simp; with_reducible exact mild_call (HT.out W hW').2.1 hK)); simp only [Act.put, List.setIfInBounds_toArray, List.set_cons_succ, List.set_cons_zero, Nat.reduceAdd])
              | ((apply mild_det0; (· rfl); (· intro W hW K hK; have hW' : Fr [] w7 W := ⟨hW.os, hW.tape, hW.output, hW.size, hW.block⟩; go_simp; with_reducible exact mild_call (HT.out W hW').2.2.1 hK)); simp only [Act.put, List.setIfInBounds_toArray, List.set_cons_succ, List.set_cons_zero, Nat.reduceAdd])
              | ((apply mild_det0; (· rfl); (· intro W hW K hK; have hW' : Fr [] w7 W := ⟨hW.os, hW.tape, hW.output, hW.size, hW.block⟩; go_simp; with_reducible exact mild_call (HT.out W hW').2.2.2.1 hK)); simp only [Act.put, List.setIfInBounds_toArray, List.set_cons_succ, List.set_cons_zero, Nat.reduceAdd])
              | (apply mild_det0; (· rfl); (· intro W hW K hK; go_simp; exact hK _ (Fr.refl _ _)); simp only [Act.put, List.setIfInBounds_toArray, List.set_cons_succ, List.set_cons_zero, Nat.reduceAdd])
              | (apply mild_slice; (· rfl); (· intro W hW K hK; go_simp; exact hK _ _ ((Fr.refl _ _).alloc _) ⟨_, rfl, heap_alloc_new _ _⟩); simp only [Act.put, List.setIfInBounds_toArray, List.set_cons_succ, List.set_cons_zero, Nat.reduceAdd]))
            refine mild_nil ?_
            intro W2 hW2
            have HW2 := Lib.hid (H7.out.other (w' := W2) ⟨hW2.os, hW2.tape, hW2.output, hW2.size, hW2.block⟩)
            clear hW2 HT H7
            simp only [subAll]
            intros
            (try simp only [Act.put, List.setIfInBounds_toArray, List.set_cons_succ, List.set_cons_zero])
            go_wp2_with fail
            exact ⟨⟨i + 1, D2, by go_num, by omega, hst2, hwl2, HW2.out⟩, by simp only [intOf]; omega⟩
          · go_wp2_with fail
            (with_reducible refine (dBreak_calls w _ d q D D HPK.out k9 HB9.out.2).mono ?_)
            rintro e w6 ⟨rfl, h6⟩
            have H6 := Lib.hid h6
            clear h6
            go_wp2_with fail
            (with_reducible refine (rBreakP w _ d q _ D H6.out k9 HB9.out.2).mono ?_)
            rintro e w7 ⟨rfl, h7⟩
            have hkeep := brS_keep D k9
            generalize brS D k9 = D2 at h7 hkeep
            clear H6
            have H7 := Lib.hid h7
            have hst2 : D2.st.size = N := by omega
            have hwl2 : D2.wl.length ≤ i + 1 := by omega
            have HT := Lib.hid (H7.out.test hst2)
            clear h7 hkeep HPK
            go_wp2_with fail
            refine wp_region_mild 24 (by kernel_rfl) (by kernel_rfl) ?_
            simp only [List.take_succ_cons, List.take_zero, List.drop_succ_cons, List.drop_zero, List.take_nil, List.drop_nil]
            repeat (first
              | ((apply mild_det0; (· rfl); (· intro W hW K hK; have hW' : Fr [] w7 W := ⟨hW.os, hW.tape, hW.output, hW.size, hW.block⟩; have y3 := (HT.out W hW').2.2.2.2; go_simp; exact hK _ (Fr.refl _ _))); simp only [Act.put, List.setIfInBounds_toArray, List.set_cons_succ, List.set_cons_zero, Nat.reduceAdd])
              | ((apply mild_det0; (· rfl); (· intro W hW K hK; have hW' : Fr [] w7 W := ⟨hW.os, hW.tape, hW.output, hW.size, hW.block⟩; go_simp; with_reducible exact mild_call (HT.out W hW').1 hK)); simp only [Act.put, List.setIfInBounds_toArray, List.set_cons_succ, List.set_cons_zero, Nat.reduceAdd])
              | ((apply mild_det0; (· rfl); (· intro W hW K hK; have hW' : Fr [] w7 W := ⟨hW.os, hW.tape, hW.output, hW.size, hW.block⟩; go_simp; with_reducible exact mild_call (HT.out W hW').2.1 hK)); simp only [Act.put, List.setIfInBounds_toArray, List.set_cons_succ, List.set_cons_zero, Nat.reduceAdd])
              | ((apply mild_det0; (· rfl); (· intro W hW K hK; have hW' : Fr [] w7 W := ⟨hW.os, hW.tape, hW.output, hW.size, hW.block⟩; go_simp; with_reducible exact mild_call (HT.out W hW').2.2.1 hK)); simp only [Act.put, List.setIfInBounds_toArray, List.set_cons_succ, List.set_cons_zero, Nat.reduceAdd])
              | ((apply mild_det0; (· rfl); (· intro W hW K hK; have hW' : Fr [] w7 W := ⟨hW.os, hW.tape, hW.output, hW.size, hW.block⟩; go_simp; with_reducible exact mild_call (HT.out W hW').2.2.2.1 hK)); simp only [Act.put, List.setIfInBounds_toArray, List.set_cons_succ, List.set_cons_zero, Nat.reduceAdd])
              | (apply mild_det0; (· rfl); (· intro W hW K hK; go_simp; exact hK _ (Fr.refl _ _)); simp only [Act.put, List.setIfInBounds_toArray, List.set_cons_succ, List.set_cons_zero, Nat.reduceAdd])
              | (apply mild_slice; (· rfl); (· intro W hW K hK; go_simp; exact hK _ _ ((Fr.refl _ _).alloc _) ⟨_, rfl, heap_alloc_new _ _⟩); simp only [Act.put, List.setIfInBounds_toArray, List.set_cons_succ, List.set_cons_zero, Nat.reduceAdd]))
            refine mild_nil ?_
            intro W2 hW2
            have HW2 := Lib.hid (H7.out.other (w' := W2) ⟨hW2.os, hW2.tape, hW2.output, hW2.size, hW2.block⟩)
            clear hW2 HT H7
            simp only [subAll]
            intros
            (try simp only [Act.put, List.setIfInBounds_toArray, List.set_cons_succ, List.set_cons_zero])
            go_wp2_with fail
            exact ⟨⟨i + 1, D2, by go_num, by omega, hst2, hwl2, HW2.out⟩, by simp only [intOf]; omega⟩
          · obtain ⟨⟨t, c⟩, hw⟩ : ∃ x, rdS D 0 (N : Int) = x := ⟨_, rfl⟩
            go_wp2_with fail
            (with_reducible refine (dRead_calls w _ d q D D HPK.out 0 (N : Int) (Bd.of_i64 (by decide) (by decide)) hbN hw).mono ?_)
            rintro e w6 ⟨rfl, h6⟩
            have H6 := Lib.hid h6
            clear h6
            go_wp2_with fail
            (with_reducible refine (rReadP w _ d q D D H6.out hst0 0 (N : Int) (Bd.of_i64 (by decide) (by decide)) hbN hw).mono ?_)
            rintro e w7 ⟨rfl, h7⟩
            have hkeep := hwl
            obtain ⟨D2, hD2⟩ : ∃ D2, D2 = D := ⟨_, rfl⟩
            subst hD2
            clear H6 hw
            have H7 := Lib.hid h7
            have hst2 : D2.st.size = N := by omega
            have hwl2 : D2.wl.length ≤ i + 1 := by omega
            have HT := Lib.hid (H7.out.test hst2)
            clear h7 hkeep HPK
            go_wp2_with fail
            refine wp_region_mild 24 (by kernel_rfl) (by kernel_rfl) ?_
            simp only [List.take_succ_cons, List.take_zero, List.drop_succ_cons, List.drop_zero, List.take_nil, List.drop_nil]
            repeat (first
              | ((apply mild_det0; (· rfl); (· intro W hW K hK; have hW' : Fr [] w7 W := ⟨hW.os, hW.tape, hW.output, hW.size, hW.block⟩; have y3 := (HT.out W hW').2.2.2.2; go_simp; exact hK _ (Fr.refl _ _))); simp only [Act.put, List.setIfInBounds_toArray, List.set_cons_succ, List.set_cons_zero, Nat.reduceAdd])
              | ((apply mild_det0; (· rfl); (· intro W hW K hK; have hW' : Fr [] w7 W := ⟨hW.os, hW.tape, hW.output, hW.size, hW.block⟩; go_simp; with_reducible exact mild_call (HT.out W hW').1 hK)); simp only [Act.put, List.setIfInBounds_toArray, List.set_cons_succ, List.set_cons_zero, Nat.reduceAdd])
              | ((apply mild_det0; (· rfl); (· intro W hW K hK; have hW' : Fr [] w7 W := ⟨hW.os, hW.tape, hW.output, hW.size, hW.block⟩; go_simp; with_reducible exact mild_call (HT.out W hW').2.1 hK)); simp only [Act.put, List.setIfInBounds_toArray, List.set_cons_succ, List.set_cons_zero, Nat.reduceAdd])
              | ((apply mild_det0; (· rfl); (· intro W hW K hK; have hW' : Fr [] w7 W := ⟨hW.os, hW.tape, hW.output, hW.size, hW.block⟩; go_simp; with_reducible exact mild_call (HT.out W hW').2.2.1 hK)); simp only [Act.put, List.setIfInBounds_toArray, List.set_cons_succ, List.set_cons_zero, Nat.reduceAdd])
              | ((apply mild_det0; (· rfl); (· intro W hW K hK; have hW' : Fr [] w7 W := ⟨hW.os, hW.tape, hW.output, hW.size, hW.block⟩; go_simp; with_reducible exact mild_call (HT.out W hW').2.2.2.1 hK)); simp only [Act.put, List.setIfInBounds_toArray, List.set_cons_succ, List.set_cons_zero, Nat.reduceAdd])
              | (apply mild_det0; (· rfl); (· intro W hW K hK; go_simp; exact hK _ (Fr.refl _ _)); simp only [Act.put, List.setIfInBounds_toArray, List.set_cons_succ, List.set_cons_zero, Nat.reduceAdd])
              | (apply mild_slice; (· rfl); (· intro W hW K hK; go_simp; exact hK _ _ ((Fr.refl _ _).alloc _) ⟨_, rfl, heap_alloc_new _ _⟩); simp only [Act.put, List.setIfInBounds_toArray, List.set_cons_succ, List.set_cons_zero, Nat.reduceAdd]))
            refine mild_nil ?_
            intro W2 hW2
            have HW2 := Lib.hid (H7.out.other (w' := W2) ⟨hW2.os, hW2.tape, hW2.output, hW2.size, hW2.block⟩)
            clear hW2 HT H7
            simp only [subAll]
            intros
            (try simp only [Act.put, List.setIfInBounds_toArray, List.set_cons_succ, List.set_cons_zero])
            go_wp2_with fail
            exact ⟨⟨i + 1, D2, by go_num, by omega, hst2, hwl2, HW2.out⟩, by simp only [intOf]; omega⟩
          -- @@END
      · have hF := H.out.fr
        obtain rfl : i = 60 := by omega
        go_wp2_with fail
        go_ret
        exact ⟨rfl, hF⟩
    · have hF := H.out.fr
      go_wp2_with fail
      go_ret
      exact ⟨rfl, hF⟩
end Go.Proofs.Ytndenbcdhbnamaa
