/- Contract of the document's layer 6: block. -/
import Derived.Test.YtlcfambhjclkiaaShaBlkP
import Derived.Test.YtlcfambhjclkiaaShaRef
import Derived.Test.YtlcfambhjclkiaaShaSeq
namespace Go.Proofs.Ytlcfambhjclkiaa
open Go.RowKit Go.Shelf
set_option linter.unusedVariables false
set_option linter.unusedSimpArgs false

/-- Where the document's block stands: the digest, the keys, the result's box, the words. -/
structure DkS (w0 w : World) (bh bk br bw : Nat) (h k W : List Nat) : Prop where
  ah : UA 51 w bh h
  ak : UA 53 w bk k
  ar : UA 51 w br [0, 0, 0, 0, 0, 0, 0, 0]
  aw : UA 53 w bw W
  fr : Fr [] w0 w
  new : w0.heap.size ≤ bh ∧ bh < bk ∧ bk < br ∧ br < bw
theorem DkS.drewN {w0 w : World} {bh bk br bw : Nat} {h k W : List Nat} (s : DkS w0 w bh bk br bw h k W) (n : Nat) : DkS w0 (w.drewN n) bh bk br bw h k W :=
  ⟨s.ah, s.ak, s.ar, s.aw, s.fr.drewN n, s.new⟩
theorem DkS.drew {w0 w : World} {bh bk br bw : Nat} {h k W : List Nat} (s : DkS w0 w bh bk br bw h k W) : DkS w0 w.drew bh bk br bw h k W :=
  ⟨s.ah, s.ak, s.ar, s.aw, s.fr.drew, s.new⟩
theorem DkS.set {w0 w : World} {bh bk br bw : Nat} {h k W : List Nat} (s : DkS w0 w bh bk br bw h k W) (i v : Nat) : DkS w0 (w.setCell ⟨bw, i, none⟩ (.int .u32 (v : Int))) bh bk br bw h k (W.set i v) := by
  obtain ⟨ah, ak, ar, aw, fr, n0, n1, n2, n3⟩ := s
  have hF : Fr [bw] w (w.setCell ⟨bw, i, none⟩ (.int .u32 (v : Int))) := (Fr.refl _ _).setCell (.inl (by simp)) _
  exact ⟨ah.keep hF (by simp; omega), ak.keep hF (by simp; omega), ar.keep hF (by simp; omega), aw.set i v, fr.setCell (.inr (by simp; omega)) _, n0, n1, n2, n3⟩
theorem DkS.make (w : World) (h k : List Nat) : DkS w ((((w.alloc (.cells (uCells h) 51)).alloc (.cells (uCells k) 53)).alloc (.cells #[.int .u32 0, .int .u32 0, .int .u32 0, .int .u32 0, .int .u32 0, .int .u32 0, .int .u32 0, .int .u32 0] 51)).alloc (.cells u64z 53))
    w.heap.size (w.heap.size + 1) (w.heap.size + 1 + 1) (w.heap.size + 1 + 1 + 1) h k (List.replicate 64 0) := by
  refine ⟨?_, ?_, ?_, UA.new _ _ _ (by simp), (((((Fr.refl _ w).alloc _).alloc _).alloc _).alloc _), by omega⟩
  · exact (((UA.new _ _ _ rfl).keep ((Fr.refl [] _).alloc _) (by simp)).keep ((Fr.refl [] _).alloc _) (by simp)).keep ((Fr.refl [] _).alloc _) (by simp)
  · exact ((UA.new _ _ _ (by simp)).keep ((Fr.refl [] _).alloc _) (by simp)).keep ((Fr.refl [] _).alloc _) (by simp)
  · exact (UA.new8 _ _ (by simp)).keep ((Fr.refl [] _).alloc _) (by simp)
theorem bkW_u (s : List UInt8) : ∀ i, U32s (bkW s i)
  | 0 => U32s.of_all (by intro x hx; simp [bkW] at hx; omega)
  | i + 1 => by
    rw [bkW]
    by_cases h : i < 16
    · rw [if_pos h]; exact (bkW_u s i).set _ _ (bkWord_lt s i)
    · rw [if_neg h]; exact (bkW_u s i).set _ _ (mod32 _)

theorem not_val {e : Nat} (he : e < 4294967296) : e ^^^ 4294967295 < 4294967296 := xor32 he (by decide)
theorem ch_val2 {e f g : Nat} (he : e < 4294967296) (hf : f < 4294967296) (hg : g < 4294967296) : bits .or .u32 (bits .and .u32 (e : Int) (f : Int)) (bits .and .u32 (bits .xor .u32 (if IntKind.u32.signed = true then -1 else IntKind.u32.max) (e : Int)) (g : Int)) = ((shaCh e f g : Nat) : Int) ∧ shaCh e f g < 4294967296 := by
  rw [show (if IntKind.u32.signed = true then (-1 : Int) else IntKind.u32.max) = ((4294967295 : Nat) : Int) from by decide, u32_xor_nat _ _ (by decide) he, Nat.xor_comm, u32_and_nat _ _ he hf, u32_and_nat _ _ (not_val he) hg, u32_or_nat _ _ (and32 he) (and32 (not_val he)), ch_or he hf hg]
  exact ⟨rfl, by rw [← ch_or he hf hg]; exact orr32 (and32 he) (and32 (not_val he))⟩
theorem maj_val2 {a b c : Nat} (ha : a < 4294967296) (hb : b < 4294967296) (hc : c < 4294967296) : bits .or .u32 (bits .or .u32 (bits .and .u32 (a : Int) (b : Int)) (bits .and .u32 (a : Int) (c : Int))) (bits .and .u32 (b : Int) (c : Int)) = ((shaMaj a b c : Nat) : Int) ∧ shaMaj a b c < 4294967296 := by
  rw [u32_and_nat _ _ ha hb, u32_and_nat _ _ ha hc, u32_and_nat _ _ hb hc, u32_or_nat _ _ (and32 ha) (and32 ha), u32_or_nat _ _ (orr32 (and32 ha) (and32 ha)) (and32 hb), maj_or]
  exact ⟨rfl, by rw [← maj_or]; exact orr32 (orr32 (and32 ha) (and32 ha)) (and32 hb)⟩
structure DxS (w0 w : World) (bh bk bw br bx : Nat) (h k W x : List Nat) : Prop where
  ah : UA 51 w bh h
  ak : UA 53 w bk k
  aw : UA 53 w bw W
  ar : UA 51 w br [0, 0, 0, 0, 0, 0, 0, 0]
  ax : UA 51 w bx x
  fr : Fr [] w0 w
  new : w0.heap.size ≤ bh ∧ bh < bk ∧ bk < br ∧ br < bw ∧ bw < bx
theorem DxS.drewN {w0 w : World} {bh bk bw br bx : Nat} {h k W x : List Nat} (s : DxS w0 w bh bk bw br bx h k W x) (n : Nat) : DxS w0 (w.drewN n) bh bk bw br bx h k W x :=
  ⟨s.ah, s.ak, s.aw, s.ar, s.ax, s.fr.drewN n, s.new⟩
theorem DxS.row {w0 w : World} {bh bk bw br bx : Nat} {h k W x : List Nat} (s : DxS w0 w bh bk bw br bx h k W x) (y : List Nat) : DxS w0 (w.setRow bx (uCells y)) bh bk bw br bx h k W y := by
  obtain ⟨ah, ak, aw, ar, ax, fr, n0, n1, n2, n3, n4⟩ := s
  have hF : Fr [bx] w (w.setRow bx (uCells y)) := ⟨rfl, rfl, rfl, by simp, fun k _ hk => setRow_other w bx k _ (fun e => hk (by simp [e]))⟩
  refine ⟨ah.keep hF (by simp; omega), ak.keep hF (by simp; omega), aw.keep hF (by simp; omega), ar.keep hF (by simp; omega), ax.row y, fr.trans hF (fun i hi => .inr (by simp at hi; omega)), n0, n1, n2, n3, n4⟩

theorem DxS.add {w0 w : World} {bh bk bw br bx : Nat} {h k W x : List Nat} (s : DxS w0 w bh bk bw br bx h k W x) (j v : Nat) : DxS w0 (w.setCell ⟨bh, j, none⟩ (.int .u32 (v : Int))) bh bk bw br bx (h.set j v) k W x := by
  obtain ⟨ah, ak, aw, ar, ax, fr, n0, n1, n2, n3, n4⟩ := s
  have hF : Fr [bh] w (w.setCell ⟨bh, j, none⟩ (.int .u32 (v : Int))) := (Fr.refl _ _).setCell (.inl (by simp)) _
  refine ⟨ah.set j v, ak.keep hF (by simp; omega), aw.keep hF (by simp; omega), ar.keep hF (by simp; omega), ax.keep hF (by simp; omega), fr.trans hF (fun i hi => .inr (by simp at hi; omega)), n0, n1, n2, n3, n4⟩
theorem DxS.res {w0 w : World} {bh bk bw br bx : Nat} {h k W x : List Nat} (s : DxS w0 w bh bk bw br bx h k W x) (y : List Nat) : UA 51 (w.setRow br (uCells y)) br y ∧ Fr [] w0 (w.setRow br (uCells y)) := by
  obtain ⟨ah, ak, aw, ar, ax, fr, n0, n1, n2, n3, n4⟩ := s
  have hF : Fr [br] w (w.setRow br (uCells y)) := ⟨rfl, rfl, rfl, by simp, fun k _ hk => setRow_other w br k _ (fun e => hk (by simp [e]))⟩
  exact ⟨ar.row y, fr.trans hF (fun i hi => .inr (by simp at hi; omega))⟩
theorem DxS.make {w0 w : World} {bh bk br bw : Nat} {h k W : List Nat} (s : DkS w0 w bh bk br bw h k W) : DxS w0 ((w.alloc (.cells #[.int .u32 0, .int .u32 0, .int .u32 0, .int .u32 0, .int .u32 0, .int .u32 0, .int .u32 0, .int .u32 0] 51)).setRow w.heap.size (uCells h)) bh bk bw br w.heap.size h k W h := by
  obtain ⟨ah, ak, ar, aw, fr, n0, n1, n2, n3⟩ := s
  have hb := lt_of_heap aw
  have hF : Fr [] w (w.alloc (.cells #[.int .u32 0, .int .u32 0, .int .u32 0, .int .u32 0, .int .u32 0, .int .u32 0, .int .u32 0, .int .u32 0] 51)) := (Fr.refl _ _).alloc _
  refine DxS.row (x := [0, 0, 0, 0, 0, 0, 0, 0]) ⟨ah.keep hF (by simp), ak.keep hF (by simp), aw.keep hF (by simp), ar.keep hF (by simp), UA.new8 _ _ rfl, fr.alloc _, n0, n1, n2, n3, hb⟩ h

set_option maxHeartbeats 4000000 in
set_option maxRecDepth 100000 in
theorem block_calls (w : World) (h k : List Nat) (s : ByteArray) (hs : s.size = 64) (hh : h.length = 8) (hk : k.length = 64) (hkk : k = shaKeys) (uh : U32s h) (uk : U32s k) :
    Calls Try.prog 39 #[.agg (uCells h), .agg (uCells k), .string s] w fun e w' => e = .returned (.agg (uCells (shaIn h (shaWs s.data.toList)))) ∧ Fr [] w w' := by
  have HM := Lib.hid (DkS.make w h k)
  have HH := Lib.hid (And.intro hh (And.intro hk (And.intro hkk (And.intro uh uk))))
  clear hh hk hkk uh uk
  go_enter Try.func39, Try.ntmps39
  go_wp2_with (refine Go.Great.wpList_allocTo rfl (some 7) rfl _ _ (alloc64 _ _ rfl _) ?_)
  have h0 := HM.out
  clear HM
  generalize ((((w.alloc (.cells (uCells h) 51)).alloc (.cells (uCells k) 53)).alloc (.cells _ 51)).alloc (.cells u64z 53)) = W0 at h0 ⊢
  generalize w.heap.size + 1 + 1 + 1 = bw at h0 ⊢
  generalize w.heap.size + 1 + 1 = br at h0 ⊢
  generalize w.heap.size + 1 = bk at h0 ⊢
  generalize w.heap.size = bh at h0 ⊢
  have H0 := Lib.hid h0
  clear h0
  go_loopw [8, 9, 10] (fun v8 v9 v10 wr => ∃ i : Nat, v8 = .int .i64 i ∧ i ≤ 64 ∧ Hid (DkS w wr bh bk br bw h k (bkW s.data.toList i))) (fun v8 _ _ _ => 64 - (intOf v8).toNat)
  case atStart => exact ⟨0, rfl, by decide, H0⟩
  case round =>
    clear H0
    obtain ⟨i, rfl, hi, H⟩ := hrel
    by_cases hlt : i < 64
    · have hL := bkW_len s.data.toList i
      have hU := bkW_u s.data.toList i
      by_cases h16 : i < 16
      · have HE : Hid (bkW s.data.toList (i + 1) = (bkW s.data.toList i).set i (bkWord s.data.toList i)) := Lib.hid (by rw [bkW, if_pos h16])
        have hg : ∀ j, (hj : j < s.size) → s.data.toList.getD j 0 = s[j] := by
          intro j hj
          have h' : j < s.data.toList.length := by rw [Array.length_toList]; exact hj
          rw [List.getD_eq_getElem?_getD, List.getElem?_eq_getElem h']
          rfl
        have l0 : 4 * i < s.size := by omega
        have l1 : 4 * i + 1 < s.size := by omega
        have l2 : 4 * i + 2 < s.size := by omega
        have l3 : 4 * i + 3 < s.size := by omega
        have HW : Hid (bkWord s.data.toList i = (s[4 * i]'l0).toNat * 16777216 + (s[4 * i + 1]'l1).toNat * 65536 + (s[4 * i + 2]'l2).toNat * 256 + (s[4 * i + 3]'l3).toNat) := Lib.hid (by
          rw [bkWord, hg _ (by omega), hg _ (by omega), hg _ (by omega), hg _ (by omega)])
        have hv := bkWord_lt s.data.toList i
        generalize bkWord s.data.toList i = v at HE HW hv
        generalize bkW s.data.toList i = lw at H hL hU HE
        have z0 := H.out.aw.frozen i
        have cw := H.out.aw.cell i (by rw [hL]; exact hlt)
        have b0 := (s[4 * i]'l0).toNat_lt
        have b1 := (s[4 * i + 1]'l1).toNat_lt
        have b2 := (s[4 * i + 2]'l2).toNat_lt
        have b3 := (s[4 * i + 3]'l3).toNat_lt
        have hi0 : (0 : Int) ≤ (i : Int) := by omega
        have hi1 : (i : Int) < 64 := by omega
        have hi2 : (i : Int) < 16 := by omega
        have p0 : (0 : Int) ≤ 4 * (i : Int) := by omega
        have p1 : (0 : Int) ≤ 4 * (i : Int) + 1 := by omega
        have p2 : (0 : Int) ≤ 4 * (i : Int) + 2 := by omega
        have p3 : (0 : Int) ≤ 4 * (i : Int) + 3 := by omega
        have s0 : 4 * (i : Int) < s.size := by omega
        have s1 : 4 * (i : Int) + 1 < s.size := by omega
        have s2 : 4 * (i : Int) + 2 < s.size := by omega
        have s3 : 4 * (i : Int) + 3 < s.size := by omega
        have r0 : (4 * (i : Int)).toNat = 4 * i := by omega
        have r1 : (4 * (i : Int) + 1).toNat = 4 * i + 1 := by omega
        have r2 : (4 * (i : Int) + 2).toNat = 4 * i + 2 := by omega
        have r3 : (4 * (i : Int) + 3).toNat = 4 * i + 3 := by omega
        have HSZ := Lib.hid hs
        have HV : Hid (((s[4 * i]'l0).toNat : Int) * 16777216 + ((s[4 * i + 1]'l1).toNat : Int) * 65536 + ((s[4 * i + 2]'l2).toNat : Int) * 256 + ((s[4 * i + 3]'l3).toNat : Int) = (v : Int)) := Lib.hid (by have := HW.out; omega)
        clear hL hU hg hs HW
        go_wp2_with fail
        go_region
        all_goals
          go_wp2_with fail
          rw [HV.out]
          refine ⟨⟨i + 1, by go_num, by omega, Lib.hid (by rw [HE.out]; exact (H.out.set i v).drew)⟩, by simp only [intOf]; omega⟩
      · have hEE : Hid (bkW s.data.toList (i + 1) = (bkW s.data.toList i).set i (shaE1 (bkW s.data.toList i) i)) := Lib.hid (by rw [bkW, if_neg h16, shaE])
        have hi16 : 16 ≤ i := by omega
        have hEL := hL
        have hEU := hU
        clear hL hU
        generalize bkW s.data.toList i = e at H hEL hEU hEE
        have c0 := H.out.aw.cell (i - 16) (by rw [hEL]; omega)
        have c1 := H.out.aw.cell (i - 7) (by rw [hEL]; omega)
        have c2 := H.out.aw.cell (i - 15) (by rw [hEL]; omega)
        have c3 := H.out.aw.cell (i - 2) (by rw [hEL]; omega)
        have z0 := H.out.aw.frozen i
        have u0 := hEU (i - 16)
        have u1 := hEU (i - 7)
        have u2 := hEU (i - 15)
        have u3 := hEU (i - 2)
        have c4 := H.out.aw.cell i (by rw [hEL]; omega)
        have hE1 : Hid (shaE1 e i = (e.getD (i - 16) 0 + e.getD (i - 7) 0 + shaS0 (e.getD (i - 15) 0) + shaS1 (e.getD (i - 2) 0)) % 4294967296) := Lib.hid rfl
        generalize e.getD (i - 16) 0 = a0 at c0 u0 hE1
        generalize e.getD (i - 7) 0 = a1 at c1 u1 hE1
        generalize e.getD (i - 15) 0 = a2 at c2 u2 hE1
        generalize e.getD (i - 2) 0 = a3 at c3 u3 hE1
        have HV : Hid (((a0 : Int) + a1 + shaS0 a2 + shaS1 a3) % 4294967296 = ((shaE1 e i : Nat) : Int)) := Lib.hid (by rw [hE1.out]; omega)
        obtain ⟨q0, b0⟩ := s0_val u2
        obtain ⟨q1, b1⟩ := s1_val u3
        generalize shaS0 a2 = S0 at q0 b0 HV
        generalize shaS1 a3 = S1 at q1 b1 HV
        clear hE1
        have j0 : (0 : Int) ≤ (i : Int) - 16 := by omega
        have j1 : (0 : Int) ≤ (i : Int) - 15 := by omega
        have j2 : (0 : Int) ≤ (i : Int) - 7 := by omega
        have j3 : (0 : Int) ≤ (i : Int) - 2 := by omega
        have k0 : (i : Int) - 16 < 64 := by omega
        have k1 : (i : Int) - 15 < 64 := by omega
        have k2 : (i : Int) - 7 < 64 := by omega
        have k3 : (i : Int) - 2 < 64 := by omega
        have k4 : (i : Int) < 64 := by omega
        have k5 : (0 : Int) ≤ (i : Int) := by omega
        have m0 : (16 : Int) ≤ (i : Int) := by omega
        have m1 : (15 : Int) ≤ (i : Int) := by omega
        have m2 : (7 : Int) ≤ (i : Int) := by omega
        have m3 : (2 : Int) ≤ (i : Int) := by omega
        have HEL := Lib.hid hEL
        clear hEL hEU
        obtain ⟨w2, hw2⟩ : ∃ w2 : World, wr.drew = w2 := ⟨_, rfl⟩
        have d0 : w2.cell? ⟨bw, i - 16, none⟩ = some (.int .u32 (a0 : Int)) := by rw [← hw2]; exact c0
        have d1 : w2.cell? ⟨bw, i - 7, none⟩ = some (.int .u32 (a1 : Int)) := by rw [← hw2]; exact c1
        have H2 : Hid (DkS w w2 bh bk br bw h k e) := Lib.hid (by rw [← hw2]; exact H.out.drew)
        have d4 : w2.cell? ⟨bw, i, none⟩ = _ := H2.out.aw.cell i (by have := bkW_len; rw [HEL.out]; omega)
        have z2 := H2.out.aw.frozen i
        have r0 : IntKind.i64.wrap ((i : Int) - 16) = (i : Int) - 16 := by rw [IntKind.wrap_i64]; omega
        have r1 : IntKind.i64.wrap ((i : Int) - 7) = (i : Int) - 7 := by rw [IntKind.wrap_i64]; omega
        have r2 : ((i : Int) - 16).toNat = i - 16 := by omega
        have r3 : ((i : Int) - 7).toNat = i - 7 := by omega
        have HW2 := Lib.hid hw2
        clear c0 c1 c4 z0 hw2
        go_wp2_with fail
        clear c2 c3
        refine wp_region_still_tail 29 (by kernel_rfl) (by kernel_rfl) ?_
        simp only [List.take_succ_cons, List.take_zero, List.drop_succ_cons, List.drop_zero]
        change wpStill _ _ wr.drew (fun a' => wpList _ _ _ _ a' wr.drew) _ _
        rw [HW2.out]
        repeat still_step
        refine wpStill_step (fun K hK => ?_)
        go_simp
        with_reducible refine ⟨_, still0 (fun W => turn7_calls W a2 rfl u2), hK _ ?_⟩
        clear hK K
        repeat still_step
        refine wpStill_step (fun K hK => ?_)
        go_simp
        with_reducible refine ⟨_, still0 (fun W => turn18_calls W a2 rfl u2), hK _ ?_⟩
        clear hK K
        repeat still_step
        refine wpStill_step (fun K hK => ?_)
        go_simp
        with_reducible refine ⟨_, still0 (fun W => turn17_calls W a3 rfl u3), hK _ ?_⟩
        clear hK K
        repeat still_step
        refine wpStill_step (fun K hK => ?_)
        go_simp
        with_reducible refine ⟨_, still0 (fun W => turn19_calls W a3 rfl u3), hK _ ?_⟩
        clear hK K
        repeat still_step
        refine wpStill_nil ?_
        go_wp2_with fail
        clear r0 r1 r2 r3
        rw [HV.out]
        refine ⟨⟨i + 1, by go_num, by omega, Lib.hid (by rw [hEE.out]; exact H2.out.set _ _)⟩, by simp only [intOf]; omega⟩
    · obtain rfl : i = 64 := by omega
      have HX0 : Hid ((shaWs s.data.toList).length = 64 ∧ U32s (shaWs s.data.toList)) := Lib.hid (by rw [← bkW_all]; exact ⟨bkW_len _ 64, bkW_u _ 64⟩)
      rw [bkW_all] at H
      obtain ⟨W, hW⟩ : ∃ W, shaWs s.data.toList = W := ⟨_, rfl⟩
      rw [hW] at H HX0
      have HWs := Lib.hid hW
      clear hi hlt hs hW
      have HI : Hid ((Try.prog.info? 51).map (·.size) = some (uCells h).size) := Lib.hid (by rw [uCells_size, HH.out.1]; exact info8)
      have HS : Hid ((#[.int .u32 0, .int .u32 0, .int .u32 0, .int .u32 0, .int .u32 0, .int .u32 0, .int .u32 0, .int .u32 0] : Array Value).size = (uCells h).size) := Lib.hid (by rw [uCells_size, HH.out.1]; rfl)
      have HM := Lib.hid (DxS.make H.out)
      go_wp2_with (first | (refine wpList_load_row rfl _ _ rfl bh rfl 51 (uCells h) (0, 0) _ H.out.ah Try.underlying51 rfl HI.out ?_) | (refine wpList_store_row rfl _ _ _ rfl wr.heap.size (uCells h) rfl rfl 51 #[.int .u32 0, .int .u32 0, .int .u32 0, .int .u32 0, .int .u32 0, .int .u32 0, .int .u32 0, .int .u32 0] (heap_alloc_new _ _) HI.out HS.out (uCells_one _) ?_))
      have h0 := HM.out
      clear HM HS H
      generalize ((wr.alloc (.cells #[.int .u32 0, .int .u32 0, .int .u32 0, .int .u32 0, .int .u32 0, .int .u32 0, .int .u32 0, .int .u32 0] 51)).setRow wr.heap.size (uCells h)) = W0 at h0 ⊢
      generalize wr.heap.size = bx at h0 ⊢
      have H0 := Lib.hid h0
      clear h0
      go_loopw [12, 13, 14, 15, 16] (fun v12 v13 v14 v15 v16 wr => ∃ i : Nat, v12 = .int .i64 i ∧ i ≤ 64 ∧ Hid (DxS w wr bh bk bw br bx h k W (shaRds W h i))) (fun v12 _ _ _ _ _ => 64 - (intOf v12).toNat)
      case atStart => exact ⟨0, rfl, by decide, H0⟩
      case round =>
        clear H0
        obtain ⟨i, rfl, hi, H⟩ := hrel
        by_cases hlt : i < 64
        · have hL := shaRds_len W h HH.out.1 i
          have hU := shaRds_u W h HH.out.2.2.2.1 i
          have HE : Hid (shaRds W h (i + 1) = shaRd (k.getD i 0) (W.getD i 0) (shaRds W h i)) := Lib.hid (by rw [HH.out.2.2.1]; rfl)
          generalize shaRds W h i = x at H hL hU HE
          obtain ⟨x0, x1, x2, x3, x4, x5, x6, x7, rfl⟩ := list8 hL
          have c0 := H.out.ax.cell 0 (by show 0 < 8; decide)
          have c1 := H.out.ax.cell 1 (by show 1 < 8; decide)
          have c2 := H.out.ax.cell 2 (by show 2 < 8; decide)
          have c3 := H.out.ax.cell 3 (by show 3 < 8; decide)
          have c4 := H.out.ax.cell 4 (by show 4 < 8; decide)
          have c5 := H.out.ax.cell 5 (by show 5 < 8; decide)
          have c6 := H.out.ax.cell 6 (by show 6 < 8; decide)
          have c7 := H.out.ax.cell 7 (by show 7 < 8; decide)
          have ck := H.out.ak.cell i (by rw [HH.out.2.1]; exact hlt)
          have cw := H.out.aw.cell i (by rw [HX0.out.1]; exact hlt)
          have u0 := hU 0
          have u1 := hU 1
          have u2 := hU 2
          have u3 := hU 3
          have u4 := hU 4
          have u5 := hU 5
          have u6 := hU 6
          have u7 := hU 7
          have uk := HH.out.2.2.2.2 i
          have uW := HX0.out.2 i
          simp only [List.getD_cons_zero, List.getD_cons_succ] at c0 c1 c2 c3 c4 c5 c6 c7 u0 u1 u2 u3 u4 u5 u6 u7
          generalize k.getD i 0 = ki at ck uk HE
          generalize W.getD i 0 = wi at cw uW HE
          have hi0 : (0 : Int) ≤ (i : Int) := by omega
          have hi1 : (i : Int) < 64 := by omega
          clear hL hU
          obtain ⟨t, u, v, z, ht, hu, ht1, hu1, hv, hz, hrd⟩ := rd_parts ki wi x0 x1 x2 x3 x4 x5 x6 x7
          rw [hrd] at HE
          clear hrd
          obtain ⟨q1, b1⟩ := t0_val u4
          obtain ⟨q2, b2⟩ := t1_val u0
          obtain ⟨q3, b3⟩ := ch_val2 u4 u5 u6
          obtain ⟨q4, b4⟩ := maj_val2 u0 u1 u2
          generalize shaT0 x4 = T0 at *
          generalize shaT1 x0 = T1 at *
          generalize shaCh x4 x5 x6 = Ch at *
          generalize shaMaj x0 x1 x2 = Mj at *
          have HQ := Lib.hid (And.intro ht (And.intro hu (And.intro hv hz)))
          clear ht hu hv hz
          go_wp2_with fail
          go_quiet ((first | (go_at_call 54; with_reducible exact still1 (fun W => turn6_calls W x4 rfl u4)) | (go_at_call 54; with_reducible exact still1 (fun W => turn11_calls W x4 rfl u4)) | (go_at_call 54; with_reducible exact still1 (fun W => turn25_calls W x4 rfl u4))))
          rw [HQ.out.1]
          clear q1 q3
          (try rw [show (if IntKind.u32.signed = true then (-1 : Int) else IntKind.u32.max) = 4294967295 from by decide])
          go_wp2_with fail
          go_quiet ((first | (go_at_call 54; with_reducible exact still2 (fun W => turn2_calls W x0 rfl u0)) | (go_at_call 54; with_reducible exact still2 (fun W => turn13_calls W x0 rfl u0)) | (go_at_call 54; with_reducible exact still2 (fun W => turn22_calls W x0 rfl u0))))
          rw [HQ.out.2.1]
          have hv := HQ.out.2.2.1
          have hz := HQ.out.2.2.2
          go_wp2_with (refine wpList_store_row rfl _ _ _ rfl bx (uCells [v, x0, x1, x2, z, x4, x5, x6]) rfl rfl 51 (uCells [x0, x1, x2, x3, x4, x5, x6, x7]) (H.out.drewN _).ax info8 rfl (uCells_one _) ?_)
          refine ⟨⟨i + 1, by go_num, by omega, Lib.hid (by rw [HE.out]; exact (H.out.drewN _).row _)⟩, by simp only [intOf]; omega⟩
        · obtain rfl : i = 64 := by omega
          have HE : Hid (shaIn h W = shaAdd h (shaRds W h 64)) := Lib.hid rfl
          have hL := shaRds_len W h HH.out.1 64
          have hU := shaRds_u W h HH.out.2.2.2.1 64
          generalize shaRds W h 64 = x at H HE hL hU
          have HX := Lib.hid (And.intro hL hU)
          clear hL hU hlt hi
          go_wp2_with fail
          go_loopw [17] (fun v17 wr => ∃ j : Nat, v17 = .int .i64 j ∧ j ≤ 8 ∧ Hid (DxS w wr bh bk bw br bx (shaAddK h x j) k W x)) (fun v17 _ => 8 - (intOf v17).toNat)
          case atStart => exact ⟨0, rfl, by decide, Lib.hid (by rw [shaAddK_zero h x HH.out.1]; exact H.out)⟩
          case round =>
            clear H
            obtain ⟨j, rfl, hj, H⟩ := hrel
            by_cases hlt : j < 8
            · have c0 := H.out.ah.cell j (by rw [shaAddK_len]; exact hlt)
              rw [shaAddK_get h x j hlt] at c0
              have c1 := H.out.ax.cell j (by rw [HX.out.1]; exact hlt)
              have z0 := H.out.ah.frozen j
              have HS := Lib.hid (shaAddK_succ h x j hlt)
              have u0 := HH.out.2.2.2.1 j
              have u1 := HX.out.2 j
              generalize h.getD j 0 = a at c0 u0 HS
              generalize x.getD j 0 = b at c1 u1 HS
              have hj0 : (0 : Int) ≤ (j : Int) := by omega
              have hj1 : (j : Int) < 8 := by omega
              obtain ⟨v, hv, hv2⟩ : ∃ v : Nat, ((a : Int) + b) % 4294967296 = (v : Int) ∧ (a + b) % 4294967296 = v := ⟨(a + b) % 4294967296, by omega, rfl⟩
              rw [hv2] at HS
              clear hv2
              go_wp2_with fail
              go_region
              all_goals
                go_wp2_with fail
                refine ⟨⟨j + 1, by go_num, by omega, Lib.hid (by rw [HS.out]; exact ((H.out.add j v).drewN 1))⟩, by simp only [intOf]; omega⟩
            · obtain rfl : j = 8 := by omega
              rw [shaAddK_end, ← HE.out] at H
              have hl8 : (uCells (shaIn h W)).size = 8 := by rw [uCells_size, HE.out]; rfl
              have HI8 : Hid ((Try.prog.info? 51).map (·.size) = some (uCells (shaIn h W)).size) := Lib.hid (by rw [hl8]; exact info8)
              have HZ8 := Lib.hid (show (uCells [0, 0, 0, 0, 0, 0, 0, 0]).size = (uCells (shaIn h W)).size from by rw [hl8]; rfl)
              generalize hres : shaIn h W = res at H HI8 HZ8
              have HRES := Lib.hid hres
              clear hl8 hlt hj HE HI hres
              have HR := Lib.hid (H.out.res res)
              go_wp2_with (first | (refine wpList_load_row rfl _ _ rfl bh rfl 51 (uCells res) (0, 0) _ H.out.ah Try.underlying51 rfl HI8.out ?_) | (refine wpList_store_row rfl _ _ _ rfl br (uCells res) rfl rfl 51 (uCells [0, 0, 0, 0, 0, 0, 0, 0]) H.out.ar HI8.out HZ8.out (uCells_one _) ?_))
              refine bodyPost_ret (results_cell_row Try.results39 _ _ br 51 (uCells res) (0, 0) _ rfl HR.out.1 Try.underlying51 rfl HI8.out) rfl ⟨by rw [HWs.out, HRES.out], HR.out.2⟩
end Go.Proofs.Ytlcfambhjclkiaa
