/- Contract of the document's layer 6: Sum. -/
import Derived.Test.YtlcfambhjclkiaaShaDSumP
import Derived.Deep.Cut
import Derived.Deep.RegionHeld3
namespace Go.Proofs.Ytlcfambhjclkiaa
open Go.RowKit Go.Shelf
set_option linter.unusedVariables false
set_option linter.unusedSimpArgs false

/-- The primes, and what comes of them. -/
structure PsOk (ps : List Nat) : Prop where
  len : ps.length = 64
  lt : ∀ i, ps.getD i 0 < 18446744073709551616
  key : ∀ i, i < 64 → rootP (ps.getD i 0) true = shaKeys.getD i 0
  beg : ∀ i, i < 8 → rootP (ps.getD i 0) false = shaBegin.getD i 0
theorem primes_ex (w : World) :
    Calls Try.prog 37 #[.int .i64 64] w fun e w' => ∃ ps, PsOk ps ∧ ∃ A cap, e = .returned (.slice A 64 cap) ∧ RdV w' A (ps.map uVal) ∧ (∀ ad, A = some ad → ad.block < w'.heap.size) ∧ Fr [] w w' := by
  refine (primes_calls w).mono ?_
  rintro e w' ⟨v, r, rfl, hs, hf, hn⟩
  have hlt := hs.lt
  obtain ⟨A, cap, rfl, hnc, hcm, hrd, hblk⟩ := hs.reads
  refine ⟨prAt 310, ⟨prAt_len.2, fun i => ?_, key_root, begin_root⟩, A, cap, rfl, hrd, fun ad ha => hlt _ (hblk ad ha), hf⟩
  rw [List.getD_eq_getElem?_getD]
  cases hk : (prAt 310)[i]? with
  | none => decide
  | some x => have := prAt_lt 310 x (List.mem_of_getElem? hk); show x < _; omega

theorem fill_zero_step (s : ByteArray) (j : Nat) : s ++ ⟨#[128]⟩ ++ lB (List.replicate j 0) ++ ⟨#[0]⟩ = s ++ ⟨#[128]⟩ ++ lB (List.replicate (j + 1) 0) := by
  rw [List.replicate_succ', bapp_assoc, show (⟨#[0]⟩ : ByteArray) = lB [0] from rfl, lB_app]
theorem conv1 (W : World) (c : Int) (h0 : 0 ≤ c) (h1 : c < 256) : (convert 27 9 (.slice (some ⟨W.heap.size, 0, none⟩) 1 1)).run Try.prog (W.alloc (.cells #[.int .u8 c] 5)) = .ok (.string (bOf c)) (W.alloc (.cells #[.int .u8 c] 5)) := by
  refine run_toString Try.underlying27 Try.underlying5 Try.underlying9 (bOf_size c).symm (RdV.new _ _ _ rfl ?_) (by rintro ad ⟨⟩; rfl)
  have : ((UInt8.ofNat c.toNat).toNat : Int) = c := by
    rw [UInt8.toNat_ofNat']
    omega
  simp only [Lib.strCells, bOf, List.map_cons, List.map_nil, this]

theorem shaNum_wrap (x : Nat) (hx : x < 4294967296) : Lib.strCells (lB (shaNum x)) = [.int .u8 (IntKind.u8.wrap ((x : Int) / 16777216)), .int .u8 (IntKind.u8.wrap ((x : Int) / 65536)), .int .u8 (IntKind.u8.wrap ((x : Int) / 256)), .int .u8 (IntKind.u8.wrap (x : Int))] := by
  have hw : ∀ y : Int, IntKind.u8.wrap y = y % 256 := fun y => by first | rfl | simp [IntKind.wrap]
  rw [shaNum_cells x hx, hw, hw, hw, hw, show (x : Int) / 16777216 % 256 = (x : Int) / 16777216 from by omega]
theorem rdv_drew {w : World} {A : Option Addr} {vs : List Value} (h : RdV w A vs) : RdV w.drew A vs := h
theorem shaSum_size' (s : ByteArray) : (shaSum s).size = 4 * 8 := by
  rw [shaSum, shaOut, shaOut_len, ← shaHs_scan, (shaHs_ok _).1]
set_option maxHeartbeats 8000000 in
set_option maxRecDepth 100000 in
theorem DSum_calls (w : World) (s : ByteArray) (hs : s.size ≤ 1000000) :
    Calls Try.prog 17 #[.string s] w fun e w' => e = .returned (.string (shaSum s)) ∧ Fr [] w w' := by
  obtain ⟨z, hz, hz64⟩ : ∃ z : Nat, shaZeros s.size = z ∧ z < 64 := ⟨_, rfl, by unfold shaZeros; omega⟩
  have hzm : ∀ j, j ≤ z → ((s.size + 1 + j) % 64 = 56 ↔ j = z) := by
    intro j hj
    rw [← hz] at hj ⊢
    unfold shaZeros at *
    omega
  have HZM := Lib.hid hzm
  obtain ⟨n, hn⟩ := shaFill_size s
  have HHD := Lib.hid (shaHd_all s n hn)
  have HFILL : Hid (shaFill s = s ++ ⟨#[128]⟩ ++ lB (List.replicate z 0) ++ lB (shaLen (s.size * 8))) := Lib.hid (by rw [← hz]; rfl)
  have HN := Lib.hid hn
  have HRES : Hid (shaSum s = lB ((shaH s).flatMap shaNum)) := Lib.hid rfl
  clear hz hzm hn
  go_enter Try.func17, Try.ntmps17
  go_wp2_with fail
  (with_reducible refine (primes_ex _).mono ?_)
  rintro e w1 ⟨ps, hps, A, cap, rfl, hrd, hab, hf1⟩
  have HPS := Lib.hid hps
  have h0 := DsS.make w w1 hf1
  have hr0 : RdV ((w1.alloc (.cells #[.int .u32 0, .int .u32 0, .int .u32 0, .int .u32 0, .int .u32 0, .int .u32 0, .int .u32 0, .int .u32 0] 51)).alloc (.cells u64z 53)) A (ps.map uVal) := hrd.keep (((Fr.refl [] w1).alloc _).alloc _) (by simp)
  have HAB := Lib.hid hab
  clear hps hrd hab hf1
  go_wp2_with (refine Go.Great.wpList_allocTo rfl (some 5) rfl _ _ (alloc64 _ _ rfl _) ?_)
  generalize ((w1.alloc (.cells #[.int .u32 0, .int .u32 0, .int .u32 0, .int .u32 0, .int .u32 0, .int .u32 0, .int .u32 0, .int .u32 0] 51)).alloc (.cells u64z 53)) = W0 at h0 hr0 ⊢
  generalize w1.heap.size + 1 = bk at h0 ⊢
  generalize w1.heap.size = bh at h0 HAB ⊢
  have H0 := Lib.hid (And.intro h0 hr0)
  clear h0 hr0
  go_loopw [6] (fun v6 wr => ∃ i : Nat, v6 = .int .i64 i ∧ i ≤ 64 ∧ Hid (DsS w wr bh bk (fillK shaBegin 8 i) (fillK shaKeys 64 i) ∧ RdV wr A (ps.map uVal))) (fun v6 _ => 64 - (intOf v6).toNat)
  case atStart => exact ⟨0, rfl, by decide, H0⟩
  case round =>
    clear H0
    obtain ⟨i, rfl, hi, H⟩ := hrel
    by_cases hlt : i < 64
    · as_aux_lemma =>
        have HE := Lib.hid (fillK_set shaKeys 64 i rfl hlt)
        have hkl := fillK_len shaKeys 64 i rfl
        rw [← HPS.out.key i hlt] at HE
        have hp := HPS.out.lt i
        obtain ⟨ad, rfl, hc⟩ := H.out.2 i (uVal (ps.getD i 0)) (by rw [List.getElem?_map, List.getD_eq_getElem?_getD, List.getElem?_eq_getElem (by rw [HPS.out.len]; exact hlt)]; rfl)
        have habk : (ad.add i).block < bh := by rw [show (ad.add i).block = ad.block from by unfold Addr.add; split <;> rfl]; exact HAB.out ad rfl
        have HB : Hid (i < 8 → (fillK shaBegin 8 i).set i (rootP (ps.getD i 0) false) = fillK shaBegin 8 (i + 1)) := Lib.hid (fun h8 => by rw [HPS.out.beg i h8]; exact fillK_set shaBegin 8 i rfl h8)
        have HB2 : Hid (¬ i < 8 → fillK shaBegin 8 i = fillK shaBegin 8 (i + 1)) := Lib.hid (fun h8 => by rw [fillK_all shaBegin 8 i rfl (by omega), fillK_all shaBegin 8 (i + 1) rfl (by omega)])
        have hbl := fillK_len shaBegin 8 i rfl
        generalize ps.getD i 0 = p at HE hp hc HB
        have hc' : wr.cell? (ad.add i) = some (.int .u64 (p : Int)) := hc
        clear hc
        have hi0 : (0 : Int) ≤ (i : Int) := by omega
        have hi1 : (i : Int) < 64 := by omega
        have c0 := H.out.1.ak.cell i (by rw [hkl]; exact hlt)
        generalize fillK shaKeys 64 i = lk at H HE hkl c0
        generalize fillK shaBegin 8 i = lh at H HB HB2 hbl
        have HR1 := Lib.hid (fun W => root_calls W p rfl hp true)
        have HR2 := Lib.hid (fun W => root_calls W p rfl hp false)
        generalize rootP p true = k1 at HE HR1
        generalize rootP p false = k2 at HB HR2
        go_wp2_with fail
        (with_reducible refine (HR1.out _).mono ?_)
        rintro e w2 ⟨rfl, hf2⟩
        have H2 := Lib.hid (And.intro (H.out.1.keep hf2) (H.out.2.keep hf2 (by simp)))
        have hc2 := hf2.cell' hc' (by simp)
        have z0 := H2.out.1.ak.frozen i
        have d0 := H2.out.1.ak.cell i (by rw [hkl]; exact hlt)
        have H3 := Lib.hid (And.intro (H2.out.1.setk i k1) (H2.out.2.keep (S := [bk]) ((Fr.refl _ _).setCell (.inl (by simp)) (.int .u32 (k1 : Int)) (p := ⟨bk, i, none⟩)) (by rintro ad' ⟨⟩; have := HAB.out ad rfl; have := H2.out.1.nw; simp; omega)))
        have hc3 : (w2.setCell ⟨bk, i, none⟩ (.int .u32 (k1 : Int))).cell? (ad.add i) = some (.int .u64 (p : Int)) := Fr.cell' (S := [bk]) ((Fr.refl _ _).setCell (.inl (by simp)) _) hc2 (by have := H2.out.1.nw; simp; omega)
        rw [HE.out] at H3
        clear hf2 H hc' c0
        by_cases h8 : i < 8
        · have h8' : (i : Int) < 8 := by omega
          have HB' := Lib.hid (HB.out h8)
          clear HB HB2
          go_wp2_with fail
          clear hc2 z0 d0 hc3
          generalize w2.setCell ⟨bk, i, none⟩ (.int .u32 (k1 : Int)) = W3 at H3 ⊢
          (with_reducible refine (HR2.out _).mono ?_)
          rintro e w4 ⟨rfl, hf4⟩
          have H4 := Lib.hid (And.intro (H3.out.1.keep hf4) (H3.out.2.keep hf4 (by simp)))
          have z0 := H4.out.1.ah.frozen i
          have d0 := H4.out.1.ah.cell i (by rw [hbl]; exact h8)
          have H5 := Lib.hid (And.intro (H4.out.1.seth i k2) (H4.out.2.keep (S := [bh]) ((Fr.refl _ _).setCell (.inl (by simp)) (.int .u32 (k2 : Int)) (p := ⟨bh, i, none⟩)) (by rintro ad' ⟨⟩; have := HAB.out ad rfl; simp; omega)))
          rw [HB'.out] at H5
          clear hf4 H3
          go_wp2_with fail
          exact ⟨⟨i + 1, by go_num, by omega, H5⟩, by simp only [intOf]; omega⟩
        · have h8' : ¬ (i : Int) < 8 := by omega
          rw [HB2.out h8] at H3
          clear HB HB2
          go_wp2_with fail
          exact ⟨⟨i + 1, by go_num, by omega, H3⟩, by simp only [intOf]; omega⟩
    · obtain rfl : i = 64 := by omega
      rw [fillK_all shaBegin 8 64 rfl (by decide), fillK_all shaKeys 64 64 rfl (by decide)] at H
      have H1 := Lib.hid H.out.1
      have hkk : shaKeys.length = 64 := rfl
      have HKU := Lib.hid keys_u
      generalize hK : shaKeys = K at H1 hkk HKU
      have HK := Lib.hid hK
      have b1 : (⟨#[128]⟩ : ByteArray).size = 1 := rfl
      have hsum : s.size + 1 ≤ 9223372036854775807 := by omega
      clear H HPS HAB hi hlt hK
      go_wp2_with fail
      have HZ0 : Hid (s ++ ⟨#[128]⟩ = s ++ ⟨#[128]⟩ ++ lB (List.replicate 0 0)) := Lib.hid (bapp_nil _).symm
      go_loop [7] (fun v7 => ∃ j : Nat, j ≤ z ∧ v7 = .string (s ++ ⟨#[128]⟩ ++ lB (List.replicate j 0))) (fun v7 => match v7 with | .string t => s.size + 1 + z - t.size | _ => 0)
      case atStart => exact ⟨0, Nat.zero_le _, by rw [← HZ0.out]⟩
      case round =>
        clear HZ0
        obtain ⟨j, hj, rfl⟩ := hrel
        have hT : (s ++ ⟨#[128]⟩ ++ lB (List.replicate j 0)).size = s.size + 1 + j := by
          rw [ByteArray.size_append, ByteArray.size_append, lB_size, List.length_replicate]; rfl
        have hm := HZM.out j hj
        by_cases hlt : j < z
        · as_aux_lemma =>
            have HS := Lib.hid (fill_zero_step s j)
            generalize s ++ ⟨#[128]⟩ ++ lB (List.replicate j 0) = T at hT HS ⊢
            have ht : ((T.size : Int) % 64 == 56) = false := beq_eq_false_iff_ne.2 (by omega)
            have hsum2 : T.size + (⟨#[0]⟩ : ByteArray).size ≤ 9223372036854775807 := by show T.size + 1 ≤ _; omega
            have HT2 : Hid ((T ++ ⟨#[0]⟩ : ByteArray).size = T.size + 1) := Lib.hid ByteArray.size_append
            have HT := Lib.hid hT
            clear hm hT
            go_wp2_with fail
            refine ⟨⟨j + 1, by omega, by rw [HS.out]⟩, ?_⟩
            have h1 := HT2.out
            have h2 := HT.out
            simp only []
            omega
        · obtain rfl : j = z := by omega
          obtain ⟨N, hN, hNi⟩ : ∃ N : Nat, s.size * 8 = N ∧ (s.size : Int) * 8 = (N : Int) := ⟨_, rfl, by omega⟩
          have hN1 : N ≤ 100000000 := by omega
          rw [hN] at HFILL
          have HTK := Lib.hid (shaLen_take N (s ++ ⟨#[128]⟩ ++ lB (List.replicate j 0)))
          generalize s ++ ⟨#[128]⟩ ++ lB (List.replicate j 0) = P at hT HFILL HTK ⊢
          have hP : P.size ≤ 2000000 := by omega
          have ht : ((P.size : Int) % 64 == 56) = true := beq_iff_eq.2 (by omega)
          have HP0 : Hid (P = P ++ lB ((shaLen N).take 0)) := Lib.hid (bapp_nil _).symm
          clear hm hlt hj HZM hT b1 hsum hz64
          go_wp2_with fail
          clear ht
          go_loopw [7, 9] (fun v7 v9 wr => ∃ j : Nat, j ≤ 8 ∧ v9 = .int .i64 (7 - (j : Int)) ∧ v7 = .string (P ++ lB ((shaLen N).take j)) ∧ Hid (DsS w wr bh bk shaBegin K)) (fun _ v9 _ => (intOf v9 + 1).toNat)
          case atStart => exact ⟨0, by decide, rfl, by rw [← HP0.out], H1⟩
          case round =>
            clear H1 HP0
            obtain ⟨j, hj, rfl, rfl, H⟩ := hrel
            by_cases hlt : j < 8
            · as_aux_lemma =>
                have HK : Hid (∀ (x : Int), x = ((N / 2 ^ (56 - 8 * j) % 256 : Nat) : Int) → P ++ lB ((shaLen N).take j) ++ bOf x = P ++ lB ((shaLen N).take (j + 1))) := Lib.hid (fun x hx => HTK.out j hlt x hx)
                have hS : (P ++ lB ((shaLen N).take j)).size ≤ 3000000 := by simp only [ByteArray.size_append]; have h8 : (lB ((shaLen N).take j)).size ≤ 8 := (by rw [lB_size, List.length_take]; omega); omega
                have hbs := bOf_size
                generalize P ++ lB ((shaLen N).take j) = acc at HK hS ⊢
                match j, hlt with
                | 0, _ =>
                    go_wp2_with fail
                    rw [conv1]
                    rotate_left
                    · omega
                    · omega
                    simp only [Result.andThen]
                    rw [Oper.upon_value]
                    go_wp2_with fail
                    rw [HK.out]
                    rotate_left
                    · omega
                    exact ⟨⟨1, by decide, rfl, rfl, Lib.hid (H.out.keep ((Fr.refl [] _).alloc _))⟩, by simp [intOf]⟩
                | 1, _ =>
                    go_wp2_with fail
                    rw [conv1]
                    rotate_left
                    · omega
                    · omega
                    simp only [Result.andThen]
                    rw [Oper.upon_value]
                    go_wp2_with fail
                    rw [HK.out]
                    rotate_left
                    · omega
                    exact ⟨⟨2, by decide, rfl, rfl, Lib.hid (H.out.keep ((Fr.refl [] _).alloc _))⟩, by simp [intOf]⟩
                | 2, _ =>
                    go_wp2_with fail
                    rw [conv1]
                    rotate_left
                    · omega
                    · omega
                    simp only [Result.andThen]
                    rw [Oper.upon_value]
                    go_wp2_with fail
                    rw [HK.out]
                    rotate_left
                    · omega
                    exact ⟨⟨3, by decide, rfl, rfl, Lib.hid (H.out.keep ((Fr.refl [] _).alloc _))⟩, by simp [intOf]⟩
                | 3, _ =>
                    go_wp2_with fail
                    rw [conv1]
                    rotate_left
                    · omega
                    · omega
                    simp only [Result.andThen]
                    rw [Oper.upon_value]
                    go_wp2_with fail
                    rw [HK.out]
                    rotate_left
                    · omega
                    exact ⟨⟨4, by decide, rfl, rfl, Lib.hid (H.out.keep ((Fr.refl [] _).alloc _))⟩, by simp [intOf]⟩
                | 4, _ =>
                    go_wp2_with fail
                    rw [conv1]
                    rotate_left
                    · omega
                    · omega
                    simp only [Result.andThen]
                    rw [Oper.upon_value]
                    go_wp2_with fail
                    rw [HK.out]
                    rotate_left
                    · omega
                    exact ⟨⟨5, by decide, rfl, rfl, Lib.hid (H.out.keep ((Fr.refl [] _).alloc _))⟩, by simp [intOf]⟩
                | 5, _ =>
                    go_wp2_with fail
                    rw [conv1]
                    rotate_left
                    · omega
                    · omega
                    simp only [Result.andThen]
                    rw [Oper.upon_value]
                    go_wp2_with fail
                    rw [HK.out]
                    rotate_left
                    · omega
                    exact ⟨⟨6, by decide, rfl, rfl, Lib.hid (H.out.keep ((Fr.refl [] _).alloc _))⟩, by simp [intOf]⟩
                | 6, _ =>
                    go_wp2_with fail
                    rw [conv1]
                    rotate_left
                    · omega
                    · omega
                    simp only [Result.andThen]
                    rw [Oper.upon_value]
                    go_wp2_with fail
                    rw [HK.out]
                    rotate_left
                    · omega
                    exact ⟨⟨7, by decide, rfl, rfl, Lib.hid (H.out.keep ((Fr.refl [] _).alloc _))⟩, by simp [intOf]⟩
                | 7, _ =>
                    go_wp2_with fail
                    rw [conv1]
                    rotate_left
                    · omega
                    · omega
                    simp only [Result.andThen]
                    rw [Oper.upon_value]
                    go_wp2_with fail
                    rw [HK.out]
                    rotate_left
                    · omega
                    exact ⟨⟨8, by decide, rfl, rfl, Lib.hid (H.out.keep ((Fr.refl [] _).alloc _))⟩, by simp [intOf]⟩
                | _ + 8, h => exact absurd h (by omega)
            · obtain rfl : j = 8 := by omega
              rw [show (7 : Int) - ((8 : Nat) : Int) = -1 from rfl]
              have HT : Hid (P ++ lB ((shaLen N).take 8) = shaFill s) := Lib.hid (by rw [HFILL.out]; rfl)
              rw [HT.out]
              clear HT HFILL HTK hP hj hlt
              have HFS : Hid ((shaFill s).size = s.size + 1 + shaZeros s.size + 8) := Lib.hid (by simp only [shaFill, ByteArray.size_append, lB_size, List.length_replicate]; rfl)
              have hzz : shaZeros s.size < 64 := by unfold shaZeros; omega
              generalize hF : shaFill s = F at HN HHD HFS ⊢
              have HF := Lib.hid hF
              clear hF
              have h0 := H.out
              rw [show shaBegin = shaHd F 0 from rfl] at h0
              have H0 := Lib.hid h0
              have HI : Hid ((Try.prog.info? 53).map (·.size) = some (uCells K).size) := Lib.hid (by rw [uCells_size, hkk]; exact info64)
              have hmod : F.size < 9223372036854775807 := by
                have h1 := HFS.out
                omega
              clear h0 H
              go_wp2_with fail
              go_loopw [10] (fun v10 wr => ∃ j : Nat, j ≤ n ∧ v10 = .int .i64 (64 * (j : Int)) ∧ Hid (DsS w wr bh bk (shaHd F j) K)) (fun v10 _ => F.size - (intOf v10).toNat)
              case atStart => exact ⟨0, Nat.zero_le _, by simp, H0⟩
              case round =>
                clear H0
                obtain ⟨j, hj, rfl, H⟩ := hrel
                by_cases hlt : j < n
                · as_aux_lemma =>
                    have hFs := HN.out
                    have hl8 := shaHd_len F j
                    have hu8 := shaHd_u F j
                    have hex : (F.extract (64 * j) (64 * j + 64)).size = 64 := by rw [ByteArray.size_extract]; omega
                    have HB : Hid (∀ W, Calls Try.prog 39 #[.agg (uCells (shaHd F j)), .agg (uCells K), .string (F.extract (64 * j) (64 * j + 64))] W fun e w' => e = .returned (.agg (uCells (shaHd F (j + 1)))) ∧ Fr [] W w') := Lib.hid (fun W => block_calls W (shaHd F j) K _ hex hl8 hkk HK.out.symm hu8 HKU.out)
                    have HL2 := Lib.hid (shaHd_len F (j + 1))
                    generalize hh2 : shaHd F (j + 1) = h2 at HB HL2
                    have HH2 := Lib.hid hh2
                    clear hh2
                    generalize shaHd F j = h at H HB hl8
                    have HI8 : Hid ((Try.prog.info? 51).map (·.size) = some (uCells h).size) := Lib.hid (by rw [uCells_size, hl8]; exact info8)
                    have HI82 : Hid ((Try.prog.info? 51).map (·.size) = some (uCells h2).size) := Lib.hid (by rw [uCells_size, HL2.out]; exact info8)
                    have HS8 : Hid ((uCells h).size = (uCells h2).size) := Lib.hid (by rw [uCells_size, uCells_size, HL2.out]; exact hl8)
                    have p0 : (0 : Int) ≤ 64 * (j : Int) := by omega
                    have p1 : 64 * (j : Int) < (F.size : Int) := by omega
                    have p2 : 64 * (j : Int) + 64 ≤ (F.size : Int) := by omega
                    have p3 : 64 * (j : Int) ≤ 64 * (j : Int) + 64 := by omega
                    have p4 : 64 * j ≤ 64 * j + 64 := by omega
                    have p5 : 64 * j + 64 ≤ F.size := by omega
                    have p6 : (0 : Int) ≤ 64 * (j : Int) + 64 := by omega
                    have r0 : (64 * (j : Int)).toNat = 64 * j := by omega
                    have r1 : (64 * (j : Int) + 64).toNat = 64 * j + 64 := by omega
                    have r2 : IntKind.i64.wrap (64 * (j : Int) + 64) = 64 * (j : Int) + 64 := by rw [IntKind.wrap_i64]; omega
                    have HNX : Hid (64 * (j : Int) + 64 = 64 * ((j + 1 : Nat) : Int)) := Lib.hid (by omega)
                    have HM : Hid (F.size - (64 * j + 64) < F.size - 64 * j) := Lib.hid (by omega)
                    clear hFs hl8 hu8 hex
                    go_wp2_with fail
                    refine wp_region_still_tail 7 (by kernel_rfl) (by kernel_rfl) ?_
                    simp only [List.take_succ_cons, List.take_zero, List.drop_succ_cons, List.drop_zero]
                    change wpStill _ _ wr.drew (fun a' => wpList _ _ _ _ a' wr.drew) _ _
                    have H2 : Hid (DsS w wr.drew bh bk h K) := Lib.hid ⟨H.out.ah, H.out.ak, H.out.fr.drew, H.out.nw⟩
                    generalize wr.drew = w2 at H2 ⊢
                    refine still_load_step rfl _ _ rfl bh rfl 51 (uCells h) (0, 0) _ H2.out.ah Try.underlying51 rfl HI8.out ?_
                    refine still_load_step rfl _ _ rfl bk rfl 53 (uCells K) (0, 0) _ H2.out.ak Try.underlying53 rfl HI.out ?_
                    simp only [Act.put, List.setIfInBounds_toArray, List.set_cons_succ, List.set_cons_zero]
                    repeat still_step
                    refine wpStill_nil ?_
                    go_wp2_with fail
                    (with_reducible refine (HB.out _).mono ?_)
                    rintro e w3 ⟨rfl, hf3⟩
                    have H3 := Lib.hid (H2.out.keep hf3)
                    clear hf3 H2
                    go_wp2_with (refine wpList_store_row rfl _ _ _ rfl bh (uCells h2) rfl rfl 51 (uCells h) H3.out.ah HI82.out HS8.out (uCells_one _) ?_)
                    refine ⟨⟨j + 1, by omega, by rw [HNX.out], Lib.hid (by rw [HH2.out]; exact H3.out.row h2)⟩, ?_⟩
                    simp only [intOf]
                    have := HM.out
                    omega
                · obtain rfl : j = n := by omega
                  have hFs := HN.out
                  have hl8 := shaHd_len F j
                  have hu8 := shaHd_u F j
                  rw [HHD.out] at H hl8 hu8
                  have hend : ¬ 64 * (j : Int) < (F.size : Int) := by omega
                  clear hFs hlt hj HN HHD HFS HF HI hmod
                  generalize shaH s = h at H hl8 hu8 HRES
                  have HU := Lib.hid hu8
                  have HL := Lib.hid hl8
                  clear hl8 hu8
                  go_wp2_with fail
                  clear hend
                  go_loopw [11, 12] (fun v11 v12 wr => ∃ (j : Nat) (r : List Nat), v12 = .int .i64 j ∧ j ≤ 8 ∧ Hid (SRow 5 1 wr v11 r (4 * j) (Lib.strCells (lB ((h.take j).flatMap shaNum))) ∧ DsS w wr bh bk h K ∧ ∀ k, k ∈ r → bk < k)) (fun _ v12 _ => 8 - (intOf v12).toNat)
                  case atStart => exact ⟨0, [], rfl, by decide, Lib.hid ⟨SRow.nil _ _ _, H.out, by simp⟩⟩
                  case round =>
                    clear H
                    obtain ⟨j, r, rfl, hj, H⟩ := hrel
                    by_cases hlt : j < 8
                    · obtain ⟨A2, cap2, rfl, hnc, hcm, hrd, hblk⟩ := H.out.1.reads
                      have c0 := H.out.2.1.ah.cell j (by rw [HL.out]; exact hlt)
                      have hx := HU.out j
                      have HT := Lib.hid (shaOut_take h j (by rw [HL.out]; exact hlt))
                      have H2 : Hid (SRow 5 1 wr (.slice A2 (4 * j) cap2) r (4 * j) (Lib.strCells (lB ((h.take j).flatMap shaNum))) ∧ DsS w wr bh bk h K ∧ ∀ k, k ∈ r → bk < k) := H
                      have c1 : wr.cell? ⟨bh, j, none⟩ = some (.int .u32 ((h.getD j 0 : Nat) : Int)) := c0
                      generalize h.getD j 0 = x at c0 c1 hx HT
                      have HX := Lib.hid (shaNum_wrap x hx)
                      have hbr : bh ∉ r := fun hm => by have := H.out.2.2 _ hm; have := H.out.2.1.nw; omega
                      have hj0 : (0 : Int) ≤ (j : Int) := by omega
                      have hj1 : (j : Int) < 8 := by omega
                      have HJ : Hid (4 * j + 4 = 4 * (j + 1)) := Lib.hid (by omega)
                      clear H hrd hblk
                      go_wp2_with fail
                      go_region_held3 (fun w' => w'.cell? ⟨bh, j, none⟩ = some (.int .u32 (x : Int)))
                        (first | exact c0 | exact c1 | exact hf5.cell' (by assumption) hbr | go_keep)
                        ((refine step_sapp (by rfl) _ _ 27 (by rfl) 5 Try.underlying27 _ 1 1 infoByte rfl (by decide) (.slice A2 (4 * j) cap2) r (4 * j) _ (by rfl) (H2.out.1.keep (((Fr.refl [] _).alloc _).drew) (by simp)) ⟨wr.heap.size, 0, none⟩ 4 4 (Lib.strCells (lB (shaNum x))) (by rfl) (by rw [Lib.strCells_length, lB_size]; rfl) (rdv_drew (RdV.new _ _ 5 rfl HX.out)) (Lib.strCells_oneCell _) (by decide) (by simp only [maxLen]; omega) (by omega) ?_; intro v' w5 r' h6 hf5 hn5))
                      all_goals
                        clear c1
                        go_wp2
                        have hf7 : Fr r wr w5 := ((Fr.refl r wr).alloc _).drew.trans hf5 (fun k hk => .inl hk)
                        refine ⟨⟨j + 1, r', by go_num, by omega, Lib.hid ⟨?_, H2.out.2.1.keepR hf7 H2.out.2.2, fun k hk => (hn5 k hk).elim (H2.out.2.2 k) (fun h9 => by have := H2.out.2.1.ak.lt; first | omega | (simp at h9; omega))⟩⟩, by simp only [intOf]; omega⟩
                        rw [← HT.out, strCells_app, ← HJ.out]
                        exact h6
                    · obtain rfl : j = 8 := by omega
                      have hH := H.out
                      rw [List.take_of_length_le (by rw [HL.out]; exact Nat.le_refl _), ← HRES.out] at hH
                      obtain ⟨g, cap2, rfl, hcap, hrd, rfl⟩ := hH.1.reads0 (by decide)
                      have hcv : (convert 27 9 (.slice (some ⟨g, 0, none⟩) (4 * 8) cap2)).run Try.prog wr = .ok (.string (shaSum s)) wr := run_toString Try.underlying27 Try.underlying5 Try.underlying9 (shaSum_size' s).symm hrd (by rintro ad ⟨⟩; rfl)
                      have HF := Lib.hid hH.2.1.fr
                      clear hH H hrd
                      go_wp2_with fail
                      go_ret
                      exact ⟨rfl, HF.out⟩
end Go.Proofs.Ytlcfambhjclkiaa
