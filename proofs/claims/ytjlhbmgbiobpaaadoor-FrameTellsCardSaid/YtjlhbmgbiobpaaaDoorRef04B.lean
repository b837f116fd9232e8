/- Contracts of the document's layer 4: Next, Scan, All, Empty. -/
import Derived.Test.YtjlhbmgbiobpaaaDoorRef04
namespace Go.Proofs.YtjlhbmgbiobpaaaDoor
open Go.RowKit
set_option linter.unusedVariables false
set_option linter.unusedSimpArgs false

/-- What the document's Next hands back. -/
def gotV (o : Option (ByteArray × Nat)) : Value := match o with
  | some (t, k) => .agg #[.string t, .int .i64 k]
  | none => .agg #[.string ⟨#[]⟩, .int .i64 0]

theorem infoGot : (Tryd.prog.info? 55).map (·.size) = some 2 := by kernel_rfl
theorem gotOne {t : ByteArray} {k : Int} : (#[.string t, .int .i64 k] : Array Value).all (·.oneCell') = true := by simp [Value.oneCell']
theorem gotOne0 : (#[.string ⟨#[]⟩, .int .i64 0] : Array Value).all (·.oneCell') = true := by simp [Value.oneCell']
theorem got_put {W : World} {b : Nat} {x y : Value} (h : W.heap[b]? = some (.cells #[x, y] 55 (0, 0))) (u v : Value) : ((W.setCell ⟨b, 0, none⟩ u).setCell ⟨b, 1, none⟩ v).heap[b]? = some (.cells #[u, v] 55 (0, 0)) := by
  simp [World.setCell, Array.getElem?_modify, h]
theorem got_end {R : Ending → World → Prop} {tmps : Array Value} {W : World} {b : Nat} {x y : Value} (hb : tmps.getD 2 undef = .pointer (some ⟨b, 0, none⟩)) (hc : W.heap[b]? = some (.cells #[x, y] 55 (0, 0))) (h : R (.returned (.agg #[x, y])) W) :
    bodyPost Tryd.prog Tryd.f25 R Exit.ret { tmps := tmps, defers := [] } W := by
  have hres : Tryd.f25.results = #[.cell 2 55] := by kernel_rfl
  have d0 : W.cell? ⟨b, 0, none⟩ = some x := by rw [Lib.cell_of_heap hc]; rfl
  have d1 : W.cell? ⟨b, 1, none⟩ = some y := by rw [Lib.cell_of_heap hc]; rfl
  refine bodyPost_ret (v := .agg #[x, y]) ?_ rfl h
  rw [Array.getD_eq_getD_getElem?] at hb
  simp only [results, hres]
  go_simp

set_option maxHeartbeats 1000000 in
set_option maxRecDepth 100000 in
theorem RNext_calls (w : World) (s : ByteArray) (hs : s.size ≤ 140737488351232) :
    Calls Tryd.prog 25 #[.string s] w fun e w' => e = .returned (gotV (nextB s)) ∧ Fr [] w w' := by
  by_cases h3 : s.size < 3
  · rw [next_short h3]
    go_enter Tryd.func25, Tryd.ntmps25
    go_wp2_with fail
    refine got_end (b := w.heap.size) (x := .string ⟨#[]⟩) (y := .int .i64 0) rfl ?_ ?_
    · exact heap_alloc_new w _
    · exact ⟨rfl, (Fr.refl _ _).alloc _⟩
  · obtain ⟨n, hn⟩ : ∃ n, n = lenB s := ⟨_, rfl⟩
    have h1 := bAt_lt s 1
    have h2 := bAt_lt s 2
    have hw : ∀ z : Int, 0 ≤ z → z < 70000 → wrap64 z = z := fun z h1 h2 => by
      rw [← IntWalk.i64_left]
      exact IntWalk.i64_in _ ⟨by omega, by omega⟩
    rw [bAt_eq (by omega)] at h1 h2
    have h3 : n = (s[1]).toNat + 256 * (s[2]).toNat := by rw [hn, lenB, bAt_eq (by omega), bAt_eq (by omega)]
    have f1 := hw (((s[1]).toNat : Nat) : Int) (by omega) (by omega)
    have f2 := hw (((s[2]).toNat : Nat) : Int) (by omega) (by omega)
    have f3 := hw ((256 : Int) * (((s[2]).toNat : Nat) : Int)) (by omega) (by omega)
    have f4 : wrap64 ((((s[1]).toNat : Nat) : Int) + (256 : Int) * (((s[2]).toNat : Nat) : Int)) = (n : Int) := by rw [hw _ (by omega) (by omega)]; omega
    have f5 : IntKind.i64.wrap ((256 : Int) * (((s[2]).toNat : Nat) : Int)) = (256 : Int) * (((s[2]).toNat : Nat) : Int) := by rw [IntWalk.i64_left]; exact f3
    have f6 : IntKind.i64.wrap ((((s[1]).toNat : Nat) : Int) + (256 : Int) * (((s[2]).toNat : Nat) : Int)) = (n : Int) := by rw [IntWalk.i64_left]; exact f4
    have hln : n < 65536 := by omega
    clear hw h1 h2 h3
    have hi1 : (1 : Int) < (s.size : Int) := by omega
    have hi2 : (2 : Int) < (s.size : Int) := by omega
    have hi3 : 1 < s.size := by omega
    have hi4 : 2 < s.size := by omega
    by_cases hz : 1 ≤ n ∧ n ≤ 32768
    · obtain ⟨hz1, hz2⟩ := hz
      have HZ := Lib.hid (fsize_in (n := n) (by omega) (by omega))
      by_cases hsz : n + 8 ≤ s.size
      · have HR := Lib.hid (next_ref (s := s) (by omega) (by omega) (by omega))
        rw [← hn] at HR
        have hd1 : (((n : Int) + 8) == 0) = false := beq_eq_false_iff_ne.2 (by omega)
        have hd2 : decide ((s.size : Int) < (n : Int) + 8) = false := decide_eq_false (by omega)
        clear hn
        have hln2 : (7 : Int) + (n : Int) ≤ (s.size : Int) := by omega
        have hln3 : 7 + n ≤ s.size := by omega
        have hk1 : (n : Int) + 8 ≤ (s.size : Int) := by omega
        have hk2 : (0 : Int) ≤ (n : Int) + 8 := by omega
        have hk3 : ((n : Int) + 8).toNat = n + 8 := by omega
        go_enter Tryd.func25, Tryd.ntmps25
        go_wp2_with fail
        go_quiet (fail)
        (try simp only [f3, f4])
        clear f1 f2 f3 f4 f5 f6
        go_wp2_with fail
        (with_reducible refine (RSize_calls _ _ (Bd.of_i64 (by omega) (by omega))).mono ?_)
        rintro e w1 ⟨rfl, rfl⟩
        rw [HZ.out]
        go_wp2_with fail
        have hX : Hid ((s.extract 7 (7 + n)).size ≤ 140737488351232) := Lib.hid (by rw [ByteArray.size_extract]; omega)
        have hb0 : ((w.alloc (.cells #[.string ⟨#[]⟩, .int .i64 0] 55)).drewN nq).drew.heap[w.heap.size]? = some (.cells #[.string ⟨#[]⟩, .int .i64 0] 55 (0, 0)) := heap_alloc_new w _
        have HB0 := Lib.hid hb0
        have HF0 : Hid (Fr [] w ((w.alloc (.cells #[.string ⟨#[]⟩, .int .i64 0] 55)).drewN nq).drew) := Lib.hid (((Fr.refl _ _).alloc _).drewN _).drew
        clear hb0
        generalize hT : s.extract 7 (7 + n) = t at HR hX ⊢
        have HT := Lib.hid hT
        clear hT
        by_cases hq : wrapB t = s.extract 0 (n + 8)
        · have hq1 : ((wrapB t).toList == (s.extract 0 (n + 8)).toList) = true := beq_iff_eq.2 (congrArg _ hq)
          have hq2 : ((wrapB t).toList != (s.extract 0 (n + 8)).toList) = false := by simp [bne, hq1]
          have hr := HR.out
          rw [if_pos hq] at hr
          have HN := Lib.hid hr
          clear HR hr hq
          go_region_with (go_at_call 24; (with_reducible refine (RWrap_calls _ t hX.out).mono ?_); rintro e w5 ⟨rfl, hf5⟩)
          all_goals
            have hb5 := (hf5.block w.heap.size (lt_of_heap HB0.out) (by simp)).trans HB0.out
            have HF5 := Lib.hid (HF0.out.then hf5)
            have HB5 := Lib.hid hb5
            clear hf5 hb5 HB0 HF0
            have c0 : w5.cell? ⟨w.heap.size, 0, none⟩ = some (.string ⟨#[]⟩) := by rw [Lib.cell_of_heap HB5.out]; rfl
            have c1 : w5.cell? ⟨w.heap.size, 1, none⟩ = some (.int .i64 0) := by rw [Lib.cell_of_heap HB5.out]; rfl
            have z0 := Lib.frozen_of_heap HB5.out 0
            have z1 := Lib.frozen_of_heap HB5.out 1
            go_wp2_with fail
            have hfin := got_put HB5.out (.string t) (.int .i64 ((n : Int) + 8))
            refine got_end (b := w.heap.size) rfl hfin ⟨by rw [HN.out]; rfl, (HF5.out.setCell (.inr (by simp)) _).setCell (.inr (by simp)) _⟩
        · have hq1 : ((wrapB t).toList == (s.extract 0 (n + 8)).toList) = false := beq_eq_false_iff_ne.2 (fun h => hq (toList_inj h))
          have hq2 : ((wrapB t).toList != (s.extract 0 (n + 8)).toList) = true := by simp [bne, hq1]
          have hr := HR.out
          rw [if_neg hq] at hr
          have HN := Lib.hid hr
          clear HR hr hq
          go_region_with (go_at_call 24; (with_reducible refine (RWrap_calls _ t hX.out).mono ?_); rintro e w5 ⟨rfl, hf5⟩)
          all_goals
            have hb5 := (hf5.block w.heap.size (lt_of_heap HB0.out) (by simp)).trans HB0.out
            have HF5 := Lib.hid (HF0.out.then hf5)
            have HB5 := Lib.hid hb5
            clear hf5 hb5 HB0 HF0
            have c0 : w5.cell? ⟨w.heap.size, 0, none⟩ = some (.string ⟨#[]⟩) := by rw [Lib.cell_of_heap HB5.out]; rfl
            have c1 : w5.cell? ⟨w.heap.size, 1, none⟩ = some (.int .i64 0) := by rw [Lib.cell_of_heap HB5.out]; rfl
            have z0 := Lib.frozen_of_heap HB5.out 0
            have z1 := Lib.frozen_of_heap HB5.out 1
            go_wp2_with fail
            have hfin := got_put HB5.out (.string ⟨#[]⟩) (.int .i64 0)
            refine got_end (b := w.heap.size) rfl hfin ⟨by rw [HN.out]; rfl, (HF5.out.setCell (.inr (by simp)) _).setCell (.inr (by simp)) _⟩
      · rw [next_bad (by omega)]
        have hd1 : (((n : Int) + 8) == 0) = false := beq_eq_false_iff_ne.2 (by omega)
        have hd2 : decide ((s.size : Int) < (n : Int) + 8) = true := decide_eq_true (by omega)
        clear hn
        go_enter Tryd.func25, Tryd.ntmps25
        go_wp2_with fail
        go_quiet (fail)
        (try simp only [f3, f4])
        clear f1 f2 f3 f4 f5 f6
        go_wp2_with fail
        (with_reducible refine (RSize_calls _ _ (Bd.of_i64 (by omega) (by omega))).mono ?_)
        rintro e w1 ⟨rfl, rfl⟩
        rw [HZ.out]
        go_wp2_with fail
        refine got_end (b := w.heap.size) (x := .string ⟨#[]⟩) (y := .int .i64 0) rfl ?_ ?_
        · exact got_put (heap_alloc_new w _) _ _
        · exact ⟨rfl, ((((Fr.refl _ _).alloc _).drewN _).setCell (.inr (Nat.le_refl _)) _).setCell (.inr (Nat.le_refl _)) _⟩
    · rw [next_bad (by omega)]
      have HZ := Lib.hid (fsize_out (n := n) (by omega))
      clear hn hz
      go_enter Tryd.func25, Tryd.ntmps25
      go_wp2_with fail
      go_quiet (fail)
      (try simp only [f3, f4])
      clear f1 f2 f3 f4 f5 f6
      go_wp2_with fail
      (with_reducible refine (RSize_calls _ _ (Bd.of_i64 (by omega) (by omega))).mono ?_)
      rintro e w1 ⟨rfl, rfl⟩
      rw [HZ.out]
      go_wp2_with fail
      refine got_end (b := w.heap.size) (x := .string ⟨#[]⟩) (y := .int .i64 0) rfl ?_ ?_
      · exact got_put (heap_alloc_new w _) _ _
      · exact ⟨rfl, ((((Fr.refl _ _).alloc _).drewN _).setCell (.inr (Nat.le_refl _)) _).setCell (.inr (Nat.le_refl _)) _⟩

theorem lastOf_nil : lastOf [] = 0 := rfl

set_option maxHeartbeats 1000000 in
set_option maxRecDepth 100000 in
theorem RScan_calls (w : World) (s : ByteArray) (hs : s.size ≤ 1000000) :
    Calls Tryd.prog 26 #[.string s] w fun e w' => ∃ A cap r, e = .returned (.tuple #[.slice A (textsB s).length cap, .int .i64 (endOf s : Int)]) ∧ SRow 9 1 w' (.slice A (textsB s).length cap) r (textsB s).length ((textsB s).map .string) ∧ Fr [] w w' ∧ (∀ k, k ∈ r → w.heap.size ≤ k) := by
  go_enter Tryd.func26, Tryd.ntmps26
  go_wp2_with fail
  go_loopw [4, 5] (fun v4 v5 wr => ∃ (k : Nat) (pre : List (ByteArray × Nat)) (r : List Nat), v5 = .int .i64 k ∧ k ≤ s.size ∧ pre.length ≤ k ∧ Hid (SRow 9 1 wr v4 r pre.length ((pre.map (·.1)).map .string) ∧ Fr [] w wr ∧ (∀ k, k ∈ r → w.heap.size ≤ k) ∧ pre ++ scanAt s k = scanAt s 0 ∧ lastOf pre = k)) (fun _ v5 _ => s.size - (intOf v5).toNat)
  case atStart => exact ⟨0, [], [], rfl, Nat.zero_le _, Nat.le_refl _, SRow.nil _ _ _, Fr.refl _ _, by simp, rfl, rfl⟩
  case round =>
    obtain ⟨k, pre, r, rfl, hk, hpk, H⟩ := hrel
    have hxs : (s.extract k s.size).size = s.size - k := by rw [ByteArray.size_extract]; omega
    obtain ⟨A, cap, rfl, hcc1, hcc2, -, -⟩ := H.out.1.reads
    cases hq : nextB (s.extract k s.size) with
    | none =>
      have HN : Hid (gotV (nextB (s.extract k s.size)) = .agg #[.string ⟨#[]⟩, .int .i64 0]) := Lib.hid (by rw [hq]; rfl)
      have hpe : pre = scanAt s 0 := by have := H.out.2.2.2.1; rwa [scanAt_none hq, List.append_nil] at this
      have HP := Lib.hid hpe
      have HX : Hid ((s.extract k s.size).size ≤ 140737488351232) := Lib.hid (by omega)
      clear hq hxs hpe
      go_wp2_with fail
      (with_reducible refine (RNext_calls _ _ HX.out).mono ?_)
      rintro e w2 ⟨rfl, hf2⟩
      rw [HN.out]
      have HF2 := Lib.hid ((H.out.2.1.then hf2).alloc (.cells #[.string ⟨#[]⟩, .int .i64 0] 55))
      have HS2 := Lib.hid (H.out.1.keep (hf2.alloc (.cells #[.string ⟨#[]⟩, .int .i64 0] 55)) (by simp))
      clear hf2
      go_wp2_with fail
      go_ret2
      have e1 : textsB s = pre.map (·.1) := by rw [HP.out]; rfl
      have e2 : endOf s = k := by
        rw [← H.out.2.2.2.2, HP.out]
        rfl
      rw [e1, e2, List.length_map]
      exact ⟨A, cap, r, rfl, HS2.out, HF2.out, H.out.2.2.1⟩
    | some x =>
      obtain ⟨t, q⟩ := x
      have hle := nextB_le hq
      have HN : Hid (gotV (nextB (s.extract k s.size)) = .agg #[.string t, .int .i64 (q : Int)]) := Lib.hid (by rw [hq]; rfl)
      have HS := Lib.hid (scanAt_some hq)
      have HX : Hid ((s.extract k s.size).size ≤ 140737488351232) := Lib.hid (by omega)
      rw [hxs] at hle
      have hkq : k + q ≤ s.size := by omega
      have hq9 : 9 ≤ q := hle.1
      have hq0 : ((q : Int) == 0) = false := beq_eq_false_iff_ne.2 (by omega)
      clear hq hxs hle
      go_wp2_with fail
      (with_reducible refine (RNext_calls _ _ HX.out).mono ?_)
      rintro e w2 ⟨rfl, hf2⟩
      rw [HN.out]
      have hF2 := (H.out.2.1.then hf2).alloc (.cells #[.string t, .int .i64 (q : Int)] 55)
      have hS2 := H.out.1.keep (hf2.alloc (.cells #[.string t, .int .i64 (q : Int)] 55)) (by simp)
      have HC := Lib.hid (heap_alloc_new w2 (.cells #[.string t, .int .i64 (q : Int)] 55))
      have HF2 := Lib.hid hF2
      have hsz2 := hf2.size
      clear hf2 hF2
      generalize hcs : (pre.map (·.1)).map Value.string = cs at hS2
      have HCS := Lib.hid hcs
      clear hcs
      have HS2 := Lib.hid hS2
      clear hS2
      have hb1 : (pre.length + 1) * 16 ≤ 140737488355328 := by omega
      go_wp2_with (at_builtin; refine wpList_sapp rfl _ _ 23 rfl 9 Tryd.underlying23 (.string ⟨#[]⟩) 1 16 infoString rfl (by decide) (.slice A pre.length cap) r pre.length cs rfl (HS2.out.keep ((Fr.refl [] _).alloc _) (by simp)) ⟨w2.heap.size + 1, 0, none⟩ 1 1 [.string t] rfl rfl (by exact RdV.new _ #[.string t] 9 (by simp) rfl) (by simp [Value.oneCell']) (by simp only [maxLen]; omega) hb1 ?_)
      intro v' w3 r' h6 hf3 hn3
      obtain ⟨A', cap', rfl, -, -, -, -⟩ := h6.reads
      have h7 : Fr r (w2.alloc (.cells #[.string t, .int .i64 (q : Int)] 55)) w3 := ((Fr.refl r _).alloc _).trans hf3 (fun k hk => .inl hk)
      have hwr := H.out.2.1.size
      have hw2 := HF2.out.size
      have hg3 : w3.heap[w2.heap.size]? = some (.cells #[.string t, .int .i64 (q : Int)] 55 (0, 0)) := (h7.block w2.heap.size (lt_of_heap HC.out) (fun hm => by
        have hlt := H.out.1.lt _ hm
        omega)).trans HC.out
      have c1 : w3.cell? ⟨w2.heap.size, 1, none⟩ = some (.int .i64 (q : Int)) := by rw [Lib.cell_of_heap hg3]; rfl
      have HN3 := Lib.hid (show ∀ j, j ∈ r' → w.heap.size ≤ j from fun j hj => by
        rcases hn3 j hj with h | h
        · exact H.out.2.2.1 j h
        · first | omega | (simp at h; omega))
      have HF3 := Lib.hid (HF2.out.trans h7 (fun j hj => .inr (H.out.2.2.1 j hj)))
      have H6 := Lib.hid h6
      have HA := Lib.hid (H.out.2.2.2.1)
      clear H h6 hf3 hn3 h7 hwr hw2 hg3 hcc1 hcc2 hb1 HC HF2 HS2 HX HN hsz2
      go_wp2_with fail
      refine ⟨⟨k + q, pre ++ [(t, k + q)], r', by simp, hkq, by rw [List.length_append]; simp; omega, Lib.hid ⟨?_, HF3.out, HN3.out, ?_, by rw [lastOf_snoc]⟩⟩, by simp only [intOf]; omega⟩
      · rw [List.length_append, List.map_append, List.map_append, HCS.out]
        exact H6.out
      · rw [← HA.out, HS.out, List.append_assoc, List.singleton_append]

set_option maxHeartbeats 1000000 in
set_option maxRecDepth 100000 in
theorem RAll_calls (w : World) (A : Option Addr) (c : Nat) (l : List ByteArray) (hr : RdV w A (l.map .string)) (hsz : ∀ x, x ∈ l → x.size ≤ 1000) (hl : l.length ≤ 1000000) :
    Calls Tryd.prog 12 #[.slice A l.length c] w fun e w' => e = .returned (.string (allB l)) ∧ Fr [] w w' := by
  go_enter Tryd.func12, Tryd.ntmps12
  go_wp2_with fail
  go_loopw [3, 4] (fun v3 v4 wr => ∃ k : Nat, v4 = .int .i64 k ∧ k ≤ l.length ∧ v3 = .string (allB (l.take k)) ∧ Hid (Fr [] w wr)) (fun _ v4 _ => l.length - (intOf v4).toNat)
  case atStart => exact ⟨0, rfl, Nat.zero_le _, rfl, Fr.refl _ _⟩
  case round =>
    obtain ⟨k, rfl, hk, rfl, H⟩ := hrel
    by_cases hlk : k < l.length
    · obtain ⟨ad, rfl, hc0⟩ := hr k (.string l[k]) (by simp [hlk])
      have hc : wr.cell? (ad.add k) = some (.string l[k]) := H.out.cell' hc0 (by simp)
      have hxs := hsz l[k] (List.getElem_mem hlk)
      have HT : Hid (allB (l.take (k + 1)) = allB (l.take k) ++ wrapB l[k]) := Lib.hid (by
        rw [List.take_succ_eq_append_getElem hlk, allB_app, allB, allB, bapp_nil])
      have hal := allB_le (l.take k) (fun x hx => hsz x (List.mem_of_mem_take hx))
      rw [List.length_take] at hal
      have hwl := wrapB_le l[k]
      generalize l[k] = x at hc hxs HT hwl
      generalize allB (l.take k) = S at HT hal ⊢
      have hsum : S.size + (wrapB x).size ≤ 9223372036854775807 := by omega
      have HX : Hid (x.size ≤ 140737488351232) := Lib.hid (by omega)
      clear hc0 hal hwl
      go_wp2_with fail
      (with_reducible refine (RWrap_calls _ x HX.out).mono ?_)
      rintro e w2 ⟨rfl, hf2⟩
      have HF2 := Lib.hid (H.out.then hf2)
      clear hf2
      go_wp2_with fail
      refine ⟨⟨k + 1, by go_num, by omega, by rw [HT.out], HF2⟩, by simp only [intOf]; omega⟩
    · obtain rfl : k = l.length := by omega
      rw [List.take_length]
      go_wp2_with fail
      go_ret
      exact ⟨rfl, H.out⟩

set_option maxHeartbeats 1000000 in
set_option maxRecDepth 100000 in
theorem REmpty_calls (w : World) (s : ByteArray) (hs : s.size ≤ 9223372036854775806) (at' : Int) (hat : Bd .i64 at') :
    Calls Tryd.prog 29 #[.string s, .int .i64 at'] w fun e w' => e = .returned (.bool (zeroB (s.extract (clampN at' s.size) s.size))) ∧ w = w' := by
  obtain ⟨z, hz⟩ : ∃ z, z = zeroB (s.extract (clampN at' s.size) s.size) := ⟨_, rfl⟩
  rw [← hz]
  have HZ := Lib.hid hz
  clear hz
  go_enter Tryd.func29, Tryd.ntmps29
  go_wp2_with fail
  go_loop [5] (fun v5 => ∃ k : Nat, v5 = .int .i64 k ∧ k ≤ s.size ∧ Hid (∀ j, j < k → at' ≤ (j : Int) → bAt s j = 0)) (fun v5 => s.size - (intOf v5).toNat)
  case atStart => exact ⟨0, rfl, Nat.zero_le _, fun j hj => by omega⟩
  case round =>
    obtain ⟨k, rfl, hk, H⟩ := hrel
    by_cases hlt : k < s.size
    · by_cases ha : at' ≤ (k : Int)
      · by_cases h0 : s[k] = 0
        · have h1 := byte0 h0
          have h2 : (((s[k]).toNat : Int) != 0) = false := by simp [bne, h1]
          have HN := Lib.hid (show ∀ j, j < k + 1 → at' ≤ (j : Int) → bAt s j = 0 from fun j hj hja => by
            by_cases hjk : j = k
            · subst hjk; exact (bAt_zero hlt).2 h0
            · exact H.out j (by omega) hja)
          clear h0 H
          go_wp2_with fail
          refine ⟨⟨k + 1, by go_num, by omega, HN⟩, by simp only [intOf]; omega⟩
        · have h1 := byte0_ne h0
          have h2 : (((s[k]).toNat : Int) != 0) = true := by simp [bne, h1]
          have hzf : z = false := by rw [HZ.out]; exact empty_false hlt ha h0
          have HZF := Lib.hid hzf
          clear h0 H hzf
          go_wp2_with fail
          go_ret
          exact ⟨by rw [HZF.out]; rfl, rfl⟩
      · have HN := Lib.hid (show ∀ j, j < k + 1 → at' ≤ (j : Int) → bAt s j = 0 from fun j hj hja => by
          by_cases hjk : j = k
          · subst hjk; exact absurd hja ha
          · exact H.out j (by omega) hja)
        have hlt2 : (k : Int) < at' := by omega
        clear H ha
        go_wp2_with fail
        refine ⟨⟨k + 1, by go_num, by omega, HN⟩, by simp only [intOf]; omega⟩
    · obtain rfl : k = s.size := by omega
      have hzt : z = true := by
        rw [HZ.out]
        refine zeroB_all (fun j hj => ?_)
        rw [ByteArray.size_extract] at hj
        rw [bAt_drop (by omega)]
        exact H.out _ (by omega) (by unfold clampN at *; omega)
      have HZT := Lib.hid hzt
      clear hzt H
      go_wp2_with fail
      go_ret
      exact ⟨by rw [HZT.out]; rfl, rfl⟩

end Go.Proofs.YtjlhbmgbiobpaaaDoor
