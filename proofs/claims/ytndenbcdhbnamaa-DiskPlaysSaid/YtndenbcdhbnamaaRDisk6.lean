/- The contract of the document's Crash. -/
import Derived.Test.YtndenbcdhbnamaaRDisk5
import Derived.Test.YtndenbcdhbnamaaMild3
namespace Go.Proofs.Ytndenbcdhbnamaa
open Go.RowKit
set_option linter.unusedVariables false
set_option linter.unusedSimpArgs false
attribute [local go_sem] mildAt mildUpon

/-- What the document's put yields: a row of its own. -/
def PutF (n : Nat) (t : ByteArray) (base : Nat) (x : Value) (W : World) : Prop := ∃ A cap r, x = .slice A n cap ∧ SRow 5 1 W x r n (Lib.strCells t) ∧ (∀ k, k ∈ r → base ≤ k)
theorem PutF.stable {n : Nat} {t : ByteArray} {base : Nat} (x : Value) (W W' : World) (h : PutF n t base x W) (hf : Fr [] W W') : PutF n t base x W' := by
  obtain ⟨A, cap, r, hx, h1, h2⟩ := h
  exact ⟨A, cap, r, hx, h1.keep hf (by simp), h2⟩
theorem rput_free {W : World} {A : Option Addr} {cap n : Nat} {st : ByteArray} (hn : n = st.size) (hrd : RdV W A (Lib.strCells st)) {at' : Nat} {ati : Int} (hat : ati = at') {s : ByteArray} (hfit : at' + s.size ≤ st.size) (hbig : st.size ≤ 131072) (h0 : 0 < st.size) (hsc : st.size ≤ cap) (hcm : cap ≤ maxLen) {base : Nat} (hbase : base ≤ W.heap.size) {K : Value → World → Prop}
    (hK : ∀ x W', Fr [] W W' → PutF n (ovB st at' s) base x W' → K x W') :
    Calls Try.prog 34 #[.slice A n cap, .agg #[.int .i64 ati, .string s]] W fun e w' => ∃ v, e = .returned v ∧ K v w' := by
  subst hn
  refine (rput_calls W A cap st hrd at' hat s hfit hbig h0 hsc hcm).mono ?_
  rintro e w' ⟨v, r, rfl, h1, hf, hn⟩
  obtain ⟨A', cap', rfl, -, -, -, -⟩ := h1.reads
  exact ⟨_, rfl, hK _ _ hf ⟨A', cap', r, rfl, h1, fun k hk => Nat.le_trans hbase (hn k hk)⟩⟩

set_option maxHeartbeats 2000000 in
set_option maxRecDepth 100000 in
theorem rCrash_calls (w : World) (b : Nat) (vs : Value) (rs : List Nat) (v : Value) (r : List Nat) (st : ByteArray) (wl : List (Nat × ByteArray)) (left : Int) (bad : Bool) (h : RK w b vs rs v r st wl left bad) (h0 : 0 < st.size) (keep : Int) (hkb : Bd .i64 keep) {S : ByteArray} {L : Nat} (hS : crashS wl keep st 0 = (S, L)) :
    Calls Try.prog 22 #[.pointer (some ⟨b, 0, none⟩), .int .i64 keep] w fun e w' => e = .returned (.int .i64 L) ∧ ∃ vs' rs', RK w' b vs' rs' (.slice none 0 0) [] S [] 0 false ∧ Fr [b] w w' ∧ (∀ k, k ∈ rs' → k ∈ rs ∨ w.heap.size ≤ k) := by
  obtain ⟨hk0, hk1⟩ := hkb.i64
  obtain ⟨A, cap, rfl, hwc, hcap, hrd, hA⟩ := h.wait.reads
  have HH := Lib.hid h
  have HRD := Lib.hid hrd
  have HS := Lib.hid hS
  have hbig := h.big
  have hmost := h.most
  have hbw : b < w.heap.size := lt_of_heap h.blk
  clear h hrd hS hkb
  go_enter Try.func22, Try.ntmps22
  go_wp2_with fail
  go_loopw [1, 5, 6] (fun v1 v5 v6 wr => ∃ (k : Nat) (st' : ByteArray) (keep' : Int) (lost : Nat) (vs' : Value) (rs' : List Nat), v1 = .int .i64 keep' ∧ v5 = .int .i64 lost ∧ v6 = .int .i64 k ∧ k ≤ wl.length ∧ -9223372036854775808 ≤ keep' ∧ keep' ≤ 9223372036854775807 ∧ lost ≤ k * 131072 ∧ st'.size = st.size ∧
    Hid (RK wr b vs' rs' (.slice A wl.length cap) r st' wl left bad ∧ Fr [b] w wr ∧ (∀ x, x ∈ rs' → x ∈ rs ∨ w.heap.size ≤ x) ∧ crashS (wl.drop k) keep' st' lost = (S, L))) (fun _ _ v6 _ => wl.length - (intOf v6).toNat)
  case atStart => exact ⟨0, st, keep, 0, vs, rs, rfl, rfl, rfl, Nat.zero_le _, hk0, hk1, by omega, rfl, HH.out, Fr.refl _ _, fun _ h => .inl h, HS.out⟩
  case round =>
    obtain ⟨k, st', keep', lost, vs', rs', rfl, rfl, rfl, hk, hk0', hk1', hlost, hst, H⟩ := hrel
    have c1 : wr.cell? ⟨b, 1, none⟩ = some (.slice A wl.length cap) := by rw [Lib.cell_of_heap H.out.1.blk]; rfl
    by_cases hlt : k < wl.length
    · obtain ⟨x, hx⟩ : ∃ x, wl[k] = x := ⟨_, rfl⟩
      obtain ⟨at', s⟩ := x
      have hdr : wl.drop k = (at', s) :: wl.drop (k + 1) := by rw [List.drop_eq_getElem_cons hlt, hx]
      have hfit : at' + s.size ≤ st.size := HH.out.fit (at', s) (by rw [← hx]; exact List.getElem_mem hlt)
      have hw0 : (wcells wl)[k * 2]? = some (.int .i64 at') := by rw [wcells_get hlt hx]
      have hw1 : (wcells wl)[k * 2 + 1]? = some (.string s) := by rw [wcells_get1 hlt hx]
      obtain ⟨ad, rfl, hc0⟩ := HRD.out (k * 2) _ hw0
      obtain ⟨ad', hada, hc1⟩ := HRD.out (k * 2 + 1) _ hw1
      injection hada with hada
      subst hada
      obtain ⟨g, rfl, hrg⟩ := srow_addr HH.out.wait _ rfl
      have hgS : g ∉ [b] := by simp; rintro rfl; exact HH.out.nr.2.1 (by simp [hrg])
      have e0 : (⟨g, 0, none⟩ : Addr).add (k * 2) = ⟨g, k * 2, none⟩ := by rw [Addr.add_lit, Nat.zero_add]
      have e1 : (⟨g, 0, none⟩ : Addr).add (k * 2 + 1) = ⟨g, k * 2 + 1, none⟩ := by rw [Addr.add_lit, Nat.zero_add]
      rw [e0] at hc0
      rw [e1] at hc1
      have hc0' := H.out.2.1.cell' hc0 hgS
      have hc1' := H.out.2.1.cell' hc1 hgS
      have hE : crashS (wl.drop (k + 1)) (inS at' s keep' st' lost s.size).2.1 (inS at' s keep' st' lost s.size).1 (inS at' s keep' st' lost s.size).2.2 = (S, L) := by rw [← inS_all, ← hdr]; exact H.out.2.2.2
      have hnew : (wr.alloc (.cells #[.int .i64 at', .string s] 64)).heap[wr.heap.size]? = some (.cells #[.int .i64 at', .string s] 64 (0, 0)) := heap_alloc_new _ _
      have H1 := Lib.hid (And.intro (H.out.1.keep (S := []) ((Fr.refl _ _).alloc (.cells #[.int .i64 at', .string s] 64)) (by simp)) (And.intro (H.out.2.1.alloc (.cells #[.int .i64 at', .string s] 64)) (And.intro H.out.2.2.1 hnew)))
      have hqb : w.heap.size ≤ wr.heap.size := H.out.2.1.size
      have HE := Lib.hid hE
      clear e0 e1 hgS hw0 hw1 hc0 hc1 hx hdr hE hnew H
      go_wp2_with fail
      clear hc0' hc1' c1
      generalize wr.alloc (.cells #[.int .i64 at', .string s] 64) = W1 at H1 ⊢
      generalize wr.heap.size = q at H1 hqb ⊢
      go_loopw [1, 5, 8] (fun v1 v5 v8 wr => ∃ (j : Nat) (st2 : ByteArray) (kp : Int) (ls : Nat) (vs2 : Value) (rs2 : List Nat), v1 = .int .i64 kp ∧ v5 = .int .i64 ls ∧ v8 = .int .i64 j ∧ j ≤ s.size ∧ -9223372036854775808 ≤ kp ∧ kp ≤ 9223372036854775807 ∧ ls ≤ lost + j ∧ st2.size = st.size ∧
        Hid (inS at' s keep' st' lost j = (st2, kp, ls) ∧ RK wr b vs2 rs2 (.slice (some ⟨g, 0, none⟩) wl.length cap) r st2 wl left bad ∧ Fr [b] w wr ∧ (∀ x, x ∈ rs2 → x ∈ rs ∨ w.heap.size ≤ x) ∧ wr.heap[q]? = some (.cells #[.int .i64 at', .string s] 64 (0, 0)))) (fun _ _ v8 _ => s.size - (intOf v8).toNat)
      case atStart => exact ⟨0, st', keep', lost, vs', rs', rfl, rfl, rfl, Nat.zero_le _, hk0', hk1', by omega, hst, inS_zero _ _ _ _ _, H1.out.1, H1.out.2.1, H1.out.2.2.1, H1.out.2.2.2⟩
      case round =>
        clear H1
        obtain ⟨j, st2, kp, ls, vs2, rs2, rfl, rfl, rfl, hj, hp0, hp1, hls, hst2, H⟩ := hrel
        have ca : wr.cell? ⟨q, 0, none⟩ = some (.int .i64 at') := by rw [Lib.cell_of_heap H.out.2.2.2.2]; rfl
        have cs : wr.cell? ⟨q, 1, none⟩ = some (.string s) := by rw [Lib.cell_of_heap H.out.2.2.2.2]; rfl
        by_cases hjs : j < s.size
        · by_cases hpos : 0 < kp
          · obtain ⟨A2, cap2, rfl, hc2, hcm2, hrd2, -⟩ := H.out.2.1.stay.reads
            have c0 : wr.cell? ⟨b, 0, none⟩ = some (.slice A2 st2.size cap2) := by rw [Lib.cell_of_heap H.out.2.1.blk]; rfl
            have z0 := Lib.frozen_of_heap H.out.2.1.blk 0
            have hrd3 : ∀ W, Fr [] wr W → RdV W A2 (Lib.strCells st2) := fun W hW => hrd2.keep hW (by simp)
            have HR := Lib.hid hrd3
            have hsum : (at' : Int) + (j : Int) = ((at' + j : Nat) : Int) := by omega
            have hxs : (s.extract j (j + 1)).size = 1 := by rw [ByteArray.size_extract]; omega
            have hfit2 : at' + j + (s.extract j (j + 1)).size ≤ st2.size := by omega
            have hbig2 : st2.size ≤ 131072 := by omega
            have h02 : 0 < st2.size := by omega
            have hq1 : (at' : Int) + (j : Int) ≤ 9223372036854775807 := by omega
            have hq2 : (-9223372036854775808 : Int) ≤ (at' : Int) + (j : Int) := by omega
            have hq3 : (j : Int) + 1 ≤ 9223372036854775807 := by omega
            have hq4 : (-9223372036854775808 : Int) ≤ (j : Int) + 1 := by omega
            have hq5 : (0 : Int) ≤ (j : Int) := by omega
            have hq6 : (j : Int) ≤ (j : Int) + 1 := by omega
            have hq7 : (j : Int) + 1 ≤ (s.size : Int) := by omega
            have hq8 : j + 1 ≤ s.size := by omega
            have hwj : IntKind.i64.wrap ((j : Int) + 1) = (j : Int) + 1 := by rw [IntKind.wrap_i64]; omega
            have hwa : IntKind.i64.wrap ((at' : Int) + (j : Int)) = (at' : Int) + (j : Int) := by rw [IntKind.wrap_i64]; omega
            have htn : ((j : Int) + 1).toNat = j + 1 := by omega
            have hq9 : (0 : Int) ≤ (j : Int) + 1 := by omega
            have HSUM := Lib.hid hsum
            clear hrd2 hrd3 hsum
            go_wp2_with fail
            refine wp_region_mild 19 (by kernel_rfl) (by kernel_rfl) ?_
            simp only [List.take_succ_cons, List.take_zero, List.drop_succ_cons, List.drop_zero, List.take_nil, List.drop_nil]
            repeat (first
              | ((apply mild_free0 (φ := PutF st.size (ovB st2 (at' + j) (s.extract j (j + 1))) wr.heap.size) PutF.stable; (· rfl); (· intro W hW K hK; have hW' : Fr [] wr W := ⟨hW.os, hW.tape, hW.output, hW.size, hW.block⟩; go_simp; with_reducible exact rput_free hst2.symm (HR.out W hW') HSUM.out hfit2 hbig2 h02 hc2 hcm2 hW'.size hK)); simp only [Act.put, List.setIfInBounds_toArray, List.set_cons_succ, List.set_cons_zero, Nat.reduceAdd])
              | ((apply mild_det0; (· rfl); (· intro W hW K hK; have d0 := hW.cell' c0 (by simp); have d1 := hW.cell' ca (by simp); have d2 := hW.cell' cs (by simp); go_simp; exact hK _ (Fr.refl _ _))); simp only [Act.put, List.setIfInBounds_toArray, List.set_cons_succ, List.set_cons_zero, Nat.reduceAdd])
              | (apply mild_det0; (· rfl); (· intro W hW K hK; go_simp; exact hK _ (Fr.refl _ _)); simp only [Act.put, List.setIfInBounds_toArray, List.set_cons_succ, List.set_cons_zero, Nat.reduceAdd])
              | (apply mild_slice; (· rfl); (· intro W hW K hK; go_simp; exact hK _ _ ((Fr.refl _ _).alloc _) ⟨_, rfl, heap_alloc_new _ _⟩); simp only [Act.put, List.setIfInBounds_toArray, List.set_cons_succ, List.set_cons_zero, Nat.reduceAdd]))
            refine mild_nil ?_
            intro W2 hW2
            have hf2 : Fr [] wr W2 := ⟨hW2.os, hW2.tape, hW2.output, hW2.size, hW2.block⟩
            clear hW2
            simp only [subAll]
            rintro x9 ⟨A3, cap3, r3, rfl, h3, hn3⟩
            simp only [Act.put, List.setIfInBounds_toArray, List.set_cons_succ, List.set_cons_zero]
            have hki := inS_keep at' s keep' st' lost j (by omega) hjs (by rw [H.out.1]; exact hpos)
            rw [H.out.1] at hki
            have hov := ovB_size hfit2
            have d0 := hf2.cell' c0 (by simp)
            have hb1 := H.out.2.1.blk
            have hbW : b < wr.heap.size := lt_of_heap hb1
            have hb2 := (hf2.block b hbW (by simp)).trans hb1
            have z2 := Lib.frozen_of_heap hb2 0
            have hqw : q < wr.heap.size := lt_of_heap H.out.2.2.2.2
            have hW2 : RK (W2.setCell ⟨b, 0, none⟩ (.slice A3 st.size cap3)) b (.slice A3 st.size cap3) r3 (.slice (some ⟨g, 0, none⟩) wl.length cap) r (ovB st2 (at' + j) (s.extract j (j + 1))) wl left bad ∧ Fr [b] w (W2.setCell ⟨b, 0, none⟩ (.slice A3 st.size cap3)) ∧ (∀ x, x ∈ r3 → x ∈ rs ∨ w.heap.size ≤ x) ∧ (W2.setCell ⟨b, 0, none⟩ (.slice A3 st.size cap3)).heap[q]? = some (.cells #[.int .i64 at', .string s] 64 (0, 0)) := by
              have hfs : Fr [b] W2 (W2.setCell ⟨b, 0, none⟩ (.slice A3 st.size cap3)) := (Fr.refl _ _).setCell (.inl (by simp)) _
              have hfA : Fr [b] wr (W2.setCell ⟨b, 0, none⟩ (.slice A3 st.size cap3)) := (hf2.mono (fun _ h _ => by cases h)).trans hfs (fun k hk => .inl hk)
              have hnb : b ∉ r3 := fun hk => by have := hn3 b hk; omega
              have hsw := H.out.2.2.1.size
              refine ⟨⟨?_, ?_, H.out.2.1.wait.keep hfA (fun k hk => by simp; rintro rfl; exact H.out.2.1.nr.2.1 hk), by omega, H.out.2.1.most, fun x hx => by rw [hov]; exact H.out.2.1.fit x hx, H.out.2.1.left0, H.out.2.1.left1, hnb, H.out.2.1.nr.2.1, fun x hx hxr => ?_⟩, H.out.2.2.1.trans hfA (fun k hk => .inl hk), fun x hx => .inr (Nat.le_trans hsw (hn3 x hx)), ?_⟩
              · simp [World.setCell, Array.getElem?_modify, hb2]
              · have h4 := h3.keep hfs (fun k hk => by simp; rintro rfl; exact hnb hk)
                rw [hov, hst2]
                exact h4
              · have := H.out.2.1.wait.lt x hxr
                have := hn3 x hx
                omega
              · exact (hfA.block q hqw (by simp; omega)).trans H.out.2.2.2.2
            have H3 := Lib.hid (And.intro hki hW2)
            have hov2 : (ovB st2 (at' + j) (s.extract j (j + 1))).size = st.size := by omega
            clear hki hW2 hb2 hb1 h3 hn3 hf2 H HR HSUM c0 z0 ca cs hwj hwa htn hov hxs hfit2
            generalize ovB st2 (at' + j) (s.extract j (j + 1)) = st3 at H3 hov2 ⊢
            go_wp2_with fail
            exact ⟨⟨j + 1, st3, kp - 1, ls, .slice A3 st.size cap3, r3, by go_num, rfl, by go_num, by omega, by omega, by omega, by omega, hov2, H3.out⟩, by simp only [intOf]; omega⟩
          · have hl := inS_lose at' s keep' st' lost j (by rw [H.out.1]; exact hpos)
            rw [H.out.1] at hl
            have H3 := Lib.hid (And.intro hl H.out.2)
            clear hl H
            go_wp2_with fail
            exact ⟨⟨j + 1, st2, kp, ls + 1, vs2, rs2, rfl, by go_num, by go_num, by omega, hp0, hp1, by omega, hst2, H3.out⟩, by simp only [intOf]; omega⟩
        · obtain rfl : j = s.size := by omega
          have hE2 := HE.out
          rw [H.out.1] at hE2
          have H3 := Lib.hid (And.intro H.out.2.1 (And.intro H.out.2.2.1 (And.intro H.out.2.2.2.1 hE2)))
          have hsz : s.size ≤ 131072 := by omega
          clear hE2 H HE
          go_wp2_with fail
          exact ⟨⟨k + 1, st2, kp, ls, vs2, rs2, rfl, rfl, by go_num, by omega, hp0, hp1, by omega, hst2, H3.out⟩, by simp only [intOf]; omega⟩
    · obtain rfl : k = wl.length := by omega
      have hE := H.out.2.2.2
      rw [List.drop_length, crashS] at hE
      injection hE with hE1 hE2
      subst hE1 hE2
      have hb1 := H.out.1.blk
      have d2 : wr.cell? ⟨b, 2, none⟩ = some (.int .i64 left) := by rw [Lib.cell_of_heap hb1]; rfl
      have d3 : wr.cell? ⟨b, 3, none⟩ = some (.bool bad) := by rw [Lib.cell_of_heap hb1]; rfl
      have z1 := Lib.frozen_of_heap hb1 1
      have z2 := Lib.frozen_of_heap hb1 2
      have z3 := Lib.frozen_of_heap hb1 3
      have hfin : ∀ W, W.heap[b]? = some (.cells #[vs', .slice none 0 0, .int .i64 0, .bool false] 51 (0, 0)) → Fr [b] wr W → RK W b vs' rs' (.slice none 0 0) [] st' [] 0 false ∧ Fr [b] w W ∧ (∀ k, k ∈ rs' → k ∈ rs ∨ w.heap.size ≤ k) := by
        intro W hW hf
        refine ⟨⟨hW, H.out.1.stay.keep hf (fun k hk => by simp; rintro rfl; exact H.out.1.nr.1 hk), SRow.nil _ _ _, H.out.1.big, by simp, by simp, by decide, by decide, H.out.1.nr.1, by simp, by simp⟩, H.out.2.1.trans hf (fun k hk => .inl hk), H.out.2.2.1⟩
      have HF := Lib.hid hfin
      have HB := Lib.hid hb1
      clear hfin hb1 H
      go_wp2_with fail
      go_ret
      refine ⟨rfl, _, _, HF.out _ ?_ ?_⟩
      · simp [World.setCell, Array.getElem?_modify, HB.out]
      · exact (((Fr.refl _ _).setCell (.inl (by simp)) _).setCell (.inl (by simp)) _).setCell (.inl (by simp)) _
end Go.Proofs.Ytndenbcdhbnamaa
