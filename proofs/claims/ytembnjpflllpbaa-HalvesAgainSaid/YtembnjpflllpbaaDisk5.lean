/- The contract of Crash. -/
import Derived.Test.YtembnjpflllpbaaDisk4
namespace Go.Proofs.Ytembnjpflllpbaa
open Go.RowKit
set_option linter.unusedVariables false
set_option linter.unusedSimpArgs false

theorem DK.putS' {w w1 : World} {b ps pn : Nat} {v : Value} {r S : List Nat} {st nw : ByteArray} {wl : List (Nat × ByteArray)} {left : Int} {bad : Bool} (h : DK w b ps pn v r st nw wl left bad) {off : Nat} {s : ByteArray} (hfit : off + s.size ≤ st.size) (hB : BB 5 w1 ps (ovB st off s)) (hf : Fr S w w1) (hS : ∀ k, k ∈ b :: pn :: r → k ∉ S) : DK w1 b ps pn v r (ovB st off s) nw wl left bad := by
  have hsz := ovB_size hfit
  refine ⟨?_, h.wait.keep hf (fun k hk => hS k (by simp [hk])), hB, h.hn.keep hf (hS pn (by simp)), by rw [hsz]; exact h.size, by rw [hsz]; exact h.big, h.most, fun x hx => by rw [hsz]; exact h.fit x hx, h.left0, h.left1, h.ne1, h.ne2, h.ne3, h.nr⟩
  rw [hsz]
  exact (hf.block b (lt_of_heap h.blk) (hS b (by simp))).trans h.blk

theorem crashPut_calls (base : Nat) (w : World) (b ps pn pk pd pl : Nat) (v : Value) (r : List Nat) (st nw : ByteArray) (wl : List (Nat × ByteArray)) (left : Int) (bad : Bool) (h : DK w b ps pn v r st nw wl left bad)
    (hbase : ∀ k, k ∈ b :: ps :: pn :: r → k < base) (hpk : base ≤ pk) (hpd : base ≤ pd) (hpl : base ≤ pl) (e1 : pk ≠ pl) (e2 : pd ≠ pk) (e3 : pd ≠ pl)
    (k : Nat) {ki : Int} (hki : ki = k) (s : ByteArray) (keep : Int) (lost : Nat) (hks : k + s.size ≤ st.size) (hk0 : -9223372036854775808 ≤ keep) (hk1 : keep ≤ 9223372036854775807) (hl : lost ≤ 1099511627776)
    (h1 : VarV 3 w pk (.int .i64 keep)) (h2 : VarV 24 w pd (.pointer (some ⟨b, 0, none⟩))) (h3 : VarV 3 w pl (.int .i64 lost)) :
    Calls Try.prog 33 #[.agg #[.int .i64 ki, .string s], .pointer (some ⟨pk, 0, none⟩), .pointer (some ⟨pd, 0, none⟩), .pointer (some ⟨pl, 0, none⟩)] w fun e w' => e = .returned (.tuple #[]) ∧ DK w' b ps pn v r (ovB st k (s.extract 0 (min keep.toNat s.size))) nw wl left bad ∧ VarV 3 w' pk (.int .i64 (keep - (min keep.toNat s.size : Nat))) ∧ VarV 3 w' pl (.int .i64 (lost + (s.size - min keep.toNat s.size) : Nat)) ∧ VarV 24 w' pd (.pointer (some ⟨b, 0, none⟩)) ∧ Fr [pk, pl, ps] w w' := by
  have hps := hbase ps (by simp)
  refine (crashPut_core w b ps pn pk pd pl v r st nw wl left bad h k hki s keep (min keep.toNat s.size) lost rfl hks hk0 hk1 hl h1 h2 h3 e1 (by omega) (by omega) (by omega) _ _ rfl rfl).mono ?_
  rintro e w' ⟨rfl, hB, hk, hl', hf⟩
  have hcut : (s.extract 0 (min keep.toNat s.size)).size ≤ s.size := by rw [ByteArray.size_extract]; omega
  refine ⟨rfl, h.putS' (by omega) hB hf ?_, hk, hl', h2.keep hf (by simp; omega), hf⟩
  intro x hx
  have h4 : x < base := hbase x (by simp only [List.mem_cons] at hx ⊢; rcases hx with h | h | h <;> simp [h])
  have h5 : x ≠ ps := by
    simp only [List.mem_cons] at hx
    rcases hx with rfl | rfl | hx
    · exact h.ne1
    · exact fun e => h.ne3 e.symm
    · rintro rfl
      exact h.nr.2.1 hx
  simp
  omega

theorem zi0 : (0 : Int) = ((0 : Nat) : Int) := rfl
theorem srow_addr {e : TypeId} {sz : Nat} {w : World} {A : Option Addr} {m n cap : Nat} {r : List Nat} {xs : List Value} (h : SRow e sz w (.slice A m cap) r n xs) : ∀ ad, A = some ad → ∃ g, ad = ⟨g, 0, none⟩ ∧ r = [g] := by
  rintro ad rfl
  obtain ⟨h1, h3⟩ := h
  rcases h1 with ⟨hl, ⟨h4, rfl⟩ | ⟨g, cap', cur, h4, hb, hg, hn, hm, hcs, htake⟩⟩
  · injection h4 with h4
    cases h4
  · injection h4 with h4
    injection h4 with h4
    subst h4
    exact ⟨g, rfl, h3⟩
theorem wcells_get {l : List (Nat × ByteArray)} {k : Nat} (h : k < l.length) {x : Nat × ByteArray} (hx : l[k] = x) : (wcells l)[k * 2]? = some (.int .i64 x.1) := by
  induction l generalizing k with
  | nil => simp at h
  | cons y l ih =>
    cases k with
    | zero => subst hx; rfl
    | succ k =>
      have := ih (k := k) (by simpa using h) (by simpa using hx)
      rw [show (k + 1) * 2 = k * 2 + 2 from by omega]
      exact this
theorem wcells_get1 {l : List (Nat × ByteArray)} {k : Nat} (h : k < l.length) {x : Nat × ByteArray} (hx : l[k] = x) : (wcells l)[k * 2 + 1]? = some (.string x.2) := by
  induction l generalizing k with
  | nil => simp at h
  | cons y l ih =>
    cases k with
    | zero => subst hx; rfl
    | succ k =>
      have := ih (k := k) (by simpa using h) (by simpa using hx)
      rw [show (k + 1) * 2 + 1 = k * 2 + 1 + 2 from by omega]
      exact this
theorem ovB_all {t s : ByteArray} (h : s.size = t.size) : ovB t 0 s = s := by
  apply ByteArray.ext
  apply Array.toList_inj.1
  have hl : t.data.toList.length = t.size := by rw [Array.length_toList]; rfl
  simp only [ovB, ByteArray.data_append, Array.toList_append, ByteArray.data_extract, Array.toList_extract, List.extract_eq_take_drop, List.drop_zero, Nat.sub_zero, Nat.zero_add, List.take_zero, List.nil_append]
  rw [List.drop_of_length_le (by omega), List.take_nil, List.append_nil]
theorem DK.putN {w w1 : World} {b ps pn : Nat} {v : Value} {r : List Nat} {st nw : ByteArray} {wl : List (Nat × ByteArray)} {left : Int} {bad : Bool} (h : DK w b ps pn v r st nw wl left bad) {s : ByteArray} (hB : BB 5 w1 pn (ovB nw 0 s)) (hf : Fr [pn] w w1) (hs : s.size = nw.size) (hs2 : s.size = st.size) : DK w1 b ps pn v r st s wl left bad := by
  rw [ovB_all hs] at hB
  exact ⟨(hf.block b (lt_of_heap h.blk) (by simp; exact h.ne2)).trans h.blk, h.wait.keep hf (fun k hk => by simp; rintro rfl; exact h.nr.2.2 hk), h.hs.keep hf (by simp; exact h.ne3), hB, hs2, h.big, h.most, h.fit, h.left0, h.left1, h.ne1, h.ne2, h.ne3, h.nr⟩
/-- What a crash keeps, and how many bytes it loses. -/
def crashS : List (Nat × ByteArray) → Int → ByteArray → Nat → ByteArray × Nat
  | [], _, st, lost => (st, lost)
  | (k, s) :: l, keep, st, lost => crashS l (keep - (min keep.toNat s.size : Nat)) (ovB st k (s.extract 0 (min keep.toNat s.size))) (lost + (s.size - min keep.toNat s.size))

set_option maxHeartbeats 2000000 in
set_option maxRecDepth 100000 in
theorem Crash_calls (w : World) (b ps pn : Nat) (v : Value) (r : List Nat) (st nw : ByteArray) (wl : List (Nat × ByteArray)) (left : Int) (bad : Bool) (h : DK w b ps pn v r st nw wl left bad) (keep : Int) (hk0 : -9223372036854775808 ≤ keep) (hk1 : keep ≤ 9223372036854775807) :
    Calls Try.prog 21 #[.pointer (some ⟨b, 0, none⟩), .int .i64 keep] w fun e w' => e = .returned (.int .i64 (crashS wl keep st 0).2) ∧ ∃ v', DK w' b ps pn v' r (crashS wl keep st 0).1 (crashS wl keep st 0).1 [] 0 false ∧ Fr (b :: ps :: pn :: r) w w' := by
  have hmf : ∀ (fn : Fn) (first cap : Array Value) (w : World), (Instr.makeFunc fn first cap).run Try.prog w = .ok (.func fn first cap) w := fun _ _ _ _ => rfl
  obtain ⟨A, cap, rfl, hwc, hcap, hrd, hA⟩ := h.wait.reads
  have hlt := h.lt
  have hF0 : Fr [] w (((w.alloc (.cells #[.pointer (some ⟨b, 0, none⟩)] 24)).alloc (.cells #[.int .i64 keep] 3)).alloc (.cells #[.int .i64 0] 3)) := (((Fr.refl _ _).alloc _).alloc _).alloc _
  have h0 := h.keep hF0 (by simp)
  have hd0 : VarV 24 (((w.alloc (.cells #[.pointer (some ⟨b, 0, none⟩)] 24)).alloc (.cells #[.int .i64 keep] 3)).alloc (.cells #[.int .i64 0] 3)) w.heap.size (.pointer (some ⟨b, 0, none⟩)) := (VarV.new _ _ _ rfl).keep (S := []) (((Fr.refl _ _).alloc _).alloc _) (by simp)
  have hk0' : VarV 3 (((w.alloc (.cells #[.pointer (some ⟨b, 0, none⟩)] 24)).alloc (.cells #[.int .i64 keep] 3)).alloc (.cells #[.int .i64 0] 3)) (w.heap.size + 1) (.int .i64 keep) := (VarV.new _ _ _ (by simp)).keep (S := []) ((Fr.refl _ _).alloc _) (by simp)
  have hl0 : VarV 3 (((w.alloc (.cells #[.pointer (some ⟨b, 0, none⟩)] 24)).alloc (.cells #[.int .i64 keep] 3)).alloc (.cells #[.int .i64 0] 3)) (w.heap.size + 1 + 1) (.int .i64 0) := VarV.new _ _ _ (by simp)
  have c2 : (((w.alloc (.cells #[.pointer (some ⟨b, 0, none⟩)] 24)).alloc (.cells #[.int .i64 keep] 3)).alloc (.cells #[.int .i64 0] 3)).cell? ⟨b, 2, none⟩ = some (.slice A wl.length cap) := by rw [Lib.cell_of_heap h0.blk]; rfl
  have H := Lib.hid (And.intro hF0 (And.intro h0 (And.intro hd0 (And.intro hk0' hl0))))
  have HH := Lib.hid h
  clear h hF0 h0 hd0 hk0' hl0
  go_enter Try.func21, Try.ntmps21
  go_wp2_with fail
  generalize ((w.alloc (.cells #[.pointer (some ⟨b, 0, none⟩)] 24)).alloc (.cells #[.int .i64 keep] 3)).alloc (.cells #[.int .i64 0] 3) = W0 at H c2 ⊢
  have e1 : w.heap.size + 1 ≠ w.heap.size + 1 + 1 := by omega
  have e2 : w.heap.size ≠ w.heap.size + 1 := by omega
  have e3 : w.heap.size ≠ w.heap.size + 1 + 1 := by omega
  have p1 : w.heap.size ≤ w.heap.size + 1 := by omega
  have p2 : w.heap.size ≤ w.heap.size + 1 + 1 := by omega
  have HE := Lib.hid (And.intro e1 (And.intro e2 e3))
  have HP := Lib.hid (And.intro p1 p2)
  clear e1 e2 e3 p1 p2 c2
  have HRD := Lib.hid hrd
  clear hrd
  generalize hpl : w.heap.size + 1 + 1 = pl at H HE HP ⊢
  generalize hpk : w.heap.size + 1 = pk at H HE HP ⊢
  clear hpl hpk
  have hbig := HH.out.big
  have hmost := HH.out.most
  go_loopw [17] (fun v17 wr => ∃ (k : Nat) (st' : ByteArray) (keep' : Int) (lost : Nat), v17 = .int .i64 k ∧ k ≤ wl.length ∧ -9223372036854775808 ≤ keep' ∧ keep' ≤ 9223372036854775807 ∧ lost ≤ k * 131072 ∧ st'.size = st.size ∧
    Hid (Fr [ps] w wr ∧ DK wr b ps pn (.slice A wl.length cap) r st' nw wl left bad ∧ VarV 24 wr w.heap.size (.pointer (some ⟨b, 0, none⟩)) ∧ VarV 3 wr pk (.int .i64 keep') ∧ VarV 3 wr pl (.int .i64 lost) ∧ crashS (wl.drop k) keep' st' lost = crashS wl keep st 0)) (fun v17 _ => wl.length - (intOf v17).toNat)
  case atStart => exact ⟨0, st, keep, 0, rfl, Nat.zero_le _, hk0, hk1, by omega, rfl, H.out.1.mono (fun _ h _ => by cases h), H.out.2.1, H.out.2.2.1, H.out.2.2.2.1, H.out.2.2.2.2, by rw [List.drop_zero]⟩
  case round =>
    clear H
    obtain ⟨k, st', keep', lost, rfl, hk, hk0', hk1', hlost, hst, H⟩ := hrel
    by_cases hlt' : k < wl.length
    · obtain ⟨x, hx⟩ : ∃ x, wl[k] = x := ⟨_, rfl⟩
      obtain ⟨at', s⟩ := x
      have hdr : wl.drop k = (at', s) :: wl.drop (k + 1) := by rw [List.drop_eq_getElem_cons hlt', hx]
      have hfit : at' + s.size ≤ st.size := HH.out.fit (at', s) (by rw [← hx]; exact List.getElem_mem hlt')
      have hw0 : (wcells wl)[k * 2]? = some (.int .i64 at') := by rw [wcells_get hlt' hx]
      have hw1 : (wcells wl)[k * 2 + 1]? = some (.string s) := by rw [wcells_get1 hlt' hx]
      obtain ⟨ad, rfl, hc0⟩ := HRD.out (k * 2) _ hw0
      obtain ⟨ad', hada, hc1⟩ := HRD.out (k * 2 + 1) _ hw1
      injection hada with hada
      subst hada
      obtain ⟨g, rfl, hrg⟩ := srow_addr HH.out.wait _ rfl
      have hgS : g ∉ [ps] := by simp; rintro rfl; exact HH.out.nr.2.1 (by simp [hrg])
      have e0 : (⟨g, 0, none⟩ : Addr).add (k * 2) = ⟨g, k * 2, none⟩ := by rw [Addr.add_lit, Nat.zero_add]
      have e1 : (⟨g, 0, none⟩ : Addr).add (k * 2 + 1) = ⟨g, k * 2 + 1, none⟩ := by rw [Addr.add_lit, Nat.zero_add]
      rw [e0] at hc0
      rw [e1] at hc1
      have hc0' := H.out.1.cell' hc0 hgS
      have hc1' := H.out.1.cell' hc1 hgS
      clear e0 e1 hgS
      clear hw0 hw1 hc0 hc1
      go_wp2_with fail
      refine (crashPut_calls w.heap.size _ b ps pn pk w.heap.size pl _ r st' nw wl left bad (H.out.2.1.keep ((Fr.refl [] _).alloc _) (by simp)) hlt HP.out.1 (Nat.le_refl _) HP.out.2 HE.out.1 HE.out.2.1 HE.out.2.2 at' rfl s keep' lost (by omega) hk0' hk1' (by omega) (H.out.2.2.2.1.keep ((Fr.refl [] _).alloc _) (by simp)) (H.out.2.2.1.keep ((Fr.refl [] _).alloc _) (by simp)) (H.out.2.2.2.2.1.keep ((Fr.refl [] _).alloc _) (by simp))).mono ?_
      rintro e w3 ⟨rfl, hD, hkk, hll, hdd, hf⟩
      have hcut : (s.extract 0 (min keep'.toNat s.size)).size ≤ s.size := by rw [ByteArray.size_extract]; omega
      have hsz2 : (ovB st' at' (s.extract 0 (min keep'.toNat s.size))).size = st.size := by rw [ovB_size (by omega)]; exact hst
      have hF3 : Fr [ps] w w3 := (H.out.1.alloc _).trans hf (fun x hx => by
        have := HP.out
        simp only [List.mem_cons, List.not_mem_nil, or_false] at hx
        rcases hx with h | h | h
        · exact .inr (by omega)
        · exact .inr (by omega)
        · exact .inl (by simp [h]))
      have hE3 : crashS (wl.drop (k + 1)) (keep' - (min keep'.toNat s.size : Nat)) (ovB st' at' (s.extract 0 (min keep'.toNat s.size))) (lost + (s.size - min keep'.toNat s.size)) = crashS wl keep st 0 := by
        rw [← H.out.2.2.2.2.2, hdr]
        rfl
      have hkb : -9223372036854775808 ≤ keep' - (min keep'.toNat s.size : Nat) ∧ keep' - (min keep'.toNat s.size : Nat) ≤ 9223372036854775807 := by omega
      have hlb : lost + (s.size - min keep'.toNat s.size) ≤ (k + 1) * 131072 := by omega
      have H3 := Lib.hid (And.intro hF3 (And.intro hD (And.intro hdd (And.intro hkk (And.intro hll hE3)))))
      clear hF3 hD hdd hkk hll hE3 H hf hc0' hc1' hcut hdr hx
      generalize ovB st' at' (s.extract 0 (min keep'.toNat s.size)) = st2 at H3 hsz2
      generalize keep' - (min keep'.toNat s.size : Nat) = keep2 at H3 hkb
      generalize lost + (s.size - min keep'.toNat s.size) = lost2 at H3 hlb
      go_wp2_with fail
      refine ⟨⟨k + 1, st2, keep2, lost2, by go_num, by omega, hkb.1, hkb.2, hlb, hsz2, H3⟩, by simp only [intOf]; omega⟩
    · obtain rfl : k = wl.length := by omega
      have hE := H.out.2.2.2.2.2
      rw [List.drop_length, crashS] at hE
      have HEE := Lib.hid hE
      have cd := H.out.2.2.1.cell
      have c0 : wr.cell? ⟨b, 0, none⟩ = some (.slice (some ⟨ps, 0, none⟩) st'.size st'.size) := by rw [Lib.cell_of_heap H.out.2.1.blk]; rfl
      have c1 : wr.cell? ⟨b, 1, none⟩ = some (.slice (some ⟨pn, 0, none⟩) st'.size st'.size) := by rw [Lib.cell_of_heap H.out.2.1.blk]; rfl
      have hnws := H.out.2.1.size
      have hrs := H.out.2.1.hs.read 0 st'.size
      rw [ByteArray.extract_zero_size] at hrs
      have HRS := Lib.hid hrs
      clear hE hrs
      go_wp2_with fail
      go_region_law (refine step_copyR rfl _ _ 51 51 rfl 5 Try.underlying51 sizeU8 _ _ _ _ _ _ st' hst.symm rfl rfl HRS.out 5 pn 0 nw H.out.2.1.hn (by omega) (by omega) (fun _ => rfl) ?_; intro w1 hB1 hf1)
      all_goals
        have hf1' : Fr [pn] wr w1 := ((Fr.refl [pn] _).drew).trans hf1 (fun k hk => .inl hk)
        have hD1 := H.out.2.1.putN hB1 hf1' (by omega) (by omega)
        have hlw := H.out.2.2.2.2.1
        have hdw := H.out.2.2.1
        have hltw := hlt
        have hF1 : Fr (b :: ps :: pn :: r) w w1 := (H.out.1.mono (fun x hx _ => by simp at hx; simp [hx])).trans hf1' (fun x hx => .inl (by simp at hx; simp [hx]))
        have hbs : w.heap.size ≤ wr.heap.size := H.out.1.size
        have hpl := HP.out.2
        have hnS : ∀ x, w.heap.size ≤ x → x ∉ b :: ps :: pn :: r := fun x hx hm => by have := hlt x hm; omega
        have hl1 := hlw.keep hf1' (by simp; rintro h; exact hnS _ hpl (by simp [h]))
        have hd1 := hdw.keep hf1' (by simp; rintro h; exact hnS _ (Nat.le_refl _) (by simp [h]))
        have cd1 := hd1.cell
        have HN := Lib.hid hnS
        have HR1 := Lib.hid (And.intro hF1 (And.intro hl1 hd1))
        clear hB1 hf1 hf1' hlw hdw hltw hF1 hl1 hd1 hnS H HRS c0 c1 cd
        go_wp2_with fail
        (with_reducible refine (drop_calls _ b ps pn _ r st' st' wl left bad hD1 0 zi0 (Nat.zero_le _)).mono ?_)
        rintro e w4 ⟨rfl, v4, hD4, hf4⟩
        have e0 : ovB st' 0 (st'.extract 0 0) = st' := ovB_none (by rw [ByteArray.size_extract]; omega)
        rw [e0] at hD4
        have hl4 := HR1.out.2.1.keep hf4 (by
          intro hm
          exact HN.out _ hpl (by simp only [List.mem_cons] at hm ⊢; rcases hm with h | h | h <;> simp [h]))
        have hd4 := HR1.out.2.2.keep hf4 (by
          intro hm
          exact HN.out _ (Nat.le_refl _) (by simp only [List.mem_cons] at hm ⊢; rcases hm with h | h | h <;> simp [h]))
        have hF4 : Fr (b :: ps :: pn :: r) w w4 := HR1.out.1.trans hf4 (fun x hx => .inl (by simp only [List.mem_cons] at hx ⊢; rcases hx with h | h | h <;> simp [h]))
        have hplb : pl ≠ b := fun e => HN.out _ hpl (by simp [e])
        have hdb : w.heap.size ≠ b := fun e => HN.out _ (Nat.le_refl _) (by simp [e])
        have cd4 := hd4.cell
        have c3 : w4.cell? ⟨b, 3, none⟩ = some (.int .i64 left) := by rw [Lib.cell_of_heap hD4.blk]; rfl
        have c4 : w4.cell? ⟨b, 4, none⟩ = some (.bool bad) := by rw [Lib.cell_of_heap hD4.blk]; rfl
        have z3 := Lib.frozen_of_heap hD4.blk 3
        have z4 := Lib.frozen_of_heap hD4.blk 4
        have l34 : ((w4.setCell ⟨b, 3, none⟩ (.int .i64 0)).setCell ⟨b, 4, none⟩ (.bool false)).cell? ⟨pl, 0, none⟩ = some (.int .i64 lost) := ((hl4.beside (p := ⟨b, 3, none⟩) (fun e => hplb e.symm) _).beside (p := ⟨b, 4, none⟩) (fun e => hplb e.symm) _).cell
        have l43 : ((w4.setCell ⟨b, 4, none⟩ (.bool false)).setCell ⟨b, 3, none⟩ (.int .i64 0)).cell? ⟨pl, 0, none⟩ = some (.int .i64 lost) := ((hl4.beside (p := ⟨b, 4, none⟩) (fun e => hplb e.symm) _).beside (p := ⟨b, 3, none⟩) (fun e => hplb e.symm) _).cell
        have d3 : (w4.setCell ⟨b, 3, none⟩ (.int .i64 0)).cell? ⟨w.heap.size, 0, none⟩ = some (.pointer (some ⟨b, 0, none⟩)) := (hd4.beside (p := ⟨b, 3, none⟩) (fun e => hdb e.symm) _).cell
        have d4 : (w4.setCell ⟨b, 4, none⟩ (.bool false)).cell? ⟨w.heap.size, 0, none⟩ = some (.pointer (some ⟨b, 0, none⟩)) := (hd4.beside (p := ⟨b, 4, none⟩) (fun e => hdb e.symm) _).cell
        have hset : ∀ (W : World), W.heap[b]? = some (.cells #[.slice (some ⟨ps, 0, none⟩) st'.size st'.size, .slice (some ⟨pn, 0, none⟩) st'.size st'.size, v4, .int .i64 0, .bool false] 54 (0, 0)) → Fr [b] w4 W → DK W b ps pn v4 r st' st' [] 0 false ∧ Fr (b :: ps :: pn :: r) w W := by
          intro W hb hf
          exact ⟨⟨hb, hD4.wait.keep hf (fun k hk => by simp; rintro rfl; exact hD4.nr.1 hk), hD4.hs.keep hf (by simp; exact fun e => hD4.ne1 e.symm), hD4.hn.keep hf (by simp; exact fun e => hD4.ne2 e.symm), hD4.size, hD4.big, hD4.most, hD4.fit, by decide, by decide, hD4.ne1, hD4.ne2, hD4.ne3, hD4.nr⟩, hF4.trans hf (fun x hx => .inl (by simp at hx; simp [hx]))⟩
        have HSET := Lib.hid hset
        have HB4 := Lib.hid hD4.blk
        clear hset hD4 hl4 hd4 hF4 hf4 hD1 HR1 cd1
        go_wp2_with fail
        go_region
        all_goals
          go_wp2_with fail
          go_ret
          refine ⟨?_, v4, ?_⟩
          · rw [← HEE.out]
            rfl
          · rw [← HEE.out]
            refine HSET.out _ ?_ ?_
            · simp [World.setCell, World.drew, Array.getElem?_modify, HB4.out]
            · exact (((Fr.refl _ _).setCell (.inl (by simp)) _).setCell (.inl (by simp)) _).drew

end Go.Proofs.Ytembnjpflllpbaa
