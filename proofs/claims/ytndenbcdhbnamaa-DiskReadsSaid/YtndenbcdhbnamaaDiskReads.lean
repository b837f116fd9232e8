/- The law DiskReads: for any three texts, places and bits the Go function returns true (its walk). -/
import Derived.Test.YtndenbcdhbnamaaDisk7
import Derived.Test.YtndenbcdhbnamaaDiskPure
import Derived.Test.YtndenbcdhbnamaaShort02
namespace Go.Proofs.Ytndenbcdhbnamaa
open Go.RowKit
set_option linter.unusedVariables false
set_option linter.unusedSimpArgs false

theorem tmod_bounds3 (x m : Int) (hm : 0 < m) : -m < x.tmod m ∧ x.tmod m < m := ⟨Int.lt_tmod_of_pos x hm, Int.tmod_lt_of_pos x hm⟩
theorem ov_read {t s : ByteArray} {k : Nat} (h : k + s.size ≤ t.size) : (ovB t k s).extract k (k + s.size) = s := by
  apply gB_ext
  · rw [ByteArray.size_extract, ovB_size h]; omega
  · intro i hi
    rw [gB_cut, if_pos (by omega), gB_ov h, if_pos (by omega)]
    congr 1
    omega

theorem Write0F_calls (w0 w : World) (b ps pn : Nat) (v : Value) (r : List Nat) (st nw : ByteArray) (wl : List (Nat × ByteArray)) (h : DN w0 w b ps pn v r st nw wl 0 false) (k : Nat) {ki : Int} (hki : ki = k) (s : ByteArray) (hks : k + s.size ≤ st.size) (hm : wl.length < 1000000) :
    Calls Try.prog 12 #[.pointer (some ⟨b, 0, none⟩), .int .i64 ki, .string s] w fun e w' => e = .returned (.int .i64 0) ∧ ∃ v' r', DN w0 w' b ps pn v' r' st (ovB nw k s) (wl ++ [(k, s)]) 0 false ∧ Fr (b :: ps :: pn :: r) w w' ∧ (∀ k, k ∈ r' → k ∈ r ∨ w.heap.size ≤ k) := by
  refine (Write_calls w b ps pn v r st nw wl 0 h.dk k hki s hks hm).mono ?_
  rintro e w' ⟨rfl, v', r', hD, hf, hn⟩
  refine ⟨rfl, v', r', ⟨hD, h.fr.trans hf (fun x hx => .inr (h.new x hx)), fun x hx => ?_⟩, hf, hn⟩
  simp only [List.mem_cons] at hx
  rcases hx with rfl | rfl | rfl | hx
  · exact h.new _ (by simp)
  · exact h.new _ (by simp)
  · exact h.new _ (by simp)
  · rcases hn x hx with h1 | h1
    · exact h.new _ (by simp [h1])
    · exact Nat.le_trans h.fr.size h1
theorem SyncF_calls (w0 w : World) (b ps pn : Nat) (v : Value) (r : List Nat) (st nw : ByteArray) (wl : List (Nat × ByteArray)) (h : DN w0 w b ps pn v r st nw wl 0 false) :
    Calls Try.prog 16 #[.pointer (some ⟨b, 0, none⟩)] w fun e w' => e = .returned (.int .i64 0) ∧ ∃ v', DN w0 w' b ps pn v' r nw nw [] 0 false ∧ Fr (b :: ps :: r) w w' := by
  refine (Sync_calls w b ps pn v r st nw wl 0 h.dk (by decide)).mono ?_
  rintro e w' ⟨rfl, v', hD, hf⟩
  exact ⟨rfl, v', ⟨hD, h.fr.trans hf (fun x hx => .inr (h.new x (by simp only [List.mem_cons] at hx ⊢; rcases hx with h | h | h <;> simp [h]))), h.new⟩, hf⟩

set_option maxHeartbeats 2000000 in
set_option maxRecDepth 100000 in
theorem DiskReads_core (w : World) (sl : List ByteArray) (ql : List Int) (hsl : sl.length = 3) (hql : ql.length = 3) (hs : ∀ x, x ∈ sl → x.size ≤ 9223372036854775807) (hq : ∀ x, x ∈ ql → -9223372036854775808 ≤ x ∧ x ≤ 9223372036854775807) (syncs : Int) (hy0 : -9223372036854775808 ≤ syncs) (hy1 : syncs ≤ 9223372036854775807) :
    Calls Try.prog 5 #[.agg (sl.map .string).toArray, .agg (ql.map (.int .i64)).toArray, .int .i64 syncs] w fun e w' => e = .returned (.bool true) ∧ Fr [] w w' := by
  obtain ⟨SA, hSA⟩ : ∃ SA, SA = (sl.map Value.string).toArray := ⟨_, rfl⟩
  obtain ⟨QA, hQA⟩ : ∃ QA, QA = (ql.map (Value.int .i64)).toArray := ⟨_, rfl⟩
  rw [← hSA, ← hQA]
  have hF0 : Fr [] w ((w.alloc (.cells SA 37)).alloc (.cells QA 38)) := ((Fr.refl _ _).alloc _).alloc _
  have hn0 : ((w.alloc (.cells SA 37)).alloc (.cells QA 38)).heap[w.heap.size]? = some (.cells SA 37 (0, 0)) :=
    (((Fr.refl [] (w.alloc (.cells SA 37))).alloc (.cells QA 38)).block w.heap.size (by simp) (by simp)).trans (heap_alloc_new _ _)
  have hn1 : ((w.alloc (.cells SA 37)).alloc (.cells QA 38)).heap[w.heap.size + 1]? = some (.cells QA 38 (0, 0)) := by
    have := heap_alloc_new (w.alloc (.cells SA 37)) (.cells QA 38)
    simpa using this
  have hcS : ∀ (i : Nat) (h : i < sl.length), ((w.alloc (.cells SA 37)).alloc (.cells QA 38)).cell? ⟨w.heap.size, i, none⟩ = some (.string sl[i]) := by
    intro i h
    rw [Lib.cell_of_heap hn0, hSA]
    simp [h]
  have hcQ : ∀ (i : Nat) (h : i < ql.length), ((w.alloc (.cells SA 37)).alloc (.cells QA 38)).cell? ⟨w.heap.size + 1, i, none⟩ = some (.int .i64 ql[i]) := by
    intro i h
    rw [Lib.cell_of_heap hn1, hQA]
    simp [h]
  have HQ := Lib.hid (And.intro hF0 (And.intro hcS hcQ))
  have hz := zerosB_size 48
  have hmk := fun W => run_zeros W 48 (show (48 : Int) = ((48 : Nat) : Int) from rfl) (by decide)
  clear hF0 hn0 hn1 hcS hcQ hSA hQA
  generalize hZ : zerosB 48 = Z at hz hmk
  have HZ := Lib.hid hZ
  clear hZ
  go_enter Try.func5, Try.ntmps5
  go_wp2_with fail
  (with_reducible refine (awake02_calls _).mono ?_)
  rintro e w1 ⟨rfl, hf1⟩
  generalize (w.alloc (.cells SA 37)).alloc (.cells QA 38) = W0 at hf1 HQ
  go_wp2_with fail
  (with_reducible refine (NewN_calls W0 _ hf1 48 (show (48 : Int) = ((48 : Nat) : Int) from rfl) (by decide) (by decide)).mono ?_)
  rintro e w2 ⟨d, ps, pn, rfl, h2⟩
  rw [HZ.out] at h2
  clear hf1
  have hk2 : DN W0 (w2.alloc (.cells (Lib.strCells Z).toArray 5)) d ps pn (.slice none 0 0) [] Z Z [] 0 false ∧ BB 5 (w2.alloc (.cells (Lib.strCells Z).toArray 5)) w2.heap.size Z ∧ W0.heap.size ≤ w2.heap.size ∧ (∀ x, x ∈ [d, ps, pn] → x ≠ w2.heap.size) ∧ (∀ x, x ∈ ([] : List Nat) → x ≠ w2.heap.size) :=
    ⟨h2.then ((Fr.refl _ _).alloc _), heap_alloc_new _ _, h2.fr.size, fun x hx => by have := h2.dk.lt x (by simp at hx ⊢; rcases hx with h | h | h <;> simp [h]); omega, by simp⟩
  have H2 := Lib.hid hk2
  clear hk2
  have hg0 : w2.heap.size < w2.heap.size + 1 := by omega
  clear h2
  go_wp2_with fail
  generalize w2.alloc (.cells (Lib.strCells Z).toArray 5) = W2 at H2 ⊢
  generalize w2.heap.size = g at H2 ⊢
  clear hmk hg0
  go_loopw [10] (fun v10 wr => ∃ (i : Nat) (st nw : ByteArray) (v : Value) (r : List Nat) (wl : List (Nat × ByteArray)), v10 = .int .i64 i ∧ i ≤ 3 ∧ st.size = 48 ∧ nw.size = 48 ∧ wl.length ≤ i ∧ Hid (DN W0 wr d ps pn v r st nw wl 0 false ∧ BB 5 wr g nw ∧ W0.heap.size ≤ g ∧ (∀ x, x ∈ [d, ps, pn] → x ≠ g) ∧ (∀ x, x ∈ r → x ≠ g))) (fun v10 _ => 3 - (intOf v10).toNat)
  case atStart => exact ⟨0, Z, Z, _, [], [], rfl, by decide, hz, hz, Nat.le_refl _, H2.out⟩
  case round =>
    clear H2
    obtain ⟨i, st, nw, v, r, wl, rfl, hi, hst, hnw, hwl, H⟩ := hrel
    by_cases hi3 : i < 3
    · have hc := H.out.1.fr.cell' (HQ.out.2.1 i (by omega)) (by simp)
      have hx := hs (sl[i]'(by omega)) (List.getElem_mem _)
      generalize sl[i]'(by omega) = x at hc hx
      have hd := H.out.1.fr.cell' (HQ.out.2.2 i (by omega)) (by simp)
      have hy := hq (ql[i]'(by omega)) (List.getElem_mem _)
      generalize ql[i]'(by omega) = y at hd hy
      obtain ⟨T, hT, hT0, hT1⟩ : ∃ T, y.tmod 21 = T ∧ -21 < T ∧ T < 21 := ⟨_, rfl, tmod_bounds3 _ _ (by decide)⟩
      obtain ⟨k, hk, hk21⟩ : ∃ q : Nat, (T + 21) % 21 = (q : Int) ∧ q < 21 := ⟨((T + 21) % 21).toNat, by omega, by omega⟩
      have hk2 : T % 21 = (k : Int) := by omega
      go_wp2_with fail
      (with_reducible refine (short02_calls x 20 20 rfl _ (by omega) (by omega)).mono ?_)
      rintro e w3 ⟨rfl, rfl⟩
      have hs20 := shortB_size x 20
      generalize shortB x 20 = s at hs20 ⊢
      clear hx hc
      have hfit : k + s.size ≤ st.size := by omega
      go_wp2_with fail
      (try rw [hk2])
      (with_reducible refine (Write0F_calls W0 _ d ps pn v r st nw wl H.out.1 k rfl s hfit (by omega)).mono ?_)
      rintro e w4 ⟨rfl, v4, r4, h4, hf4, hn4⟩
      (try rw [hk2])
      (try rw [hk])
      clear hT hT0 hT1 hk hk2 hd hy
      have hgS : g ∉ d :: ps :: pn :: r := fun hm => by
        simp only [List.mem_cons] at hm
        rcases hm with h | h | h | h
        · exact H.out.2.2.2.1 d (by simp) h.symm
        · exact H.out.2.2.2.1 ps (by simp) h.symm
        · exact H.out.2.2.2.1 pn (by simp) h.symm
        · exact H.out.2.2.2.2 g h rfl
      have hB4 := H.out.2.1.keep hf4 hgS
      have hr4 : ∀ x, x ∈ r4 → x ≠ g := fun x hx => by
        rcases hn4 x hx with h | h
        · exact H.out.2.2.2.2 x h
        · have := H.out.2.1.lt; omega
      have H4 := Lib.hid (And.intro h4 (And.intro hB4 (And.intro H.out.2.2.1 (And.intro H.out.2.2.2.1 hr4))))
      clear h4 hf4 hn4 hgS hB4 hr4 H
      go_wp2_with (with_reducible refine wpList_copyS rfl _ _ 39 9 rfl 5 Try.underlying39 sizeU8 _ _ _ s rfl rfl 5 g k nw H4.out.2.1 (by omega) (by omega) (by intro h; first | rfl | omega) ?_)
      intro w5 hB5 hf5
      have h5 : DN W0 w5 d ps pn v4 r4 st (ovB nw k s) (wl ++ [(k, s)]) 0 false ∧ BB 5 w5 g (ovB nw k s) ∧ W0.heap.size ≤ g ∧ (∀ x, x ∈ [d, ps, pn] → x ≠ g) ∧ (∀ x, x ∈ r4 → x ≠ g) :=
        ⟨H4.out.1.other hf5 (fun x hx => by
          simp only [List.mem_cons] at hx
          simp
          rcases hx with h | h | h | h
          · exact H4.out.2.2.2.1 x (by simp [h])
          · exact H4.out.2.2.2.1 x (by simp [h])
          · exact H4.out.2.2.2.1 x (by simp [h])
          · exact H4.out.2.2.2.2 x h) (fun x hx => by simp at hx; rw [hx]; exact H4.out.2.2.1), hB5, H4.out.2.2⟩
      have H5 := Lib.hid h5
      clear h5 hB5 hf5 H4
      have hov : (ovB nw k s).size = 48 := by rw [ovB_size (by omega)]; exact hnw
      go_wp2_with fail
      · (with_reducible refine (SyncF_calls W0 _ d ps pn _ _ _ _ _ H5.out.1).mono ?_)
        rintro e w6 ⟨rfl, v6, h6, hf6⟩
        have hgS : g ∉ d :: ps :: r4 := fun hm => by
          simp only [List.mem_cons] at hm
          rcases hm with h | h | h
          · exact H5.out.2.2.2.1 d (by simp) h.symm
          · exact H5.out.2.2.2.1 ps (by simp) h.symm
          · exact H5.out.2.2.2.2 g h rfl
        have H6 := Lib.hid (And.intro h6 (And.intro (H5.out.2.1.keep hf6 hgS) H5.out.2.2))
        clear h6 hf6 hgS H5
        go_wp2_with fail
        (with_reducible refine (Pending_calls _ d ps pn _ _ _ _ _ _ _ H6.out.1.dk).mono ?_)
        rintro e w7 ⟨rfl, hf7⟩
        rw [show pend [] = 0 from rfl]
        have H5 := Lib.hid (And.intro (H6.out.1.then hf7) (And.intro (H6.out.2.1.keep hf7 (by simp)) H6.out.2.2))
        clear hf7 H6
        have hfull : (ovB nw k s).extract 0 (0 + 48) = ovB nw k s := by rw [show 0 + 48 = (ovB nw k s).size from by omega, ByteArray.extract_zero_size]
        have hcut := ov_read (t := nw) (k := k) (s := s) (by omega)
        have hnew : (ovB nw k s).size = 48 := by omega
        have hcv : (convert 39 9 (.slice (some ⟨g, 0, none⟩) 48 48)).run Try.prog w7 = .ok (.string (ovB nw k s)) w7 := by
          have hr := H5.out.2.1.read 0 48
          rw [show (ovB nw k s).extract 0 48 = ovB nw k s from by rw [show 48 = (ovB nw k s).size from by omega, ByteArray.extract_zero_size]] at hr
          exact run_toString Try.underlying39 Try.underlying5 Try.underlying9 hnew.symm hr (by rintro ad ⟨⟩; rfl)
        have gA : 0 + 48 ≤ (ovB nw k s).size := by omega
        have gB' : k + s.size ≤ (ovB nw k s).size := by omega
        generalize hNW : ovB nw k s = NW at H5 hfull hcut hnew hcv gA gB'
        clear hNW
        go_wp2_with fail
        (with_reducible refine (Read_calls _ d ps pn _ _ _ _ _ _ H5.out.1.dk 0 48 zi0 (show (48 : Int) = ((48 : Nat) : Int) from rfl) gA).mono ?_)
        rintro e w7 ⟨rfl, rfl⟩
        rw [hfull]
        go_wp2_with fail
        (with_reducible refine (Read_calls _ d ps pn _ _ _ _ _ _ H5.out.1.dk k s.size rfl rfl gB').mono ?_)
        rintro e w7 ⟨rfl, rfl⟩
        rw [hcut]
        clear hfull hcut
        go_wp2_with fail
        refine ⟨⟨i + 1, _, NW, _, _, _, by go_num, by omega, by omega, by omega, Nat.zero_le _, H5⟩, by simp only [intOf]; omega⟩
      · skip
        have hfull : (ovB nw k s).extract 0 (0 + 48) = ovB nw k s := by rw [show 0 + 48 = (ovB nw k s).size from by omega, ByteArray.extract_zero_size]
        have hcut := ov_read (t := nw) (k := k) (s := s) (by omega)
        have hnew : (ovB nw k s).size = 48 := by omega
        have hcv : (convert 39 9 (.slice (some ⟨g, 0, none⟩) 48 48)).run Try.prog w5 = .ok (.string (ovB nw k s)) w5 := by
          have hr := H5.out.2.1.read 0 48
          rw [show (ovB nw k s).extract 0 48 = ovB nw k s from by rw [show 48 = (ovB nw k s).size from by omega, ByteArray.extract_zero_size]] at hr
          exact run_toString Try.underlying39 Try.underlying5 Try.underlying9 hnew.symm hr (by rintro ad ⟨⟩; rfl)
        have gA : 0 + 48 ≤ st.size := by omega
        have gB' : k + s.size ≤ st.size := by omega
        generalize hNW : ovB nw k s = NW at H5 hfull hcut hnew hcv gA gB'
        clear hNW
        go_wp2_with fail
        (with_reducible refine (Read_calls _ d ps pn _ _ _ _ _ _ H5.out.1.dk 0 48 zi0 (show (48 : Int) = ((48 : Nat) : Int) from rfl) gA).mono ?_)
        rintro e w7 ⟨rfl, rfl⟩
        rw [hfull]
        go_wp2_with fail
        (with_reducible refine (Read_calls _ d ps pn _ _ _ _ _ _ H5.out.1.dk k s.size rfl rfl gB').mono ?_)
        rintro e w7 ⟨rfl, rfl⟩
        rw [hcut]
        clear hfull hcut
        go_wp2_with fail
        refine ⟨⟨i + 1, _, NW, _, _, _, by go_num, by omega, by omega, by omega, by rw [List.length_append]; simp; omega, H5⟩, by simp only [intOf]; omega⟩
    · have hF := H.out.1.fr
      go_wp2_with fail
      go_ret
      exact ⟨rfl, HQ.out.1.then hF⟩

/-- For any three texts, places and bits the law returns true. -/
theorem DiskReads_walk (w : World) (s0 s1 s2 : ByteArray) (hs0 : s0.size ≤ maxLen) (hs1 : s1.size ≤ maxLen) (hs2 : s2.size ≤ maxLen) (q0 q1 q2 : Int) (hq0 : Bd .i64 q0) (hq1 : Bd .i64 q1) (hq2 : Bd .i64 q2) (syncs : Int) (hy : Bd .i64 syncs) :
    Calls Try.prog 5 #[.agg #[.string s0, .string s1, .string s2], .agg #[.int .i64 q0, .int .i64 q1, .int .i64 q2], .int .i64 syncs] w fun e w' => e = .returned (.bool true) ∧ Fr [] w w' := by
  refine DiskReads_core w [s0, s1, s2] [q0, q1, q2] rfl rfl ?_ ?_ syncs hy.i64.1 hy.i64.2
  · intro x hx
    unfold maxLen at hs0 hs1 hs2
    simp at hx
    rcases hx with rfl | rfl | rfl <;> omega
  · intro x hx
    simp at hx
    rcases hx with rfl | rfl | rfl
    · exact hq0.i64
    · exact hq1.i64
    · exact hq2.i64

end Go.Proofs.Ytndenbcdhbnamaa
