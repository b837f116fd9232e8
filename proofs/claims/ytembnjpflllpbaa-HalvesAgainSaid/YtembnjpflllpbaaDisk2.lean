/- Contracts of the disk: New, Read, Write. -/
import Derived.Test.YtembnjpflllpbaaDisk
import Derived.Test.YtembnjpflllpbaaZeros
import Derived.Laws.MakeOwn
namespace Go.Proofs.Ytembnjpflllpbaa
open Go.RowKit
set_option linter.unusedVariables false
set_option linter.unusedSimpArgs false

theorem infoWrite : (Try.prog.info? 69).map (fun i => (i.zero, i.size, i.bytes)) = some (some (.agg #[.int .i64 0, .string ⟨#[]⟩]), 2, 24) := by kernel_rfl

theorem New_DK (w : World) (m b ps pn : Nat) (hb : b = w.heap.size + 2) (h : ps = w.heap.size ∧ pn = w.heap.size + 1 ∨ ps = w.heap.size + 1 ∧ pn = w.heap.size) (h0 : 1 ≤ m) (h1 : m ≤ 131072) :
    DK ((((w.alloc (.cells (Lib.strCells (zerosB m)).toArray 5)).alloc (.cells (Lib.strCells (zerosB m)).toArray 5)).alloc (.cells #[.slice (some ⟨ps, 0, none⟩) m m, .slice (some ⟨pn, 0, none⟩) m m, .slice none 0 0, .int .i64 0, .bool false] 54)).drew) b ps pn (.slice none 0 0) [] (zerosB m) (zerosB m) [] 0 false
      ∧ Fr [] w ((((w.alloc (.cells (Lib.strCells (zerosB m)).toArray 5)).alloc (.cells (Lib.strCells (zerosB m)).toArray 5)).alloc (.cells #[.slice (some ⟨ps, 0, none⟩) m m, .slice (some ⟨pn, 0, none⟩) m m, .slice none 0 0, .int .i64 0, .bool false] 54)).drew) ∧ (∀ k, k ∈ [b, ps, pn] → w.heap.size ≤ k) := by
  subst hb
  generalize hZ : (Obj.cells (Lib.strCells (zerosB m)).toArray 5) = Z
  have e1 : ∀ (O : Obj), (((w.alloc Z).alloc Z).alloc O).heap[w.heap.size + 2]? = some O := by
    intro O
    have := heap_alloc_new ((w.alloc Z).alloc Z) O
    simpa using this
  have e2 : ∀ (O : Obj), (((w.alloc Z).alloc Z).alloc O).heap[w.heap.size]? = some Z := fun O =>
    ((((Fr.refl [] (w.alloc Z)).alloc Z).alloc O).block w.heap.size (by simp) (by simp)).trans (heap_alloc_new w Z)
  have e3 : ∀ (O : Obj), (((w.alloc Z).alloc Z).alloc O).heap[w.heap.size + 1]? = some Z := fun O =>
    (((Fr.refl [] ((w.alloc Z).alloc Z)).alloc O).block (w.heap.size + 1) (by simp) (by simp)).trans (by have := heap_alloc_new (w.alloc Z) Z; simpa using this)
  have hps : ∀ (O : Obj), BB 5 (((w.alloc Z).alloc Z).alloc O) w.heap.size (zerosB m) := fun O => (e2 O).trans (congrArg some hZ.symm)
  have hpn : ∀ (O : Obj), BB 5 (((w.alloc Z).alloc Z).alloc O) (w.heap.size + 1) (zerosB m) := fun O => (e3 O).trans (congrArg some hZ.symm)
  have hsz := zerosB_size m
  refine ⟨⟨?_, SRow.nil _ _ _, ?_, ?_, rfl, by omega, by simp, by simp, by decide, by decide, ?_, ?_, ?_, by simp⟩, ?_, ?_⟩
  · rw [hsz]
    exact e1 _
  · rcases h with ⟨rfl, rfl⟩ | ⟨rfl, rfl⟩
    · exact hps _
    · exact hpn _
  · rcases h with ⟨rfl, rfl⟩ | ⟨rfl, rfl⟩
    · exact hpn _
    · exact hps _
  · omega
  · omega
  · omega
  · exact ((((Fr.refl _ _).alloc _).alloc _).alloc _).drew
  · intro k hk
    simp only [List.mem_cons, List.not_mem_nil, or_false] at hk
    omega

set_option maxHeartbeats 400000 in
set_option maxRecDepth 100000 in
theorem New_calls (w : World) (m : Nat) {mi : Int} (hmi : mi = m) (h0 : 1 ≤ m) (h1 : m ≤ 131072) :
    Calls Try.prog 8 #[.int .i64 mi] w fun e w' => ∃ b ps pn, e = .returned (.pointer (some ⟨b, 0, none⟩)) ∧ DK w' b ps pn (.slice none 0 0) [] (zerosB m) (zerosB m) [] 0 false ∧ Fr [] w w' ∧ (∀ k, k ∈ [b, ps, pn] → w.heap.size ≤ k) := by
  subst hmi
  have hmk := fun W => run_zeros W m rfl (by omega)
  go_enter Try.func8, Try.ntmps8
  go_wp2_with fail
  go_region
  all_goals
    go_wp2
    go_ret
    exact ⟨_, _, _, rfl, New_DK w m _ _ _ (by simp) (by first | exact .inl ⟨rfl, rfl⟩ | exact .inr ⟨rfl, rfl⟩) h0 h1⟩

set_option maxHeartbeats 400000 in
set_option maxRecDepth 100000 in
theorem Read_calls (w : World) (b ps pn : Nat) (v : Value) (r : List Nat) (st nw : ByteArray) (wl : List (Nat × ByteArray)) (left : Int) (h : DK w b ps pn v r st nw wl left false) (k n : Nat) {ki ni : Int} (hki : ki = k) (hni : ni = n) (hkn : k + n ≤ st.size) :
    Calls Try.prog 48 #[.pointer (some ⟨b, 0, none⟩), .int .i64 ki, .int .i64 ni] w fun e w' => e = .returned (.tuple #[.string (nw.extract k (k + n)), .int .i64 0]) ∧ w = w' := by
  subst hki hni
  have c1 : w.cell? ⟨b, 1, none⟩ = some (.slice (some ⟨pn, 0, none⟩) st.size st.size) := by rw [Lib.cell_of_heap h.blk]; rfl
  have c4 : w.cell? ⟨b, 4, none⟩ = some (.bool false) := by rw [Lib.cell_of_heap h.blk]; rfl
  have hb := h.big
  have hsz : (nw.extract k (k + n)).size = n := by have := h.size; rw [ByteArray.size_extract]; omega
  have hcv : ∀ c, (convert 51 9 (.slice (some ⟨pn, k, none⟩) n c)).run Try.prog w = .ok (.string (nw.extract k (k + n))) w := fun c => run_toString Try.underlying51 Try.underlying5 Try.underlying9 hsz.symm (h.hn.read _ _) (by rintro ad ⟨⟩; rfl)
  have hcv0 : n = 0 → ∀ A c, (A = none ∨ ∃ o, A = some ⟨pn, o, none⟩) → (convert 51 9 (.slice A 0 c)).run Try.prog w = .ok (.string (nw.extract k (k + n))) w := by
    intro h0 A c hA
    have he : nw.extract k (k + n) = ⟨#[]⟩ := by
      apply ByteArray.ext
      apply Array.eq_empty_of_size_eq_zero
      have := hsz
      rw [h0] at this ⊢
      exact this
    rw [he]
    exact run_toString Try.underlying51 Try.underlying5 Try.underlying9 rfl (RdV.nil _ _) (by rcases hA with rfl | ⟨o, rfl⟩ <;> rintro ad ⟨⟩ <;> rfl)
  generalize nw.extract k (k + n) = t at hcv hcv0 ⊢
  have hd : decide ((0 : Int) ≤ (k : Int) ∧ (0 : Int) ≤ (n : Int) ∧ (k : Int) ≤ (st.size : Int) - (n : Int)) = true := decide_eq_true ⟨by omega, by omega, by omega⟩
  have HM := Lib.hid (may_calls w b ps pn v r st nw wl left false h (k : Int) (n : Int) (Bd.of_i64 (by omega) (by omega)) (Bd.of_i64 (by omega) (by omega)))
  rw [hd] at HM
  clear hd h
  by_cases hk : k < st.size
  · clear hcv0
    go_enter Try.func48, Try.ntmps48
    go_wp2_with fail
    (with_reducible refine HM.out.mono ?_)
    rintro e w' ⟨rfl, rfl⟩
    go_wp2
    go_ret2
    exact ⟨rfl, rfl⟩
  · obtain rfl : k = st.size := by omega
    obtain rfl : n = 0 := by omega
    have hc0 := hcv0 rfl (some ⟨pn, 0, none⟩) 0 (.inr ⟨_, rfl⟩)
    have hc1 := hcv0 rfl none 0 (.inl rfl)
    have hc2 := hcv0 rfl (some ⟨pn, st.size, none⟩) 0 (.inr ⟨_, rfl⟩)
    clear hcv0 hcv
    have z0 : ((0 : Nat) : Int) = 0 := rfl
    rw [z0] at HM ⊢
    clear z0
    go_enter Try.func48, Try.ntmps48
    go_wp2_with fail
    (with_reducible refine HM.out.mono ?_)
    rintro e w' ⟨rfl, rfl⟩
    go_wp2
    go_ret2
    exact ⟨rfl, rfl⟩

set_option maxHeartbeats 1000000 in
set_option maxRecDepth 100000 in
theorem Write_calls (w : World) (b ps pn : Nat) (v : Value) (r : List Nat) (st nw : ByteArray) (wl : List (Nat × ByteArray)) (left : Int) (h : DK w b ps pn v r st nw wl left false) (k : Nat) {ki : Int} (hki : ki = k) (s : ByteArray) (hks : k + s.size ≤ st.size) (hm : wl.length < 1000000) :
    Calls Try.prog 42 #[.pointer (some ⟨b, 0, none⟩), .int .i64 ki, .string s] w fun e w' => e = .returned (.int .i64 (if stepB left false then 18 else 0)) ∧ ∃ v' r', DK w' b ps pn v' r' st (ovB nw k s) (wl ++ [(k, s)]) (stepL left) (stepB left false) ∧ Fr (b :: ps :: pn :: r) w w' ∧ (∀ k, k ∈ r' → k ∈ r ∨ w.heap.size ≤ k) := by
  subst hki
  generalize hq : (if stepB left false then (18 : Int) else 0) = q
  have HQ := Lib.hid hq
  clear hq
  have c4 : w.cell? ⟨b, 4, none⟩ = some (.bool false) := by rw [Lib.cell_of_heap h.blk]; rfl
  have c2 : w.cell? ⟨b, 2, none⟩ = some v := by rw [Lib.cell_of_heap h.blk]; rfl
  have hb := h.big
  have hnw := h.size
  have hd : decide ((0 : Int) ≤ (k : Int) ∧ (0 : Int) ≤ (s.size : Int) ∧ (k : Int) ≤ (st.size : Int) - (s.size : Int)) = true := decide_eq_true ⟨by omega, by omega, by omega⟩
  have HM := Lib.hid (may_calls w b ps pn v r st nw wl left false h (k : Int) (s.size : Int) (Bd.of_i64 (by omega) (by omega)) (Bd.of_i64 (by omega) (by omega)))
  rw [hd] at HM
  clear hd
  obtain ⟨cs, hcs⟩ : ∃ cs, cs = wcells wl := ⟨_, rfl⟩
  have hw := h.wait
  rw [← hcs] at hw
  have HCS := Lib.hid hcs
  clear hcs
  go_enter Try.func42, Try.ntmps42
  go_wp2_with fail
  (with_reducible refine HM.out.mono ?_)
  rintro e w' ⟨rfl, rfl⟩
  clear HM
  go_wp2_with (at_builtin; refine wpList_sapp rfl _ _ 52 rfl 69 Try.underlying52 (.agg #[.int .i64 0, .string ⟨#[]⟩]) 2 24 infoWrite rfl (by decide) v r wl.length cs rfl (hw.keep ((Fr.refl [] _).alloc _) (by simp)) ⟨w.heap.size, 0, none⟩ 1 1 [.int .i64 k, .string s] rfl rfl (by exact RdV.new _ #[.int .i64 k, .string s] 69 rfl rfl) (by simp [Value.oneCell']) (by simp only [maxLen]; omega) (by omega) ?_)
  intro v' w2 r' h2 hf2 hn2
  obtain ⟨A', cap', rfl, -, -, -, -⟩ := h2.reads
  have hfA : Fr r w w2 := ((Fr.refl _ _).alloc _).trans hf2 (fun k hk => .inl hk)
  have hb2 := (hfA.block b (lt_of_heap h.blk) h.nr.1).trans h.blk
  have hr' : ∀ k, k ∈ r' → k ∈ r ∨ w.heap.size ≤ k := fun k hk => by
    rcases hn2 k hk with h | h
    · exact .inl h
    · exact .inr (by (try simp at h); omega)
  have hnr' : ∀ k, k ∈ b :: ps :: pn :: r → k ∈ r' → k ∈ r := fun k hk hk' => by
    rcases hr' k hk' with h1 | h1
    · exact h1
    · have := h.lt k hk; omega
  have hD : ∀ W, W = w2.setCell ⟨b, 2, none⟩ (.slice A' (wl.length + 1) cap') → DK W b ps pn (.slice A' (wl.length + 1) cap') r' st nw (wl ++ [(k, s)]) left false ∧ Fr (b :: r) w W := by
    intro W hW
    subst hW
    have hfB : Fr [b] w2 (w2.setCell ⟨b, 2, none⟩ (.slice A' (wl.length + 1) cap')) := (Fr.refl _ _).setCell (.inl (by simp)) _
    have hfC : Fr (b :: r) w (w2.setCell ⟨b, 2, none⟩ (.slice A' (wl.length + 1) cap')) := (hfA.mono (fun k hk _ => by simp [hk])).setCell (.inl (by simp)) _
    refine ⟨⟨?_, ?_, h.hs.keep hfC ?_, h.hn.keep hfC ?_, h.size, h.big, ?_, ?_, h.left0, h.left1, h.ne1, h.ne2, h.ne3, ?_, ?_, ?_⟩, hfC⟩
    · simp [World.setCell, Array.getElem?_modify, hb2]
    · have h3 := h2.keep hfB (fun k hk => by simp; rintro rfl; exact h.nr.1 (hnr' _ (by simp) hk))
      rw [HCS.out] at h3
      rw [wcells_app, List.length_append]
      exact h3
    · simp; exact ⟨fun e => h.ne1 e.symm, h.nr.2.1⟩
    · simp; exact ⟨fun e => h.ne2 e.symm, h.nr.2.2⟩
    · simp; omega
    · intro x hx
      rcases List.mem_append.1 hx with hx | hx
      · exact h.fit x hx
      · simp only [List.mem_singleton] at hx
        subst hx
        exact hks
    · exact fun hk => h.nr.1 (hnr' _ (by simp) hk)
    · exact fun hk => h.nr.2.1 (hnr' _ (by simp) hk)
    · exact fun hk => h.nr.2.2 (hnr' _ (by simp) hk)
  have c1 : w2.cell? ⟨b, 1, none⟩ = some (.slice (some ⟨pn, 0, none⟩) st.size st.size) := by rw [Lib.cell_of_heap hb2]; rfl
  have c2' : w2.cell? ⟨b, 2, none⟩ = some v := by rw [Lib.cell_of_heap hb2]; rfl
  have z2 := Lib.frozen_of_heap hb2 2
  have hD1 := hD _ rfl
  have HD := Lib.hid hD1
  have HR := Lib.hid hr'
  clear hD hD1 hn2 hf2 h2 hfA hb2 hr' hnr' h hw HCS c4 c2
  have hfin : ∀ (W w3 : World), DK W b ps pn (.slice A' (wl.length + 1) cap') r' st nw (wl ++ [(k, s)]) left false → Fr (b :: r) w W → BB 5 w3 pn (ovB nw k s) → Fr [pn] W w3 → DK w3 b ps pn (.slice A' (wl.length + 1) cap') r' st (ovB nw k s) (wl ++ [(k, s)]) left false ∧ Fr (b :: ps :: pn :: r) w w3 := by
    intro W w3 h hf hB hf3
    exact ⟨⟨(hf3.block b (lt_of_heap h.blk) (by simp; exact h.ne2)).trans h.blk, h.wait.keep hf3 (fun k hk => by simp; rintro rfl; exact h.nr.2.2 hk), h.hs.keep hf3 (by simp; exact h.ne3), hB, by rw [ovB_size (by omega)]; exact h.size, h.big, h.most, h.fit, h.left0, h.left1, h.ne1, h.ne2, h.ne3, h.nr⟩,
      (hf.mono (fun k hk _ => by simp at hk ⊢; rcases hk with h | h <;> simp [h])).trans hf3 (fun k hk => .inl (by simp at hk; simp [hk]))⟩
  have HF := Lib.hid hfin
  clear hfin
  by_cases hk : k < st.size
  · go_wp2_with (with_reducible refine wpList_copyS rfl _ _ 51 9 rfl 5 Try.underlying51 sizeU8 _ _ _ s rfl rfl 5 pn k nw HD.out.1.hn (by omega) (by omega) (by intro h; first | rfl | omega) ?_)
    intro w3 hB3 hf3
    obtain ⟨h4, hf4⟩ := HF.out _ _ HD.out.1 HD.out.2 hB3 hf3
    clear HD HF c1 c2' z2 hB3 hf3
    have hst := step_calls _ b ps pn (.slice A' (wl.length + 1) cap') r' st _ _ left false h4
    rw [HQ.out] at hst
    have HST := Lib.hid hst
    clear hst h4 HQ
    go_wp2_with fail
    (with_reducible refine HST.out.mono ?_)
    rintro e w5 ⟨rfl, h5, hf5⟩
    have hf6 : Fr (b :: ps :: pn :: r) w w5 := hf4.trans hf5 (fun k hk => .inl (by simp at hk; simp [hk]))
    go_wp2_with fail
    go_ret
    exact ⟨rfl, _, r', h5, hf6, HR.out⟩
  · obtain rfl : k = st.size := by omega
    go_wp2_with (with_reducible refine wpList_copyS rfl _ _ 51 9 rfl 5 Try.underlying51 sizeU8 _ _ _ s rfl rfl 5 pn st.size nw HD.out.1.hn (by omega) (by omega) (by intro h; first | rfl | omega) ?_)
    intro w3 hB3 hf3
    obtain ⟨h4, hf4⟩ := HF.out _ _ HD.out.1 HD.out.2 hB3 hf3
    clear HD HF c1 c2' z2 hB3 hf3
    have hst := step_calls _ b ps pn (.slice A' (wl.length + 1) cap') r' st _ _ left false h4
    rw [HQ.out] at hst
    have HST := Lib.hid hst
    clear hst h4 HQ
    go_wp2_with fail
    (with_reducible refine HST.out.mono ?_)
    rintro e w5 ⟨rfl, h5, hf5⟩
    have hf6 : Fr (b :: ps :: pn :: r) w w5 := hf4.trans hf5 (fun k hk => .inl (by simp at hk; simp [hk]))
    go_wp2_with fail
    go_ret
    exact ⟨rfl, _, r', h5, hf6, HR.out⟩

end Go.Proofs.Ytembnjpflllpbaa
