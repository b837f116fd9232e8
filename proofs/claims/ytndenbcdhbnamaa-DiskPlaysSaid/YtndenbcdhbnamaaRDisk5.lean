/- The contracts of the document's New, Write, Read, Sync. -/
import Derived.Test.YtndenbcdhbnamaaRNow
import Derived.Test.YtndenbcdhbnamaaZeros
import Derived.Laws.MakeOwn
namespace Go.Proofs.Ytndenbcdhbnamaa
open Go.RowKit
set_option linter.unusedVariables false
set_option linter.unusedSimpArgs false

theorem srow_of_bytes (w : World) (t : ByteArray) (T : TypeId) {g n : Nat} (hn : n = t.size) (hb : w.heap[g]? = some (.cells (Lib.strCells t).toArray T (0, 0))) (hm : n ≤ maxLen) : SRow T 1 w (.slice (some ⟨g, 0, none⟩) n n) [g] n (Lib.strCells t) := by
  subst hn
  exact ⟨⟨by rw [Lib.strCells_length, Nat.mul_one], .inr ⟨g, t.size, _, rfl, Nat.zero_le _, hb, Nat.le_refl _, hm, by simp [Lib.strCells_length], by simp [List.take_of_length_le, Lib.strCells_length]⟩⟩, rfl⟩
set_option maxRecDepth 100000 in
theorem rNew_calls (w : World) (m : Nat) {mi : Int} (hmi : mi = m) (h0 : 1 ≤ m) (h1 : m ≤ 131072) :
    Calls Try.prog 19 #[.int .i64 mi] w fun e w' => ∃ b vs rs, e = .returned (.pointer (some ⟨b, 0, none⟩)) ∧ RK w' b vs rs (.slice none 0 0) [] (zerosB m) [] 0 false ∧ Fr [] w w' ∧ (∀ k, k ∈ b :: rs → w.heap.size ≤ k) := by
  subst hmi
  have hmk := fun W => run_zeros W m rfl (by omega)
  have hz := zerosB_size m
  go_enter Try.func19, Try.ntmps19
  go_wp2_with fail
  go_ret
  have e2 := (((Fr.refl [] (w.alloc (.cells (Lib.strCells (zerosB m)).toArray 5))).alloc (.cells #[.slice (some ⟨w.heap.size, 0, none⟩) m m, .slice none 0 0, .int .i64 0, .bool false] 51)).block w.heap.size (by simp) (by simp)).trans (heap_alloc_new w _)
  refine ⟨w.heap.size + 1, .slice (some ⟨w.heap.size, 0, none⟩) m m, [w.heap.size], rfl, ⟨?_, ?_, SRow.nil _ _ _, by omega, by simp, by simp, by decide, by decide, by simp⟩, ((Fr.refl _ _).alloc _).alloc _, ?_⟩
  · have := heap_alloc_new (w.alloc (.cells (Lib.strCells (zerosB m)).toArray 5)) (.cells #[.slice (some ⟨w.heap.size, 0, none⟩) m m, .slice none 0 0, .int .i64 0, .bool false] 51)
    simpa using this
  · rw [hz]
    exact srow_of_bytes _ _ _ hz.symm e2 (by simp only [maxLen]; omega)
  · intro k hk
    simp at hk
    omega
set_option maxRecDepth 100000 in
theorem rWrite_calls (w : World) (b : Nat) (vs : Value) (rs : List Nat) (v : Value) (r : List Nat) (st : ByteArray) (wl : List (Nat × ByteArray)) (left : Int) (h : RK w b vs rs v r st wl left false) (k : Nat) {ki : Int} (hki : ki = k) (s : ByteArray) (hks : k + s.size ≤ st.size) (hm : wl.length < 1000000) :
    Calls Try.prog 24 #[.pointer (some ⟨b, 0, none⟩), .int .i64 ki, .string s] w fun e w' => e = .returned (.int .i64 (if stepB left false then 18 else 0)) ∧ ∃ v' r', RK w' b vs rs v' r' st (wl ++ [(k, s)]) (stepL left) (stepB left false) ∧ Fr (b :: r) w w' ∧ (∀ k, k ∈ r' → k ∈ r ∨ w.heap.size ≤ k) := by
  subst hki
  have hb := h.big
  have hd : decide ((0 : Int) ≤ (k : Int) ∧ (0 : Int) ≤ (s.size : Int) ∧ (k : Int) ≤ (st.size : Int) - (s.size : Int)) = true := decide_eq_true ⟨by omega, by omega, by omega⟩
  have HM := Lib.hid (rmay_calls w b vs rs v r st wl left false h (k : Int) (s.size : Int) (Bd.of_i64 (by omega) (by omega)) (Bd.of_i64 (by omega) (by omega)))
  rw [hd] at HM
  clear hd
  obtain ⟨q, hq⟩ : ∃ q, q = stepB left false := ⟨_, rfl⟩
  have hst := rstep_calls w b vs rs v r st wl left h
  rw [← hq] at hst ⊢
  have HST := Lib.hid hst
  clear hst hq
  have hlt : ∀ x, x ∈ b :: (rs ++ r) → x < w.heap.size := by
    intro x hx
    simp only [List.mem_cons, List.mem_append] at hx
    rcases hx with rfl | hx | hx
    · exact lt_of_heap h.blk
    · exact h.stay.lt x hx
    · exact h.wait.lt x hx
  have HL := Lib.hid hlt
  clear hlt h
  rcases Bool.eq_false_or_eq_true q with hqt | hqt
  all_goals (try have hqn : ¬ q = true := by rw [hqt]; decide)
  all_goals
    go_enter Try.func24, Try.ntmps24
    go_wp2_with fail
    (with_reducible refine HM.out.mono ?_)
    rintro e w0 ⟨rfl, hw0⟩
    rw [hw0]
    clear HM hw0
    go_wp2_with fail
    (with_reducible refine HST.out.mono ?_)
    rintro e w1 ⟨rfl, h, hf1⟩
    clear HST
    obtain ⟨left', hle⟩ : ∃ l, l = stepL left := ⟨_, rfl⟩
    rw [← hle] at h
    have c2 : w1.cell? ⟨b, 1, none⟩ = some v := by rw [Lib.cell_of_heap h.blk]; rfl
    obtain ⟨cs, hcs⟩ : ∃ cs, cs = wcells wl := ⟨_, rfl⟩
    have hw := h.wait
    rw [← hcs] at hw
    have HCS := Lib.hid hcs
    have HW := Lib.hid hw
    have HH := Lib.hid h
    have HLE := Lib.hid hle
    clear hcs hw h hle
    have hinf : (Try.prog.info? 64).map (fun i => (i.zero, i.size, i.bytes)) = some (some (.agg #[.int .i64 0, .string ⟨#[]⟩]), 2, 24) := by kernel_rfl
    go_wp2_with (at_builtin; refine wpList_sapp rfl _ _ 49 rfl 64 Try.underlying49 (.agg #[.int .i64 0, .string ⟨#[]⟩]) 2 24 hinf rfl (by decide) v r wl.length cs rfl (HW.out.keep ((Fr.refl [] _).alloc _) (by simp)) ⟨w1.heap.size, 0, none⟩ 1 1 [.int .i64 k, .string s] rfl rfl (by exact RdV.new _ #[.int .i64 k, .string s] 64 rfl rfl) (by simp [Value.oneCell']) (by simp only [maxLen]; omega) (by omega) ?_)
    intro v' w2 r' h2 hf2 hn2
    obtain ⟨A', cap', rfl, -, -, -, -⟩ := h2.reads
    have hf2' : Fr r w1 w2 := ((Fr.refl _ _).alloc _).trans hf2 (fun k hk => .inl hk)
    have hsz1 := hf1.size
    have hr' : ∀ k, k ∈ r' → k ∈ r ∨ w.heap.size ≤ k := fun k hk => by
      rcases hn2 k hk with h | h
      · exact .inl h
      · exact .inr (by (try simp at h); omega)
    have hr'' : ∀ k, k ∈ b :: (rs ++ r) → k ∈ r' → k ∈ r := fun k hk hk' => by
      rcases hr' k hk' with h | h
      · exact h
      · have := HL.out k hk
        omega
    have hb2 := (hf2'.block b (lt_of_heap HH.out.blk) HH.out.nr.2.1).trans HH.out.blk
    have c2' : w2.cell? ⟨b, 1, none⟩ = some v := by rw [Lib.cell_of_heap hb2]; rfl
    have z2 := Lib.frozen_of_heap hb2 1
    have hD : ∀ W, W = w2.setCell ⟨b, 1, none⟩ (.slice A' (wl.length + 1) cap') → RK W b vs rs (.slice A' (wl.length + 1) cap') r' st (wl ++ [(k, s)]) left' q ∧ Fr (b :: r) w W := by
      intro W hW
      subst hW
      have hfB : Fr [b] w2 (w2.setCell ⟨b, 1, none⟩ (.slice A' (wl.length + 1) cap')) := (Fr.refl _ _).setCell (.inl (by simp)) _
      have hfC : Fr (b :: r) w1 (w2.setCell ⟨b, 1, none⟩ (.slice A' (wl.length + 1) cap')) := (hf2'.mono (fun k hk _ => by simp [hk])).setCell (.inl (by simp)) _
      have hnr := HH.out.nr
      refine ⟨⟨?_, HH.out.stay.keep hfC ?_, ?_, HH.out.big, ?_, ?_, HH.out.left0, HH.out.left1, hnr.1, ?_, ?_⟩, (hf1.mono (fun k hk _ => by simp at hk; simp [hk])).trans hfC (fun k hk => .inl hk)⟩
      · simp [World.setCell, Array.getElem?_modify, hb2]
      · intro x hx
        simp
        exact ⟨fun e => hnr.1 (e ▸ hx), hnr.2.2 x hx⟩
      · have h3 := h2.keep hfB (fun k hk => by simp; rintro rfl; exact hnr.2.1 (hr'' _ (by simp) hk))
        rw [HCS.out] at h3
        rw [wcells_app, List.length_append]
        exact h3
      · simp; omega
      · intro x hx
        rcases List.mem_append.1 hx with hx | hx
        · exact HH.out.fit x hx
        · simp only [List.mem_singleton] at hx
          subst hx
          exact hks
      · exact fun hk => hnr.2.1 (hr'' _ (by simp) hk)
      · exact fun x hx hk => hnr.2.2 x hx (hr'' _ (by simp [hx]) hk)
    have hD1 := hD _ rfl
    have HD := Lib.hid hD1
    have HR := Lib.hid hr'
    clear hD hD1 hr' hr'' hb2 hf2' hf2 hn2 h2 hf1 HCS HW HH HL c2
    go_wp2_with fail
    go_ret
    refine ⟨by (try rw [hqt]); rfl, .slice A' (wl.length + 1) cap', r', ?_, HD.out.2, HR.out⟩
    rw [← HLE.out]
    first
    | exact HD.out.1
    | (rw [← hqt]; exact HD.out.1)
    | (have h9 := HD.out.1; rw [hqt] at h9; exact h9)
set_option maxRecDepth 100000 in
theorem rWrite_bad (w : World) (b : Nat) (vs : Value) (rs : List Nat) (v : Value) (r : List Nat) (st : ByteArray) (wl : List (Nat × ByteArray)) (left : Int) (h : RK w b vs rs v r st wl left true) (k : Nat) {ki : Int} (hki : ki = k) (s : ByteArray) (hks : k + s.size ≤ st.size) :
    Calls Try.prog 24 #[.pointer (some ⟨b, 0, none⟩), .int .i64 ki, .string s] w fun e w' => e = .returned (.int .i64 18) ∧ w' = w := by
  subst hki
  have hb := h.big
  have hd : decide ((0 : Int) ≤ (k : Int) ∧ (0 : Int) ≤ (s.size : Int) ∧ (k : Int) ≤ (st.size : Int) - (s.size : Int)) = true := decide_eq_true ⟨by omega, by omega, by omega⟩
  have HM := Lib.hid (rmay_calls w b vs rs v r st wl left true h (k : Int) (s.size : Int) (Bd.of_i64 (by omega) (by omega)) (Bd.of_i64 (by omega) (by omega)))
  rw [hd] at HM
  have HST := Lib.hid (rstep_bad w b vs rs v r st wl left h)
  clear hd h
  go_enter Try.func24, Try.ntmps24
  go_wp2_with fail
  (with_reducible refine HM.out.mono ?_)
  rintro e w' ⟨rfl, rfl⟩
  go_wp2_with fail
  (with_reducible refine HST.out.mono ?_)
  rintro e w1 ⟨rfl, rfl⟩
  go_wp2_with fail
  go_ret
  exact ⟨rfl, rfl⟩
set_option maxRecDepth 100000 in
theorem rWrite_arg (w : World) (b : Nat) (vs : Value) (rs : List Nat) (v : Value) (r : List Nat) (st : ByteArray) (wl : List (Nat × ByteArray)) (left : Int) (bad : Bool) (h : RK w b vs rs v r st wl left bad) (k : Int) (hk : Bd .i64 k) (s : ByteArray) (hs : s.size ≤ 9223372036854775807) (hn : ¬ (0 ≤ k ∧ (0 : Int) ≤ (s.size : Int) ∧ k ≤ (st.size : Int) - (s.size : Int))) :
    Calls Try.prog 24 #[.pointer (some ⟨b, 0, none⟩), .int .i64 k, .string s] w fun e w' => e = .returned (.int .i64 1) ∧ w' = w := by
  have HM := Lib.hid (rmay_calls w b vs rs v r st wl left bad h k (s.size : Int) hk (Bd.of_i64 (by omega) (by omega)))
  rw [decide_eq_false hn] at HM
  clear h hn
  go_enter Try.func24, Try.ntmps24
  go_wp2_with fail
  (with_reducible refine HM.out.mono ?_)
  rintro e w' ⟨rfl, rfl⟩
  go_wp2_with fail
  go_ret
  exact ⟨rfl, rfl⟩
set_option maxRecDepth 100000 in
theorem rRead_arg (w : World) (b : Nat) (vs : Value) (rs : List Nat) (v : Value) (r : List Nat) (st : ByteArray) (wl : List (Nat × ByteArray)) (left : Int) (bad : Bool) (h : RK w b vs rs v r st wl left bad) (k n : Int) (hk : Bd .i64 k) (hn' : Bd .i64 n) (hn : ¬ (0 ≤ k ∧ 0 ≤ n ∧ k ≤ (st.size : Int) - n)) :
    Calls Try.prog 20 #[.pointer (some ⟨b, 0, none⟩), .int .i64 k, .int .i64 n] w fun e w' => e = .returned (.tuple #[.string ⟨#[]⟩, .int .i64 1]) ∧ w' = w := by
  have HM := Lib.hid (rmay_calls w b vs rs v r st wl left bad h k n hk hn')
  rw [decide_eq_false hn] at HM
  clear h hn
  go_enter Try.func20, Try.ntmps20
  go_wp2_with fail
  (with_reducible refine HM.out.mono ?_)
  rintro e w' ⟨rfl, rfl⟩
  go_wp2_with fail
  go_ret2
  exact ⟨rfl, rfl⟩
set_option maxRecDepth 100000 in
theorem rRead_bad (w : World) (b : Nat) (vs : Value) (rs : List Nat) (v : Value) (r : List Nat) (st : ByteArray) (wl : List (Nat × ByteArray)) (left : Int) (h : RK w b vs rs v r st wl left true) (k n : Int) (hk : Bd .i64 k) (hn' : Bd .i64 n) (hn : 0 ≤ k ∧ 0 ≤ n ∧ k ≤ (st.size : Int) - n) :
    Calls Try.prog 20 #[.pointer (some ⟨b, 0, none⟩), .int .i64 k, .int .i64 n] w fun e w' => e = .returned (.tuple #[.string ⟨#[]⟩, .int .i64 18]) ∧ w' = w := by
  have HM := Lib.hid (rmay_calls w b vs rs v r st wl left true h k n hk hn')
  rw [decide_eq_true hn] at HM
  have c3 : w.cell? ⟨b, 3, none⟩ = some (.bool true) := by rw [Lib.cell_of_heap h.blk]; rfl
  clear h hn
  go_enter Try.func20, Try.ntmps20
  go_wp2_with fail
  (with_reducible refine HM.out.mono ?_)
  rintro e w' ⟨rfl, rfl⟩
  go_wp2_with fail
  go_ret2
  exact ⟨rfl, rfl⟩
set_option maxRecDepth 100000 in
theorem rRead_calls (w : World) (b : Nat) (vs : Value) (rs : List Nat) (v : Value) (r : List Nat) (st : ByteArray) (wl : List (Nat × ByteArray)) (left : Int) (h : RK w b vs rs v r st wl left false) (h0 : 0 < st.size) (k n : Nat) {ki ni : Int} (hki : ki = k) (hni : ni = n) (hkn : k + n ≤ st.size) :
    Calls Try.prog 20 #[.pointer (some ⟨b, 0, none⟩), .int .i64 ki, .int .i64 ni] w fun e w' => e = .returned (.tuple #[.string ((nowB st wl).extract k (k + n)), .int .i64 0]) ∧ Fr [] w w' := by
  subst hki hni
  have hb := h.big
  have hd : decide ((0 : Int) ≤ (k : Int) ∧ (0 : Int) ≤ (n : Int) ∧ (k : Int) ≤ (st.size : Int) - (n : Int)) = true := decide_eq_true ⟨by omega, by omega, by omega⟩
  have HM := Lib.hid (rmay_calls w b vs rs v r st wl left false h (k : Int) (n : Int) (Bd.of_i64 (by omega) (by omega)) (Bd.of_i64 (by omega) (by omega)))
  rw [hd] at HM
  clear hd
  have c3 : w.cell? ⟨b, 3, none⟩ = some (.bool false) := by rw [Lib.cell_of_heap h.blk]; rfl
  have HNW := Lib.hid (rnow_calls w b vs rs v r st wl left false h h0)
  have hsz : (nowB st wl).size = st.size := nowB_size st wl h.fit
  have hex : ((nowB st wl).extract k (k + n)).size = n := by rw [ByteArray.size_extract]; omega
  generalize nowB st wl = N at HNW hsz hex ⊢
  obtain ⟨t, ht⟩ : ∃ t, t = N.extract k (k + n) := ⟨_, rfl⟩
  rw [← ht]
  clear h
  go_enter Try.func20, Try.ntmps20
  go_wp2_with fail
  (with_reducible refine HM.out.mono ?_)
  rintro e w' ⟨rfl, rfl⟩
  go_wp2_with fail
  (with_reducible refine HNW.out.mono ?_)
  rintro e w1 ⟨A, cap, r1, rfl, h1, hf1, hn1⟩
  clear HM HNW c3
  obtain ⟨A1, c1, he, hcx, hcm, hrd, hblk⟩ := h1.reads
  injection he with he1 he2 he3
  subst he1 he3
  unfold maxLen at hcm
  obtain ⟨g, rfl⟩ : ∃ g, A = some ⟨g, 0, none⟩ := by
    obtain ⟨ad, ha, _⟩ := hrd 0 ((Lib.strCells N)[0]'(by rw [Lib.strCells_length]; omega)) (by rw [List.getElem?_eq_getElem])
    obtain ⟨g, hg, _⟩ := srow_addr h1 ad ha
    exact ⟨g, by rw [ha, hg]⟩
  have hrc : RdV w1 (some ⟨g, k, none⟩) (Lib.strCells (N.extract k (k + n))) := by
    intro j x hj
    rw [strCells_cut] at hj
    rw [List.getElem?_drop, List.getElem?_take] at hj
    split at hj
    · obtain ⟨ad, ha, hc⟩ := hrd _ _ hj
      injection ha with ha
      subst ha
      refine ⟨_, rfl, ?_⟩
      rw [Addr.add_lit] at hc ⊢
      rw [Nat.zero_add] at hc
      exact hc
    · cases hj
  have hcv : ∀ c, (convert 39 9 (.slice (some ⟨g, k, none⟩) n c)).run Try.prog w1 = .ok (.string (N.extract k (k + n))) w1 := fun c => run_toString Try.underlying39 Try.underlying5 Try.underlying9 hex.symm hrc (by rintro ad ⟨⟩; rfl)
  have hcv0 : n = 0 → ∀ A c, (A = none ∨ ∃ o, A = some ⟨g, o, none⟩) → (convert 39 9 (.slice A 0 c)).run Try.prog w1 = .ok (.string (N.extract k (k + n))) w1 := by
    intro hn0 A c hA
    have he : N.extract k (k + n) = ⟨#[]⟩ := by
      apply ByteArray.ext
      apply Array.eq_empty_of_size_eq_zero
      have := hex
      rw [hn0] at this ⊢
      exact this
    rw [he]
    exact run_toString Try.underlying39 Try.underlying5 Try.underlying9 rfl (RdV.nil _ _) (by rcases hA with rfl | ⟨o, rfl⟩ <;> rintro ad ⟨⟩ <;> rfl)
  rw [← ht] at hcv hcv0
  clear ht
  clear hrd hrc hblk h1 hn1 he2 hex hsz
  by_cases hk : k < cap
  · clear hcv0
    go_wp2
    go_ret2
    exact ⟨rfl, hf1⟩
  · obtain rfl : k = cap := by omega
    obtain rfl : n = 0 := by omega
    have hz : st.size = k := by omega
    have hc0 := hcv0 rfl (some ⟨g, 0, none⟩) 0 (.inr ⟨_, rfl⟩)
    have hc1 := hcv0 rfl none 0 (.inl rfl)
    have hc2 := hcv0 rfl (some ⟨g, k, none⟩) 0 (.inr ⟨_, rfl⟩)
    clear hcv0 hcv
    have z0 : ((0 : Nat) : Int) = 0 := rfl
    (try rw [z0])
    go_wp2
    go_ret2
    exact ⟨rfl, hf1⟩
set_option maxRecDepth 100000 in
theorem rSync_bad (w : World) (b : Nat) (vs : Value) (rs : List Nat) (v : Value) (r : List Nat) (st : ByteArray) (wl : List (Nat × ByteArray)) (left : Int) (h : RK w b vs rs v r st wl left true) :
    Calls Try.prog 21 #[.pointer (some ⟨b, 0, none⟩)] w fun e w' => e = .returned (.int .i64 18) ∧ w' = w := by
  have HST := Lib.hid (rstep_bad w b vs rs v r st wl left h)
  clear h
  go_enter Try.func21, Try.ntmps21
  go_wp2_with fail
  (with_reducible refine HST.out.mono ?_)
  rintro e w1 ⟨rfl, rfl⟩
  go_wp2_with fail
  go_ret
  exact ⟨rfl, rfl⟩
set_option maxRecDepth 100000 in
theorem rSync_break (w : World) (b : Nat) (vs : Value) (rs : List Nat) (v : Value) (r : List Nat) (st : ByteArray) (wl : List (Nat × ByteArray)) (h : RK w b vs rs v r st wl 1 false) :
    Calls Try.prog 21 #[.pointer (some ⟨b, 0, none⟩)] w fun e w' => e = .returned (.int .i64 18) ∧ RK w' b vs rs v r st wl 0 true ∧ Fr [b] w w' := by
  have HST := Lib.hid (rstep_calls w b vs rs v r st wl 1 h)
  rw [show stepL 1 = 0 from rfl, show stepB 1 false = true from rfl] at HST
  clear h
  go_enter Try.func21, Try.ntmps21
  go_wp2_with fail
  (with_reducible refine HST.out.mono ?_)
  rintro e w1 ⟨rfl, h1, hf1⟩
  have H := Lib.hid (And.intro h1 hf1)
  clear h1 hf1
  go_wp2_with fail
  go_ret
  exact ⟨rfl, H.out⟩
set_option maxRecDepth 100000 in
theorem rSync_calls (w : World) (b : Nat) (vs : Value) (rs : List Nat) (v : Value) (r : List Nat) (st : ByteArray) (wl : List (Nat × ByteArray)) (left : Int) (h : RK w b vs rs v r st wl left false) (h0 : 0 < st.size) (hl : left ≠ 1) :
    Calls Try.prog 21 #[.pointer (some ⟨b, 0, none⟩)] w fun e w' => e = .returned (.int .i64 0) ∧ ∃ vs' rs', RK w' b vs' rs' (.slice none 0 0) [] (nowB st wl) [] (stepL left) false ∧ Fr [b] w w' ∧ (∀ k, k ∈ rs' → k ∈ rs ∨ w.heap.size ≤ k) := by
  have e1 : stepB left false = false := by
    have : (left == 1) = false := beq_eq_false_iff_ne.2 hl
    rw [stepB, this]
    rfl
  have HST := Lib.hid (rstep_calls w b vs rs v r st wl left h)
  rw [e1] at HST
  have hN := nowB_size st wl h.fit
  clear h e1
  go_enter Try.func21, Try.ntmps21
  go_wp2_with fail
  (with_reducible refine HST.out.mono ?_)
  rintro e w1 ⟨rfl, h1, hf1⟩
  have H := Lib.hid (And.intro h1 hf1)
  clear h1 hf1 HST
  go_wp2_with fail
  (with_reducible refine (rnow_calls _ b vs rs v r st wl _ _ H.out.1 h0).mono ?_)
  rintro e w2 ⟨A, cap, r2, rfl, h2, hf2, hn2⟩
  have hb1 := H.out.1.blk
  have hb2 := (hf2.block b (lt_of_heap hb1) (by simp)).trans hb1
  have c0 : w2.cell? ⟨b, 0, none⟩ = some vs := by rw [Lib.cell_of_heap hb2]; rfl
  have c1 : w2.cell? ⟨b, 1, none⟩ = some v := by rw [Lib.cell_of_heap hb2]; rfl
  have z0 := Lib.frozen_of_heap hb2 0
  have z1 := Lib.frozen_of_heap hb2 1
  have hnb : b ∉ r2 := fun hk => by
    rcases hn2 b hk with h | h
    · exact H.out.1.nr.1 h
    · have := lt_of_heap hb1
      omega
  have hsz1 := H.out.2.size
  have hfin : ∀ W, W.heap[b]? = some (.cells #[.slice A st.size cap, .slice none 0 0, .int .i64 (stepL left), .bool false] 51 (0, 0)) → Fr [b] w2 W → RK W b (.slice A st.size cap) r2 (.slice none 0 0) [] (nowB st wl) [] (stepL left) false ∧ Fr [b] w W ∧ (∀ k, k ∈ r2 → k ∈ rs ∨ w.heap.size ≤ k) := by
    intro W hW hf
    refine ⟨⟨hW, ?_, SRow.nil _ _ _, by rw [hN]; exact H.out.1.big, by simp, by simp, H.out.1.left0, H.out.1.left1, hnb, by simp, by simp⟩, (H.out.2.then hf2).trans hf (fun k hk => .inl hk), fun k hk => ?_⟩
    · rw [hN]
      exact h2.keep hf (fun k hk => by simp; rintro rfl; exact hnb hk)
    · rcases hn2 k hk with h | h
      · exact .inl h
      · exact .inr (by omega)
  have HF := Lib.hid hfin
  have HB := Lib.hid hb2
  clear hfin hb1 hb2 hnb hn2 h2 hf2 H
  go_wp2_with fail
  go_ret
  refine ⟨rfl, _, _, HF.out _ ?_ ?_⟩
  · simp [World.setCell, Array.getElem?_modify, HB.out]
  · exact ((Fr.refl _ _).setCell (.inl (by simp)) _).setCell (.inl (by simp)) _
end Go.Proofs.Ytndenbcdhbnamaa
