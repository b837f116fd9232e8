/- The law for regions that make memory: whatever order is drawn, the walk in the text's order says what comes out. -/
import Derived.Test.YtembnjpflllpbaaMild
namespace Go.Proofs.Ytembnjpflllpbaa
open Go.RowKit
set_option linter.unusedVariables false
set_option linter.unusedSimpArgs false

section
variable {P : Program} {ops : Array Oper} {w0 : World} {n : Nat} {A : Nat → Act} {E : Nat → List Free} {V : Nat → Value} {Φ : Nat → Option (Value → World → Prop)}

/-- Where a run of the head stands: some are listed. -/
structure Run (ops : Array Oper) (w0 : World) (n : Nat) (a0 : Act) (V : Nat → Value) (Φ : Nat → Option (Value → World → Prop)) (u : Nat → Value) (L : Array Bool) (a : Act) (W : World) : Prop where
  inv : HeadInv .any ops n L
  fr : Fr [] w0 W
  size : a.tmps.size = a0.tmps.size
  defers : a.defers = a0.defers
  on : ∀ k o d, k < n → ops[k]? = some o → L.getD k false = true → o.dst = some d → a.tmps[d]? = if d < a0.tmps.size then some (u k) else none
  off : ∀ d, (∀ k o, k < n → ops[k]? = some o → L.getD k false = true → o.dst ≠ some d) → a.tmps[d]? = a0.tmps[d]?
  val : ∀ k, k < n → L.getD k false = true → match Φ k with | none => u k = V k | some φ => φ (u k) W

theorem set_listed {L : Array Bool} {i k : Nat} (h : (L.setIfInBounds i true).getD k false = true) (hk : k ≠ i) : L.getD k false = true := by
  rw [getD_set_ne false (Ne.symm hk)] at h
  exact h

/-- The operation that comes up. -/
theorem run_ob (ok : MildOk ops n) (c : Chain P ops w0 0 n A E V Φ) (hE : E 0 = []) {u : Nat → Value} {L : Array Bool} {a : Act} {W : World} (r : Run ops w0 n (A 0) V Φ u L a W) {i : Nat} {o : Oper} (hin : i < n) (ho : ops[i]? = some o)
    (hall : ∀ e ∈ o.after, Region.binds .any e = true → L.getD e.on false = true) :
    mildAt P ops o a W fun v W' => Fr [] W W' ∧ match Φ i with | none => v = V i | some φ => φ v W' := by
  obtain ⟨f1, f2, f3, f4⟩ := chain_frame ok c i (by omega)
  obtain ⟨e1, e2⟩ := chain_env ok c hE i (by omega)
  have hdep : ∀ j, waits o j = true → j < i ∧ L.getD j false = true := fun j hj => by
    obtain ⟨e, he, hb, hon⟩ := waits_spec.1 hj
    subst hon
    exact ⟨ok.low i o hin ho e he hb, hall e he hb⟩
  have hmem : ∀ e, e ∈ ((E i).filter fun e => rds ops o e) → e.idx < i ∧ L.getD e.idx false = true ∧ Φ e.idx = some e.fact ∧ ∃ p, ops[e.idx]? = some p ∧ e.dst = p.dst := fun e he => by
    obtain ⟨h1, h2⟩ := List.mem_filter.1 he
    obtain ⟨h3, h4, h5⟩ := e1 e h1
    simp only [rds, Bool.and_eq_true] at h2
    exact ⟨h3, (hdep e.idx h2.1).2, h4, h5⟩
  have hR := subAll_puts u _ _ (fun e he => by
    obtain ⟨h1, h2, h3, h4⟩ := hmem e he
    have := r.val e.idx (by omega) h2
    rw [h3] at this
    exact this) (c.ob i o (Nat.zero_le _) hin ho W r.fr)
  refine mildAt_congr (fun cs b => ok.sel i o cs b ho) (fun d hd => ?_) hR
  by_cases hex : ∃ j p, j < n ∧ j ≠ i ∧ ops[j]? = some p ∧ p.dst = some d
  · obtain ⟨j, p, hj, hji, hp, hpd⟩ := hex
    have hw := ok.dep i j o p d hin hj hji ho hp hpd hd
    obtain ⟨hlt, hl⟩ := hdep j hw
    rw [r.on j p d hj hp hl hpd]
    by_cases hs : d < (A 0).tmps.size
    · rw [if_pos hs]
      cases hφ : Φ j with
      | none =>
        have hv := r.val j hj hl
        rw [hφ] at hv
        simp only at hv
        rw [puts_off u d _ _ (fun e he hed => by
          obtain ⟨h1, h2, h3, q, hq, hqd⟩ := hmem e he
          by_cases hej : e.idx = j
          · rw [hej, hφ] at h3
            cases h3
          · exact ok.one j e.idx p q d hj (by omega) hej hp hq (by rw [← hqd]; exact hed) hpd), f3 j p d hlt hp hpd, if_pos hs, hv]
      | some φ =>
        exact puts_on u d (u j) _ _ (by rw [f1]; exact hs) (fun e he hed => by
          obtain ⟨h1, h2, h3, q, hq, hqd⟩ := hmem e he
          by_cases hej : e.idx = j
          · rw [hej]
          · exact absurd hpd (ok.one j e.idx p q d hj (by omega) hej hp hq (by rw [← hqd]; exact hed))) ⟨⟨j, p.dst, φ⟩, List.mem_filter.2 ⟨e2 j φ p hlt hφ hp, by simp only [rds, hw, hpd, Bool.true_and]; simpa using hd⟩, hpd⟩
    · rw [if_neg hs]
      refine Array.getElem?_eq_none ?_
      rw [(puts_size u _ _).1, f1]
      exact Nat.le_of_not_lt hs
  · have hne : ∀ k q, k < n → ops[k]? = some q → q.dst ≠ some d := fun k q hk hq hqd => by
      by_cases hki : k = i
      · subst hki
        obtain rfl : q = o := Option.some.inj (hq.symm.trans ho)
        exact ok.own k q d hk hq hqd hd
      · exact hex ⟨k, q, hk, hki, hq, hqd⟩
    rw [r.off d (fun k q hk hq _ => hne k q hk hq), puts_off u d _ _ (fun e he hed => by
      obtain ⟨h1, h2, h3, q, hq, hqd⟩ := hmem e he
      exact hne e.idx q (by omega) hq (by rw [← hqd]; exact hed)), f4 d (fun k q hk hq => hne k q (by omega) hq)]

/-- One step more. -/
theorem run_step (ok : MildOk ops n) (hst : ∀ k φ, Φ k = some φ → ∀ v W W', φ v W → Fr [] W W' → φ v W') {a0 : Act} {u : Nat → Value} {L : Array Bool} {a : Act} {W W' : World} (r : Run ops w0 n a0 V Φ u L a W) {i : Nat} {o : Oper} (hin : i < n) (hi : i ∈ Region.ready .any ops L) (ho : ops[i]? = some o) {v : Value}
    (hf : Fr [] W W') (hv : match Φ i with | none => v = V i | some φ => φ v W') : Run ops w0 n a0 V Φ (fun k => if k = i then v else u k) (L.setIfInBounds i true) (a.put o.dst v) W' := by
  refine ⟨r.inv.set hi hin, r.fr.then hf, put_size.1.trans r.size, put_size.2.trans r.defers, fun k p d hk hp hl hd => ?_, fun d hd => ?_, fun k hk hl => ?_⟩
  · rw [put_get]
    by_cases hki : k = i
    · subst hki
      obtain rfl : p = o := Option.some.inj (hp.symm.trans ho)
      simp only [if_pos hd, if_pos, r.size]
    · rw [if_neg (ok.one i k o p d hin hk hki ho hp hd)]
      simp only [if_neg hki]
      exact r.on k p d hk hp (set_listed hl hki) hd
  · have hlt : i < L.size := by rw [r.inv.size]; exact (Array.getElem?_eq_some_iff.1 ho).1
    rw [put_get, if_neg (hd i o hin ho (by simp [hlt]))]
    refine r.off d (fun k p hk hp hl => hd k p hk hp (getD_set_true hl))
  · by_cases hki : k = i
    · subst hki
      simp only [if_pos]
      exact hv
    · simp only [if_neg hki]
      have := r.val k hk (set_listed hl hki)
      cases hφ : Φ k with
      | none => rw [hφ] at this; exact this
      | some φ => rw [hφ] at this; exact hst k φ hφ _ _ _ this hf

/-- How many of the head are not listed. -/
def left (n : Nat) (L : Array Bool) : Nat := (List.range n).countP fun k => !L.getD k false
theorem countP_one (p q : Nat → Bool) (i : Nat) : ∀ (l : List Nat), l.Nodup → i ∈ l → p i = true → q i = false → (∀ k, k ≠ i → p k = q k) → l.countP p = l.countP q + 1
  | [], _, h, _, _, _ => by cases h
  | x :: l, hn, hm, hp, hq, he => by
    rw [List.nodup_cons] at hn
    by_cases hx : x = i
    · subst hx
      rw [List.countP_cons_of_pos hp, List.countP_cons_of_neg (by simp [hq])]
      congr 1
      exact List.countP_congr fun k hk => by rw [he k (fun e => hn.1 (e ▸ hk))]
    · have ih := countP_one p q i l hn.2 ((List.mem_cons.1 hm).resolve_left (fun e => hx e.symm)) hp hq he
      rw [List.countP_cons, List.countP_cons, ih, he x hx]
      omega
theorem left_set {L : Array Bool} {i : Nat} (hin : i < n) (hu : L.getD i true = false) : left n L = left n (L.setIfInBounds i true) + 1 := by
  have hlt : i < L.size := by
    rcases Nat.lt_or_ge i L.size with h | h
    · exact h
    · simp [Array.getElem?_eq_none h] at hu
  refine countP_one _ _ i _ List.nodup_range (List.mem_range.2 hin) ?_ ?_ fun k hk => ?_
  · rw [getD_both hu]; rfl
  · simp [hlt]
  · rw [getD_set_ne false (Ne.symm hk)]

theorem mild_any (ok : MildOk ops n) (hn : n ≤ ops.size) (hT : n = ops.size ∨ n < ops.size ∧ Region.sinkB .any ops n = true ∧ Region.chainB .any ops n = true) (c : Chain P ops w0 0 n A E V Φ) (hE : E 0 = []) {Q' : Exit → Act → World → Prop} {g : Nat}
    (hend : ∀ u L a W, Run ops w0 n (A 0) V Φ u L a W → (∀ k, k < n → L.getD k false = true) → wpAny P .any ops Q' g L a W) :
    ∀ (m : Nat) (u : Nat → Value) (L : Array Bool) (a : Act) (W : World), left n L = m → Run ops w0 n (A 0) V Φ u L a W → wpAny P .any ops Q' (m + g) L a W := by
  intro m
  induction m with
  | zero =>
    intro u L a W hm r
    rw [Nat.zero_add]
    refine hend u L a W r fun k hk => ?_
    have h0 := (List.countP_eq_zero.1 hm) k (List.mem_range.2 hk)
    simpa using h0
  | succ m ih =>
    intro u L a W hm r
    rw [show m + 1 + g = (m + g) + 1 by omega]
    -- the least one that is not listed
    have hex : ∃ k, k < n ∧ L.getD k false = false := by
      have : 0 < left n L := by omega
      obtain ⟨k, hk, hp⟩ := List.countP_pos_iff.1 this
      exact ⟨k, List.mem_range.1 hk, by simpa using hp⟩
    obtain ⟨k0, hk0, hl0, hmin⟩ : ∃ k, k < n ∧ L.getD k false = false ∧ ∀ j, j < k → L.getD j false = true := by
      obtain ⟨k, hk, hl⟩ := hex
      induction k using Nat.strongRecOn with
      | _ k ihk =>
        by_cases h : ∃ j, j < k ∧ L.getD j false = false
        · obtain ⟨j, hj, hlj⟩ := h
          exact ihk j hj (by omega) hlj
        · exact ⟨k, hk, hl, fun j hj => by
            cases hb : L.getD j false with
            | true => rfl
            | false => exact absurd ⟨j, hj, hb⟩ h⟩
    obtain ⟨o0, ho0⟩ := ok.get k0 hk0
    have hk0s : k0 < L.size := by rw [r.inv.size]; exact (Array.getElem?_eq_some_iff.1 ho0).1
    have hr0 : k0 ∈ Region.ready .any ops L := mem_ready.2 ⟨getD_in hk0s hl0, o0, ho0, fun e he hb => hmin e.on (ok.low k0 o0 hk0 ho0 e he hb)⟩
    refine ⟨fun h => (by rw [h] at hr0; cases hr0), fun i hi => ?_⟩
    obtain ⟨hun, o, ho, hall⟩ := mem_ready.1 hi
    have hin : i < n := by
      rcases hT with hT | ⟨h1, h2, h3⟩
      · rw [hT]; exact (Array.getElem?_eq_some_iff.1 ho).1
      · rcases Nat.lt_or_ge i n with h | h
        · exact h
        · exact absurd hi (tail_waits h2 h3 h1 r.inv _ k0 rfl hk0 (getD_in hk0s hl0) i h)
    have hob := run_ob ok c hE r hin ho hall
    have hleft := left_set (n := n) hin hun
    unfold wpOp
    simp only [ho]
    unfold mildAt at hob
    split
    · rename_i hw
      simp only [hw, if_true] at hob
      exact .inl (mild_wp (fun v W' hv => ih _ _ _ _ (by omega) (run_step ok c.stable r hin hi ho hv.1 hv.2)) hob)
    · rename_i hw
      simp only [hw] at hob
      exact ih _ _ _ _ (by omega) (run_step ok c.stable r hin hi ho hob.1 hob.2)

theorem act_ext {a b : Act} (h : a.tmps = b.tmps) (hd : a.defers = b.defers) : a = b := by
  cases a
  cases b
  simp only at h hd
  subst h hd
  rfl
/-- The end's frame is the walk's. -/
theorem run_end (ok : MildOk ops n) (c : Chain P ops w0 0 n A E V Φ) (hE : E 0 = []) {u : Nat → Value} {L : Array Bool} {a : Act} {W : World} (r : Run ops w0 n (A 0) V Φ u L a W) (hall : ∀ k, k < n → L.getD k false = true) : puts u (E n) (A n) = a ∧ ∀ e ∈ E n, e.fact (u e.idx) W := by
  obtain ⟨f1, f2, f3, f4⟩ := chain_frame ok c n (Nat.le_refl _)
  obtain ⟨e1, e2⟩ := chain_env ok c hE n (Nat.le_refl _)
  refine ⟨act_ext (Array.ext_getElem? fun d => ?_) ((puts_size u _ _).2.trans (f2.trans r.defers.symm)), fun e he => ?_⟩
  · by_cases hex : ∃ j p, j < n ∧ ops[j]? = some p ∧ p.dst = some d
    · obtain ⟨j, p, hj, hp, hpd⟩ := hex
      rw [r.on j p d hj hp (hall j hj) hpd]
      by_cases hs : d < (A 0).tmps.size
      · rw [if_pos hs]
        cases hφ : Φ j with
        | none =>
          have hv := r.val j hj (hall j hj)
          rw [hφ] at hv
          simp only at hv
          rw [puts_off u d _ _ (fun e he hed => by
            obtain ⟨h1, h3, q, hq, hqd⟩ := e1 e he
            by_cases hej : e.idx = j
            · rw [hej, hφ] at h3
              cases h3
            · exact ok.one j e.idx p q d hj h1 hej hp hq (by rw [← hqd]; exact hed) hpd), f3 j p d hj hp hpd, if_pos hs, hv]
        | some φ =>
          exact puts_on u d (u j) _ _ (by rw [f1]; exact hs) (fun e he hed => by
            obtain ⟨h1, h3, q, hq, hqd⟩ := e1 e he
            by_cases hej : e.idx = j
            · rw [hej]
            · exact absurd hpd (ok.one j e.idx p q d hj h1 hej hp hq (by rw [← hqd]; exact hed))) ⟨⟨j, p.dst, φ⟩, e2 j φ p hj hφ hp, hpd⟩
      · rw [if_neg hs]
        refine Array.getElem?_eq_none ?_
        rw [(puts_size u _ _).1, f1]
        exact Nat.le_of_not_lt hs
    · have hne : ∀ k q, k < n → ops[k]? = some q → q.dst ≠ some d := fun k q hk hq hqd => hex ⟨k, q, hk, hq, hqd⟩
      rw [r.off d (fun k q hk hq _ => hne k q hk hq), puts_off u d _ _ (fun e he hed => by
        obtain ⟨h1, h3, q, hq, hqd⟩ := e1 e he
        exact hne e.idx q h1 hq (by rw [← hqd]; exact hed)), f4 d (fun k q hk hq => hne k q hk hq)]
  · obtain ⟨h1, h3, _⟩ := e1 e he
    have := r.val e.idx h1 (hall e.idx h1)
    rw [h3] at this
    exact this
end

/-- All of the head is listed, and nothing else. -/
def headL (s n : Nat) : Array Bool := (Array.replicate n true) ++ (Array.replicate (s - n) false)
theorem headL_of {L : Array Bool} {s n : Nat} (hs : L.size = s) (hn : n ≤ s) (h1 : ∀ k, k < n → L.getD k false = true) (h2 : ∀ t, n ≤ t → t < s → L.getD t true = false) : L = headL s n := by
  apply Array.ext
  · simp [headL, hs]; omega
  · intro i hi hi'
    rw [hs] at hi
    by_cases h : i < n
    · have := h1 i h
      simp [hs, hi] at this
      simp [headL, Array.getElem_append, h, this]
    · have := h2 i (by omega) hi
      simp [hs, hi] at this
      simp [headL, Array.getElem_append, h, this]
/-- What may be asked of the text: the head's edges, and a tail that comes in one order. -/
def mildTailB (ops : Array Oper) (n : Nat) : Bool :=
  mildB ops n && decide (n ≤ ops.size) && (decide (n = ops.size) || (Region.sinkB .any ops n && Region.chainB .any ops n)) && Region.seqB .any ops (ops.size - n) n (headL ops.size n)

theorem wp_region_mild {P : Program} {id : Nat} {Q : Exit → Act → World → Prop} {a : Act} {w : World} {l : List Oper} (n : Nat) (hm : P.follows .mixedOrders = true) (hB : mildTailB l.toArray n = true)
    (h : mildL P l.toArray { w with drawn := w.drawn + 1 } (fun a' env => ∀ W, Fr [] { w with drawn := w.drawn + 1 } W → subAll W (fun a'' => wpList P l.toArray Q (l.drop n) a'' W) env a') 0 (l.take n) a []) : (Code.region id l.toArray true).wp P Q a w := by
  simp only [mildTailB, Bool.and_eq_true, Bool.or_eq_true, decide_eq_true_eq] at hB
  obtain ⟨⟨⟨hb, hn⟩, hT⟩, hseq⟩ := hB
  have hn' : n ≤ l.length := by simpa using hn
  have hT' : n = l.toArray.size ∨ n < l.toArray.size ∧ Region.sinkB .any l.toArray n = true ∧ Region.chainB .any l.toArray n = true := by
    rcases hT with h1 | h1
    · exact .inl h1
    · rcases Nat.lt_or_ge n l.toArray.size with h2 | h2
      · exact .inr ⟨h2, h1⟩
      · exact .inl (by omega)
  have ok := MildOk.of hb
  obtain ⟨A, E, V, Φ, c, hA, hE, hQ⟩ := mildL_chain (l.take n) 0 a [] (fun j hj => by
    rw [List.length_take] at hj
    rw [List.getElem?_take, if_pos (by omega), Nat.zero_add]
    simp) h
  have hlen : 0 + (l.take n).length = n := by rw [List.length_take]; omega
  rw [hlen] at c hQ
  refine wp_region_any hm ?_
  have hleft : left n (Array.replicate l.toArray.size false) = n := by
    unfold left
    rw [List.countP_eq_length.2 (fun k _ => by rw [getD_replicate_false]; rfl), List.length_range]
  have hfuel : n + (l.toArray.size - n) = l.toArray.size := by omega
  have hrun : Run l.toArray { w with drawn := w.drawn + 1 } n (A 0) V Φ (fun _ => undef) (Array.replicate l.toArray.size false) a { w with drawn := w.drawn + 1 } := by
    refine ⟨⟨by simp, fun j oj _ hl => (by rw [getD_replicate_false] at hl; cases hl), fun t _ ht => getD_in (by simpa using ht) (getD_replicate_false _ _)⟩, Fr.refl _ _, by rw [hA], by rw [hA], fun k o d _ _ hl => (by rw [getD_replicate_false] at hl; cases hl), fun d _ => by rw [hA], fun k _ hl => (by rw [getD_replicate_false] at hl; cases hl)⟩
  have H := mild_any ok hn hT' c hE (Q' := Q) (g := l.toArray.size - n) (fun u L a' W r hall => by
    obtain ⟨h1, h2⟩ := run_end ok c hE r hall
    have h3 := subAll_puts u _ _ h2 (hQ W r.fr)
    rw [h1] at h3
    have hL := headL_of r.inv.size hn hall r.inv.tail
    rw [hL]
    have hdl : (l.drop n).length = l.toArray.size - n := by simp
    have := wpAny_of_seq (md := .any) (Q' := Q) (l.drop n) n (headL l.toArray.size n) a' W (fun j => by simp [List.getElem?_drop]) (by rw [hdl]; exact hseq) h3
    rw [hdl] at this
    exact this) n (fun _ => undef) _ a _ hleft hrun
  rw [hfuel] at H
  exact H

end Go.Proofs.Ytembnjpflllpbaa
