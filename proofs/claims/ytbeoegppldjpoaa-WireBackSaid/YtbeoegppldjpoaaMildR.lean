/- The law wp_region_mild for any reflexive, transitive relation R between worlds: a region may also write into blocks that it has made. (Printed by genmildr.py out of Mild and Mild2.) -/
import Derived.Test.YtbeoegppldjpoaaMild3
namespace Go.Proofs.Ytbeoegppldjpoaa
open Go.RowKit
set_option linter.unusedVariables false
set_option linter.unusedSimpArgs false

section
variable {R : World → World → Prop} {P : Program} {ops : Array Oper} {w0 : World} {n : Nat} {A : Nat → Act} {E : Nat → List Free} {V : Nat → Value} {Φ : Nat → Option (Value → World → Prop)}
def mildLR (R : World → World → Prop) (P : Program) (ops : Array Oper) (w0 : World) (Q : Act → List Free → Prop) : Nat → List Oper → Act → List Free → Prop
  | _, [], a, env => Q a env
  | k, o :: rest, a, env =>
    (∃ v, (∀ W, R w0 W → subAll W (fun a' => mildAt P ops o a' W fun u W' => R W W' ∧ u = v) (env.filter fun e => rds ops o e) a) ∧ mildLR R P ops w0 Q (k + 1) rest (a.put o.dst v) env) ∨
    (∃ φ : Value → World → Prop, (∀ v W W', φ v W → R W W' → φ v W') ∧ (∀ W, R w0 W → subAll W (fun a' => mildAt P ops o a' W fun u W' => R W W' ∧ φ u W') (env.filter fun e => rds ops o e) a) ∧
      mildLR R P ops w0 Q (k + 1) rest (a.put o.dst undef) (⟨k, o.dst, φ⟩ :: env))
structure ChainR (R : World → World → Prop) (P : Program) (ops : Array Oper) (w0 : World) (lo hi : Nat) (A : Nat → Act) (E : Nat → List Free) (V : Nat → Value) (Φ : Nat → Option (Value → World → Prop)) : Prop where
  step : ∀ k o, lo ≤ k → k < hi → ops[k]? = some o → A (k + 1) = (A k).put o.dst (V k)
  env : ∀ k o, lo ≤ k → k < hi → ops[k]? = some o → E (k + 1) = match Φ k with | none => E k | some φ => ⟨k, o.dst, φ⟩ :: E k
  stable : ∀ k φ, Φ k = some φ → ∀ v W W', φ v W → R W W' → φ v W'
  ob : ∀ k o, lo ≤ k → k < hi → ops[k]? = some o → ∀ W, R w0 W → subAll W (fun a' => mildAt P ops o a' W fun u W' => R W W' ∧ match Φ k with | none => u = V k | some φ => φ u W') ((E k).filter fun e => rds ops o e) (A k)
theorem mildL_chainR {Q : Act → List Free → Prop} : ∀ (l : List Oper) (k : Nat) (a : Act) (env : List Free), (∀ j, j < l.length → l[j]? = ops[k + j]?) → mildLR R P ops w0 Q k l a env →
    ∃ A E V Φ, ChainR R P ops w0 k (k + l.length) A E V Φ ∧ A k = a ∧ E k = env ∧ Q (A (k + l.length)) (E (k + l.length))
  | [], k, a, env, _, h => ⟨fun _ => a, fun _ => env, fun _ => undef, fun _ => none, ⟨fun j o h1 h2 => (by simp at h2; omega), fun j o h1 h2 => (by simp at h2; omega), fun j φ h => (by cases h), fun j o h1 h2 => (by simp at h2; omega)⟩, rfl, rfl, h⟩
  | o :: rest, k, a, env, hl, h => by
    have ho : ops[k]? = some o := by simpa using (hl 0 (by simp)).symm
    have hl' : ∀ j, j < rest.length → rest[j]? = ops[k + 1 + j]? := fun j hj => by
      have := hl (j + 1) (by simp; omega)
      simpa [Nat.add_assoc, Nat.add_comm 1 j] using this
    have glue : ∀ (v : Value) (φo : Option (Value → World → Prop)) (env' : List Free), (∀ φ, φo = some φ → ∀ v W W', φ v W → R W W' → φ v W') → (env' = match φo with | none => env | some φ => ⟨k, o.dst, φ⟩ :: env) →
        (∀ W, R w0 W → subAll W (fun a' => mildAt P ops o a' W fun u W' => R W W' ∧ match φo with | none => u = v | some φ => φ u W') (env.filter fun e => rds ops o e) a) →
        mildLR R P ops w0 Q (k + 1) rest (a.put o.dst v) env' → ∃ A E V Φ, ChainR R P ops w0 k (k + (o :: rest).length) A E V Φ ∧ A k = a ∧ E k = env ∧ Q (A (k + (o :: rest).length)) (E (k + (o :: rest).length)) := by
      intro v φo env' hst henv hob hr
      obtain ⟨A, E, V, Φ, hc, hA, hE, hQ⟩ := mildL_chainR rest (k + 1) _ _ hl' hr
      have hlen : k + (o :: rest).length = k + 1 + rest.length := by simp; omega
      refine ⟨fun j => if j = k then a else A j, fun j => if j = k then env else E j, fun j => if j = k then v else V j, fun j => if j = k then φo else Φ j, ⟨?_, ?_, ?_, ?_⟩, if_pos rfl, if_pos rfl, ?_⟩
      · intro j p h1 h2 hp
        by_cases hj : j = k
        · subst hj
          obtain rfl : p = o := Option.some.inj (hp.symm.trans ho)
          simp only [if_pos, if_neg (show ¬ j + 1 = j by omega)]
          exact hA
        · simp only [if_neg hj, if_neg (show ¬ j + 1 = k by omega)]
          exact hc.step j p (by omega) (by omega) hp
      · intro j p h1 h2 hp
        by_cases hj : j = k
        · subst hj
          obtain rfl : p = o := Option.some.inj (hp.symm.trans ho)
          simp only [if_pos, if_neg (show ¬ j + 1 = j by omega)]
          rw [hE, henv]
        · simp only [if_neg hj, if_neg (show ¬ j + 1 = k by omega)]
          exact hc.env j p (by omega) (by omega) hp
      · intro j φ hφ
        by_cases hj : j = k
        · simp only [if_pos hj] at hφ
          exact hst φ hφ
        · simp only [if_neg hj] at hφ
          exact hc.stable j φ hφ
      · intro j p h1 h2 hp
        by_cases hj : j = k
        · subst hj
          obtain rfl : p = o := Option.some.inj (hp.symm.trans ho)
          simp only [if_pos]
          exact hob
        · simp only [if_neg hj]
          exact hc.ob j p (by omega) (by omega) hp
      · rw [hlen]
        simp only [if_neg (show ¬ k + 1 + rest.length = k by omega)]
        exact hQ
    simp only [mildLR] at h
    rcases h with ⟨v, hob, hr⟩ | ⟨φ, hst, hob, hr⟩
    · exact glue v none env (fun φ h => by cases h) rfl hob hr
    · exact glue undef (some φ) _ (fun ψ h => by cases h; exact hst) rfl hob hr
theorem chain_frameR (ok : MildOk ops n) (c : ChainR R P ops w0 0 n A E V Φ) : ∀ k, k ≤ n → (A k).tmps.size = (A 0).tmps.size ∧ (A k).defers = (A 0).defers ∧
    (∀ j o d, j < k → ops[j]? = some o → o.dst = some d → (A k).tmps[d]? = if d < (A 0).tmps.size then some (V j) else none) ∧
    (∀ d, (∀ j o, j < k → ops[j]? = some o → o.dst ≠ some d) → (A k).tmps[d]? = (A 0).tmps[d]?) := by
  intro k
  induction k with
  | zero => exact fun _ => ⟨rfl, rfl, fun j o d h => by omega, fun _ _ => rfl⟩
  | succ k ih =>
    intro hk
    obtain ⟨h1, h2, h3, h4⟩ := ih (by omega)
    obtain ⟨o, ho⟩ := ok.get k (by omega)
    have hs := c.step k o (Nat.zero_le _) (by omega) ho
    rw [hs]
    refine ⟨put_size.1.trans h1, put_size.2.trans h2, fun j p d hj hp hd => ?_, fun d hd => ?_⟩
    · rw [put_get]
      by_cases hjk : j = k
      · subst hjk
        obtain rfl : p = o := Option.some.inj (hp.symm.trans ho)
        rw [if_pos hd, h1]
      · rw [if_neg (ok.one k j o p d (by omega) (by omega) hjk ho hp hd)]
        exact h3 j p d (by omega) hp hd
    · rw [put_get, if_neg (hd k o (by omega) ho)]
      exact h4 d fun j p hj => hd j p (by omega)
theorem chain_envR (ok : MildOk ops n) (c : ChainR R P ops w0 0 n A E V Φ) (hE : E 0 = []) : ∀ k, k ≤ n →
    (∀ e ∈ E k, e.idx < k ∧ Φ e.idx = some e.fact ∧ ∃ o, ops[e.idx]? = some o ∧ e.dst = o.dst) ∧ (∀ j φ o, j < k → Φ j = some φ → ops[j]? = some o → ⟨j, o.dst, φ⟩ ∈ E k) := by
  intro k
  induction k with
  | zero => exact fun _ => ⟨fun e he => (by rw [hE] at he; cases he), fun j φ o h => (by omega)⟩
  | succ k ih =>
    intro hk
    obtain ⟨h1, h2⟩ := ih (by omega)
    obtain ⟨o, ho⟩ := ok.get k (by omega)
    have hs := c.env k o (Nat.zero_le _) (by omega) ho
    cases hφ : Φ k with
    | none =>
      rw [hφ] at hs
      simp only at hs
      rw [hs]
      refine ⟨fun e he => ⟨by have := (h1 e he).1; omega, (h1 e he).2⟩, fun j φ p hj hp hpo => ?_⟩
      by_cases hjk : j = k
      · subst hjk
        rw [hφ] at hp
        cases hp
      · exact h2 j φ p (by omega) hp hpo
    | some φ =>
      rw [hφ] at hs
      simp only at hs
      rw [hs]
      refine ⟨fun e he => ?_, fun j ψ p hj hp hpo => ?_⟩
      · rcases List.mem_cons.1 he with rfl | he
        · exact ⟨by show k < k + 1; omega, hφ, o, ho, rfl⟩
        · exact ⟨by have := (h1 e he).1; omega, (h1 e he).2⟩
      · by_cases hjk : j = k
        · subst hjk
          rw [hφ] at hp
          cases hp
          obtain rfl : p = o := Option.some.inj (hpo.symm.trans ho)
          simp
        · exact List.mem_cons_of_mem _ (h2 j ψ p (by omega) hp hpo)
structure RunR (R : World → World → Prop) (ops : Array Oper) (w0 : World) (n : Nat) (a0 : Act) (V : Nat → Value) (Φ : Nat → Option (Value → World → Prop)) (u : Nat → Value) (L : Array Bool) (a : Act) (W : World) : Prop where
  inv : HeadInv .any ops n L
  fr : R w0 W
  size : a.tmps.size = a0.tmps.size
  defers : a.defers = a0.defers
  on : ∀ k o d, k < n → ops[k]? = some o → L.getD k false = true → o.dst = some d → a.tmps[d]? = if d < a0.tmps.size then some (u k) else none
  off : ∀ d, (∀ k o, k < n → ops[k]? = some o → L.getD k false = true → o.dst ≠ some d) → a.tmps[d]? = a0.tmps[d]?
  val : ∀ k, k < n → L.getD k false = true → match Φ k with | none => u k = V k | some φ => φ (u k) W
theorem run_obR (ok : MildOk ops n) (c : ChainR R P ops w0 0 n A E V Φ) (hE : E 0 = []) {u : Nat → Value} {L : Array Bool} {a : Act} {W : World} (r : RunR R ops w0 n (A 0) V Φ u L a W) {i : Nat} {o : Oper} (hin : i < n) (ho : ops[i]? = some o)
    (hall : ∀ e ∈ o.after, Region.binds .any e = true → L.getD e.on false = true) :
    mildAt P ops o a W fun v W' => R W W' ∧ match Φ i with | none => v = V i | some φ => φ v W' := by
  obtain ⟨f1, f2, f3, f4⟩ := chain_frameR ok c i (by omega)
  obtain ⟨e1, e2⟩ := chain_envR ok c hE i (by omega)
  have hdep : ∀ j, waits o j = true → j < i ∧ L.getD j false = true := fun j hj => by
    obtain ⟨e, he, hb, hon⟩ := waits_spec.1 hj
    subst hon
    exact ⟨ok.low i o hin ho e he hb, hall e he hb⟩
  have hmem : ∀ e, e ∈ ((E i).filter fun e => rds ops o e) → e.idx < i ∧ L.getD e.idx false = true ∧ Φ e.idx = some e.fact ∧ ∃ p, ops[e.idx]? = some p ∧ e.dst = p.dst := fun e he => by
    obtain ⟨h1, h2⟩ := List.mem_filter.1 he
    obtain ⟨h3, h4, h5⟩ := e1 e h1
    simp only [rds, Bool.and_eq_true] at h2
    exact ⟨h3, (hdep e.idx h2.1).2, h4, h5⟩
  have hR := subAll_puts u _ _ (fun e he => by
    obtain ⟨h1, h2, h3, h4⟩ := hmem e he
    have := r.val e.idx (by omega) h2
    rw [h3] at this
    exact this) (c.ob i o (Nat.zero_le _) hin ho W r.fr)
  refine mildAt_congr (fun cs b => ok.sel i o cs b ho) (fun d hd => ?_) hR
  by_cases hex : ∃ j p, j < n ∧ j ≠ i ∧ ops[j]? = some p ∧ p.dst = some d
  · obtain ⟨j, p, hj, hji, hp, hpd⟩ := hex
    have hw := ok.dep i j o p d hin hj hji ho hp hpd hd
    obtain ⟨hlt, hl⟩ := hdep j hw
    rw [r.on j p d hj hp hl hpd]
    by_cases hs : d < (A 0).tmps.size
    · rw [if_pos hs]
      cases hφ : Φ j with
      | none =>
        have hv := r.val j hj hl
        rw [hφ] at hv
        simp only at hv
        rw [puts_off u d _ _ (fun e he hed => by
          obtain ⟨h1, h2, h3, q, hq, hqd⟩ := hmem e he
          by_cases hej : e.idx = j
          · rw [hej, hφ] at h3
            cases h3
          · exact ok.one j e.idx p q d hj (by omega) hej hp hq (by rw [← hqd]; exact hed) hpd), f3 j p d hlt hp hpd, if_pos hs, hv]
      | some φ =>
        exact puts_on u d (u j) _ _ (by rw [f1]; exact hs) (fun e he hed => by
          obtain ⟨h1, h2, h3, q, hq, hqd⟩ := hmem e he
          by_cases hej : e.idx = j
          · rw [hej]
          · exact absurd hpd (ok.one j e.idx p q d hj (by omega) hej hp hq (by rw [← hqd]; exact hed))) ⟨⟨j, p.dst, φ⟩, List.mem_filter.2 ⟨e2 j φ p hlt hφ hp, by simp only [rds, hw, hpd, Bool.true_and]; simpa using hd⟩, hpd⟩
    · rw [if_neg hs]
      refine Array.getElem?_eq_none ?_
      rw [(puts_size u _ _).1, f1]
      exact Nat.le_of_not_lt hs
  · have hne : ∀ k q, k < n → ops[k]? = some q → q.dst ≠ some d := fun k q hk hq hqd => by
      by_cases hki : k = i
      · subst hki
        obtain rfl : q = o := Option.some.inj (hq.symm.trans ho)
        exact ok.own k q d hk hq hqd hd
      · exact hex ⟨k, q, hk, hki, hq, hqd⟩
    rw [r.off d (fun k q hk hq _ => hne k q hk hq), puts_off u d _ _ (fun e he hed => by
      obtain ⟨h1, h2, h3, q, hq, hqd⟩ := hmem e he
      exact hne e.idx q (by omega) hq (by rw [← hqd]; exact hed)), f4 d (fun k q hk hq => hne k q (by omega) hq)]
theorem run_stepR (htrans : ∀ a b c, R a b → R b c → R a c) (ok : MildOk ops n) (hst : ∀ k φ, Φ k = some φ → ∀ v W W', φ v W → R W W' → φ v W') {a0 : Act} {u : Nat → Value} {L : Array Bool} {a : Act} {W W' : World} (r : RunR R ops w0 n a0 V Φ u L a W) {i : Nat} {o : Oper} (hin : i < n) (hi : i ∈ Region.ready .any ops L) (ho : ops[i]? = some o) {v : Value}
    (hf : R W W') (hv : match Φ i with | none => v = V i | some φ => φ v W') : RunR R ops w0 n a0 V Φ (fun k => if k = i then v else u k) (L.setIfInBounds i true) (a.put o.dst v) W' := by
  refine ⟨r.inv.set hi hin, htrans _ _ _ r.fr hf, put_size.1.trans r.size, put_size.2.trans r.defers, fun k p d hk hp hl hd => ?_, fun d hd => ?_, fun k hk hl => ?_⟩
  · rw [put_get]
    by_cases hki : k = i
    · subst hki
      obtain rfl : p = o := Option.some.inj (hp.symm.trans ho)
      simp only [if_pos hd, if_pos, r.size]
    · rw [if_neg (ok.one i k o p d hin hk hki ho hp hd)]
      simp only [if_neg hki]
      exact r.on k p d hk hp (set_listed hl hki) hd
  · have hlt : i < L.size := by rw [r.inv.size]; exact (Array.getElem?_eq_some_iff.1 ho).1
    rw [put_get, if_neg (hd i o hin ho (by simp [hlt]))]
    refine r.off d (fun k p hk hp hl => hd k p hk hp (getD_set_true hl))
  · by_cases hki : k = i
    · subst hki
      simp only [if_pos]
      exact hv
    · simp only [if_neg hki]
      have := r.val k hk (set_listed hl hki)
      cases hφ : Φ k with
      | none => rw [hφ] at this; exact this
      | some φ => rw [hφ] at this; exact hst k φ hφ _ _ _ this hf
theorem mild_anyR (htrans : ∀ a b c, R a b → R b c → R a c) (ok : MildOk ops n) (hn : n ≤ ops.size) (hT : n = ops.size ∨ n < ops.size ∧ Region.sinkB .any ops n = true ∧ Region.chainB .any ops n = true) (c : ChainR R P ops w0 0 n A E V Φ) (hE : E 0 = []) {Q' : Exit → Act → World → Prop} {g : Nat}
    (hend : ∀ u L a W, RunR R ops w0 n (A 0) V Φ u L a W → (∀ k, k < n → L.getD k false = true) → wpAny P .any ops Q' g L a W) :
    ∀ (m : Nat) (u : Nat → Value) (L : Array Bool) (a : Act) (W : World), left n L = m → RunR R ops w0 n (A 0) V Φ u L a W → wpAny P .any ops Q' (m + g) L a W := by
  intro m
  induction m with
  | zero =>
    intro u L a W hm r
    rw [Nat.zero_add]
    refine hend u L a W r fun k hk => ?_
    have h0 := (List.countP_eq_zero.1 hm) k (List.mem_range.2 hk)
    simpa using h0
  | succ m ih =>
    intro u L a W hm r
    rw [show m + 1 + g = (m + g) + 1 by omega]
    -- the least one that is not listed
    have hex : ∃ k, k < n ∧ L.getD k false = false := by
      have : 0 < left n L := by omega
      obtain ⟨k, hk, hp⟩ := List.countP_pos_iff.1 this
      exact ⟨k, List.mem_range.1 hk, by simpa using hp⟩
    obtain ⟨k0, hk0, hl0, hmin⟩ : ∃ k, k < n ∧ L.getD k false = false ∧ ∀ j, j < k → L.getD j false = true := by
      obtain ⟨k, hk, hl⟩ := hex
      induction k using Nat.strongRecOn with
      | _ k ihk =>
        by_cases h : ∃ j, j < k ∧ L.getD j false = false
        · obtain ⟨j, hj, hlj⟩ := h
          exact ihk j hj (by omega) hlj
        · exact ⟨k, hk, hl, fun j hj => by
            cases hb : L.getD j false with
            | true => rfl
            | false => exact absurd ⟨j, hj, hb⟩ h⟩
    obtain ⟨o0, ho0⟩ := ok.get k0 hk0
    have hk0s : k0 < L.size := by rw [r.inv.size]; exact (Array.getElem?_eq_some_iff.1 ho0).1
    have hr0 : k0 ∈ Region.ready .any ops L := mem_ready.2 ⟨getD_in hk0s hl0, o0, ho0, fun e he hb => hmin e.on (ok.low k0 o0 hk0 ho0 e he hb)⟩
    refine ⟨fun h => (by rw [h] at hr0; cases hr0), fun i hi => ?_⟩
    obtain ⟨hun, o, ho, hall⟩ := mem_ready.1 hi
    have hin : i < n := by
      rcases hT with hT | ⟨h1, h2, h3⟩
      · rw [hT]; exact (Array.getElem?_eq_some_iff.1 ho).1
      · rcases Nat.lt_or_ge i n with h | h
        · exact h
        · exact absurd hi (tail_waits h2 h3 h1 r.inv _ k0 rfl hk0 (getD_in hk0s hl0) i h)
    have hob := run_obR ok c hE r hin ho hall
    have hleft := left_set (n := n) hin hun
    unfold wpOp
    simp only [ho]
    unfold mildAt at hob
    split
    · rename_i hw
      simp only [hw, if_true] at hob
      exact .inl (mild_wp (fun v W' hv => ih _ _ _ _ (by omega) (run_stepR htrans ok c.stable r hin hi ho hv.1 hv.2)) hob)
    · rename_i hw
      simp only [hw] at hob
      exact ih _ _ _ _ (by omega) (run_stepR htrans ok c.stable r hin hi ho hob.1 hob.2)
theorem run_endR (ok : MildOk ops n) (c : ChainR R P ops w0 0 n A E V Φ) (hE : E 0 = []) {u : Nat → Value} {L : Array Bool} {a : Act} {W : World} (r : RunR R ops w0 n (A 0) V Φ u L a W) (hall : ∀ k, k < n → L.getD k false = true) : puts u (E n) (A n) = a ∧ ∀ e ∈ E n, e.fact (u e.idx) W := by
  obtain ⟨f1, f2, f3, f4⟩ := chain_frameR ok c n (Nat.le_refl _)
  obtain ⟨e1, e2⟩ := chain_envR ok c hE n (Nat.le_refl _)
  refine ⟨act_ext (Array.ext_getElem? fun d => ?_) ((puts_size u _ _).2.trans (f2.trans r.defers.symm)), fun e he => ?_⟩
  · by_cases hex : ∃ j p, j < n ∧ ops[j]? = some p ∧ p.dst = some d
    · obtain ⟨j, p, hj, hp, hpd⟩ := hex
      rw [r.on j p d hj hp (hall j hj) hpd]
      by_cases hs : d < (A 0).tmps.size
      · rw [if_pos hs]
        cases hφ : Φ j with
        | none =>
          have hv := r.val j hj (hall j hj)
          rw [hφ] at hv
          simp only at hv
          rw [puts_off u d _ _ (fun e he hed => by
            obtain ⟨h1, h3, q, hq, hqd⟩ := e1 e he
            by_cases hej : e.idx = j
            · rw [hej, hφ] at h3
              cases h3
            · exact ok.one j e.idx p q d hj h1 hej hp hq (by rw [← hqd]; exact hed) hpd), f3 j p d hj hp hpd, if_pos hs, hv]
        | some φ =>
          exact puts_on u d (u j) _ _ (by rw [f1]; exact hs) (fun e he hed => by
            obtain ⟨h1, h3, q, hq, hqd⟩ := e1 e he
            by_cases hej : e.idx = j
            · rw [hej]
            · exact absurd hpd (ok.one j e.idx p q d hj h1 hej hp hq (by rw [← hqd]; exact hed))) ⟨⟨j, p.dst, φ⟩, e2 j φ p hj hφ hp, hpd⟩
      · rw [if_neg hs]
        refine Array.getElem?_eq_none ?_
        rw [(puts_size u _ _).1, f1]
        exact Nat.le_of_not_lt hs
    · have hne : ∀ k q, k < n → ops[k]? = some q → q.dst ≠ some d := fun k q hk hq hqd => hex ⟨k, q, hk, hq, hqd⟩
      rw [r.off d (fun k q hk hq _ => hne k q hk hq), puts_off u d _ _ (fun e he hed => by
        obtain ⟨h1, h3, q, hq, hqd⟩ := e1 e he
        exact hne e.idx q h1 hq (by rw [← hqd]; exact hed)), f4 d (fun k q hk hq => hne k q hk hq)]
  · obtain ⟨h1, h3, _⟩ := e1 e he
    have := r.val e.idx h1 (hall e.idx h1)
    rw [h3] at this
    exact this
end
theorem wp_region_mildR (R : World → World → Prop) (hrefl : ∀ w, R w w) (htrans : ∀ a b c, R a b → R b c → R a c) {P : Program} {id : Nat} {Q : Exit → Act → World → Prop} {a : Act} {w : World} {l : List Oper} (n : Nat) (hm : P.follows .mixedOrders = true) (hB : mildTailB l.toArray n = true)
    (h : mildLR R P l.toArray { w with drawn := w.drawn + 1 } (fun a' env => ∀ W, R { w with drawn := w.drawn + 1 } W → subAll W (fun a'' => wpList P l.toArray Q (l.drop n) a'' W) env a') 0 (l.take n) a []) : (Code.region id l.toArray true).wp P Q a w := by
  simp only [mildTailB, Bool.and_eq_true, Bool.or_eq_true, decide_eq_true_eq] at hB
  obtain ⟨⟨⟨hb, hn⟩, hT⟩, hseq⟩ := hB
  have hn' : n ≤ l.length := by simpa using hn
  have hT' : n = l.toArray.size ∨ n < l.toArray.size ∧ Region.sinkB .any l.toArray n = true ∧ Region.chainB .any l.toArray n = true := by
    rcases hT with h1 | h1
    · exact .inl h1
    · rcases Nat.lt_or_ge n l.toArray.size with h2 | h2
      · exact .inr ⟨h2, h1⟩
      · exact .inl (by omega)
  have ok := MildOk.of hb
  obtain ⟨A, E, V, Φ, c, hA, hE, hQ⟩ := mildL_chainR (l.take n) 0 a [] (fun j hj => by
    rw [List.length_take] at hj
    rw [List.getElem?_take, if_pos (by omega), Nat.zero_add]
    simp) h
  have hlen : 0 + (l.take n).length = n := by rw [List.length_take]; omega
  rw [hlen] at c hQ
  refine wp_region_any hm ?_
  have hleft : left n (Array.replicate l.toArray.size false) = n := by
    unfold left
    rw [List.countP_eq_length.2 (fun k _ => by rw [getD_replicate_false]; rfl), List.length_range]
  have hfuel : n + (l.toArray.size - n) = l.toArray.size := by omega
  have hrun : RunR R l.toArray { w with drawn := w.drawn + 1 } n (A 0) V Φ (fun _ => undef) (Array.replicate l.toArray.size false) a { w with drawn := w.drawn + 1 } := by
    refine ⟨⟨by simp, fun j oj _ hl => (by rw [getD_replicate_false] at hl; cases hl), fun t _ ht => getD_in (by simpa using ht) (getD_replicate_false _ _)⟩, hrefl _, by rw [hA], by rw [hA], fun k o d _ _ hl => (by rw [getD_replicate_false] at hl; cases hl), fun d _ => by rw [hA], fun k _ hl => (by rw [getD_replicate_false] at hl; cases hl)⟩
  have H := mild_anyR htrans ok hn hT' c hE (Q' := Q) (g := l.toArray.size - n) (fun u L a' W r hall => by
    obtain ⟨h1, h2⟩ := run_endR ok c hE r hall
    have h3 := subAll_puts u _ _ h2 (hQ W r.fr)
    rw [h1] at h3
    have hL := headL_of r.inv.size hn hall r.inv.tail
    rw [hL]
    have hdl : (l.drop n).length = l.toArray.size - n := by simp
    have := wpAny_of_seq (md := .any) (Q' := Q) (l.drop n) n (headL l.toArray.size n) a' W (fun j => by simp [List.getElem?_drop]) (by rw [hdl]; exact hseq) h3
    rw [hdl] at this
    exact this) n (fun _ => undef) _ a _ hleft hrun
  rw [hfuel] at H
  exact H

section
end

/-! ### The relation: as Fr [], but that blocks of type T, made since the world's size was B, may have other cells (as many). -/
structure RT (T : TypeId) (B : Nat) (w w' : World) : Prop where
  os : w'.os = w.os
  tape : w'.tape = w.tape
  output : w'.output = w.output
  size : w.heap.size ≤ w'.heap.size
  keep : ∀ (k : Nat) (o : Obj), w.heap[k]? = some o → (k < B ∨ ∀ cs, o ≠ Obj.cells cs T (0, 0)) → w'.heap[k]? = some o
  may : ∀ (k : Nat) (cs : Array Value), w.heap[k]? = some (Obj.cells cs T (0, 0)) → ∃ cs' : Array Value, w'.heap[k]? = some (Obj.cells cs' T (0, 0)) ∧ cs'.size = cs.size
theorem RT.refl (T : TypeId) (B : Nat) (w : World) : RT T B w w := ⟨rfl, rfl, rfl, Nat.le_refl _, fun _ _ h _ => h, fun _ cs h => ⟨cs, h, rfl⟩⟩
theorem RT.trans (T : TypeId) (B : Nat) (a b c : World) (h : RT T B a b) (k : RT T B b c) : RT T B a c :=
  ⟨k.os.trans h.os, k.tape.trans h.tape, k.output.trans h.output, Nat.le_trans h.size k.size, fun i o hi hn => k.keep i o (h.keep i o hi hn) hn, fun i cs hi => by
    obtain ⟨cs', h1, h2⟩ := h.may i cs hi
    obtain ⟨cs2, h3, h4⟩ := k.may i cs' h1
    exact ⟨cs2, h3, h4.trans h2⟩⟩
theorem RT.of {T : TypeId} {B : Nat} {w w' : World} (h : Fr [] w w') : RT T B w w' :=
  ⟨h.os, h.tape, h.output, h.size, fun k o hk _ => (h.block k (lt_of_heap hk) (by simp)).trans hk, fun k cs hk => ⟨cs, (h.block k (lt_of_heap hk) (by simp)).trans hk, rfl⟩⟩
theorem RT.fr {T : TypeId} {B : Nat} {w w' : World} (h : RT T B w w') (hB : w.heap.size ≤ B) : Fr [] w w' :=
  ⟨h.os, h.tape, h.output, h.size, fun k hk _ => by
    obtain ⟨o, ho⟩ : ∃ o, w.heap[k]? = some o := ⟨_, Array.getElem?_eq_getElem hk⟩
    rw [ho]
    exact h.keep k o ho (.inl (by omega))⟩
theorem RT.row {T : TypeId} {B : Nat} {w : World} {b : Nat} {cs vs : Array Value} (hb : w.heap[b]? = some (.cells cs T (0, 0))) (hB : B ≤ b) (hs : vs.size = cs.size) : RT T B w (w.setRow b vs) := by
  refine ⟨rfl, rfl, rfl, by simp, fun k o hk hn => ?_, fun k cs' hk => ?_⟩
  · rw [setRow_other _ _ _ _ (by rintro rfl; rw [hb] at hk; injection hk with hk; subst hk; exact hn.elim (fun h => by omega) (fun h => h _ rfl))]
    exact hk
  · by_cases h : k = b
    · subst h
      rw [hb] at hk
      injection hk with hk
      injection hk with hk
      subst hk
      exact ⟨vs, setRow_heap w k _ vs T _ hb, hs⟩
    · rw [setRow_other _ _ _ _ h]
      exact ⟨cs', hk, rfl⟩
/-- A new block of type T with m cells: its number. -/
def PtW (T : TypeId) (B m : Nat) (v : Value) (W : World) : Prop := ∃ b cs, v = .pointer (some ⟨b, 0, none⟩) ∧ W.heap[b]? = some (.cells cs T (0, 0)) ∧ cs.size = m ∧ B ≤ b
theorem PtW.stable {T : TypeId} {B m : Nat} (v : Value) (W W' : World) (h : PtW T B m v W) (hf : RT T B W W') : PtW T B m v W' := by
  obtain ⟨b, cs, hv, hb, hm, hn⟩ := h
  obtain ⟨cs', h1, h2⟩ := hf.may b cs hb
  exact ⟨b, cs', hv, h1, h2.trans hm, hn⟩
/-- A slice just built, of another type. -/
theorem SlF.stableR {cs : Array Value} {T S : TypeId} {m B : Nat} (hne : S ≠ T) (v : Value) (W W' : World) (h : SlF cs S m v W) (hf : RT T B W W') : SlF cs S m v W' := by
  obtain ⟨b, hv, hb⟩ := h
  exact ⟨b, hv, hf.keep b _ hb (.inr fun cs' h => by injection h with _ h; exact hne h)⟩
section
variable {T : TypeId} {B : Nat} {P : Program} {ops : Array Oper} {w0 : World} {Q : Act → List Free → Prop} {k : Nat} {o : Oper} {rest : List Oper} {a : Act} {env : List Free}
theorem mildR_det0 {v : Value} (hF : (env.filter fun e => rds ops o e) = []) (h1 : ∀ W, RT T B w0 W → ∀ K : Value → World → Prop, (∀ W', RT T B W W' → K v W') → mildAt P ops o a W K)
    (h2 : mildLR (RT T B) P ops w0 Q (k + 1) rest (a.put o.dst v) env) : mildLR (RT T B) P ops w0 Q k (o :: rest) a env :=
  .inl ⟨v, fun W hW => by rw [hF]; exact h1 W hW _ fun W' hf => ⟨hf, rfl⟩, h2⟩
theorem mildR_det1 {v : Value} {e : Free} (hF : (env.filter fun e => rds ops o e) = [e]) (h1 : ∀ W, RT T B w0 W → ∀ u, e.fact u W → ∀ K : Value → World → Prop, (∀ W', RT T B W W' → K v W') → mildAt P ops o (a.put e.dst u) W K)
    (h2 : mildLR (RT T B) P ops w0 Q (k + 1) rest (a.put o.dst v) env) : mildLR (RT T B) P ops w0 Q k (o :: rest) a env :=
  .inl ⟨v, fun W hW => by rw [hF]; exact fun u hu => h1 W hW u hu _ fun W' hf => ⟨hf, rfl⟩, h2⟩
theorem mildR_free0 {φ : Value → World → Prop} (hst : ∀ v W W', φ v W → RT T B W W' → φ v W') (hF : (env.filter fun e => rds ops o e) = []) (h1 : ∀ W, RT T B w0 W → ∀ K : Value → World → Prop, (∀ u W', RT T B W W' → φ u W' → K u W') → mildAt P ops o a W K)
    (h2 : mildLR (RT T B) P ops w0 Q (k + 1) rest (a.put o.dst undef) (⟨k, o.dst, φ⟩ :: env)) : mildLR (RT T B) P ops w0 Q k (o :: rest) a env :=
  .inr ⟨φ, hst, fun W hW => by rw [hF]; exact h1 W hW _ fun u W' hf hu => ⟨hf, hu⟩, h2⟩
theorem mildR_nil (h : Q a env) : mildLR (RT T B) P ops w0 Q k [] a env := h
/-- The store of a whole struct into a block just made. -/
theorem mildAt_store {o : Oper} {a : Act} {w : World} {K : Value → World → Prop} (hgd : o.guard = none) (ty : TypeId) (x y : Operand) (ho : o.op = .store ty x y)
    (g : Nat) (cells : Array Value) (hx : a.eval x = .pointer (some ⟨g, 0, none⟩)) (hy : a.eval y = .agg cells) (t : TypeId) (old : Array Value) (hg : w.heap[g]? = some (.cells old t (0, 0))) (hi : (P.info? ty).map (·.size) = some cells.size)
    (hold : old.size = cells.size) (h1 : cells.all (·.oneCell') = true) (hK : K undef (w.setRow g cells)) : mildAt P ops o a w K := by
  have hw : Region.wanted o (yielded ops a.tmps) = true := by simp [Region.wanted, hgd]
  unfold mildAt
  rw [if_pos hw]
  unfold execOp
  simp only [ho, hx, hy, Instr.storeAt, Instr.sureAddr, Sem.run_bind, Sem.run_pure, Result.andThen_ok, run_storeVar_row w g t ty old cells hg hi hold h1]
  exact hK
end
end Go.Proofs.Ytbeoegppldjpoaa
