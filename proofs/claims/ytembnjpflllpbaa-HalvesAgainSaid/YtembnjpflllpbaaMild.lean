/- A law for regions that draw their order and whose operations make memory (slices built, calls that lay new blocks), but turn nothing that lay before: one walk, in the text's order. -/
import Derived.Test.YtembnjpflllpbaaBase
import Derived.StillTailTactics
namespace Go.Proofs.Ytembnjpflllpbaa
open Go.RowKit
set_option linter.unusedVariables false
set_option linter.unusedSimpArgs false

section
variable {P : Program} {ops : Array Oper} {w0 : World}

def mildUpon (P : Program) (K : Value → World → Prop) : Result Next → Prop
  | .ok (.value v) w' => K v w'
  | .ok .skip w' => K undef w'
  | .ok (.enter f args) w' => Calls P f args w' (fun e w'' => ∃ v, e = .returned v ∧ K v w'')
  | _ => False
/-- One operation yields a value and a world of which K holds. -/
def mildAt (P : Program) (ops : Array Oper) (o : Oper) (a : Act) (w : World) (K : Value → World → Prop) : Prop :=
  if Region.wanted o (yielded ops a.tmps) then mildUpon P K ((execOp a.eval o).run P w) else K undef w

/-- What is known of a slot whose value the order may turn: the operation, its slot, the fact. -/
structure Free where
  idx : Nat
  dst : Option Tmp
  fact : Value → World → Prop
def waits (o : Oper) (j : Nat) : Bool := o.after.toList.any fun e => Region.binds .any e && e.on == j
/-- It reads the slot of e, and waits for it. -/
def rds (ops : Array Oper) (o : Oper) (e : Free) : Bool := waits o e.idx && (match e.dst with | none => false | some d => (o.looksAt ops).contains d)
def subAll (W : World) (R : Act → Prop) : List Free → Act → Prop
  | [], a => R a
  | e :: t, a => ∀ v, e.fact v W → subAll W R t (a.put e.dst v)
/-- The walk in the text's order. -/
def mildL (P : Program) (ops : Array Oper) (w0 : World) (Q : Act → List Free → Prop) : Nat → List Oper → Act → List Free → Prop
  | _, [], a, env => Q a env
  | k, o :: rest, a, env =>
    (∃ v, (∀ W, Fr [] w0 W → subAll W (fun a' => mildAt P ops o a' W fun u W' => Fr [] W W' ∧ u = v) (env.filter fun e => rds ops o e) a) ∧ mildL P ops w0 Q (k + 1) rest (a.put o.dst v) env) ∨
    (∃ φ : Value → World → Prop, (∀ v W W', φ v W → Fr [] W W' → φ v W') ∧ (∀ W, Fr [] w0 W → subAll W (fun a' => mildAt P ops o a' W fun u W' => Fr [] W W' ∧ φ u W') (env.filter fun e => rds ops o e) a) ∧
      mildL P ops w0 Q (k + 1) rest (a.put o.dst undef) (⟨k, o.dst, φ⟩ :: env))

theorem mildUpon_mono {K K' : Value → World → Prop} (h : ∀ v w, K v w → K' v w) {r : Result Next} (hh : mildUpon P K r) : mildUpon P K' r := by
  cases r with
  | ok n w' =>
    cases n <;> simp only [mildUpon] at hh ⊢
    case enter f args => exact hh.mono fun e w'' ⟨v, he, hk⟩ => ⟨v, he, h _ _ hk⟩
    all_goals exact h _ _ hh
  | halt x w' => simp only [mildUpon] at hh
theorem mildAt_mono {o : Oper} {a : Act} {w : World} {K K' : Value → World → Prop} (h : ∀ v w, K v w → K' v w) (hh : mildAt P ops o a w K) : mildAt P ops o a w K' := by
  unfold mildAt at *
  split
  · rename_i hw
    simp only [hw, if_true] at hh
    exact mildUpon_mono h hh
  · rename_i hw
    simp only [hw] at hh
    exact h _ _ hh
theorem mild_wp {o : Oper} {a : Act} {w : World} {K : Value → World → Prop} {K' : Act → World → Prop} {Q' : Exit → Act → World → Prop} (h : ∀ v w', K v w' → K' (a.put o.dst v) w') (hh : mildUpon P K ((execOp a.eval o).run P w)) : o.wp P a w K' Q' := by
  unfold Oper.wp
  generalize (execOp a.eval o).run P w = r at *
  cases r with
  | ok n w' =>
    cases n <;> simp only [mildUpon] at hh <;> simp only [Oper.upon]
    case enter f args =>
      refine hh.mono fun e w'' ⟨v, he, hk⟩ => ?_
      subst he
      exact h _ _ hk
    all_goals exact h _ _ hh
  | halt x w' => simp only [mildUpon] at hh
/-- Frames that agree on what an operation looks at. -/
theorem mildAt_congr {o : Oper} (hs : ∀ cs b, o.op ≠ .select cs b) {a a' : Act} (h : ∀ d, d ∈ o.looksAt ops → a.tmps[d]? = a'.tmps[d]?) {w : World} {K : Value → World → Prop} (hh : mildAt P ops o a w K) : mildAt P ops o a' w K := by
  have he : execOp a'.eval o = execOp a.eval o := execOp_congr o hs fun x hx => by
    cases x with
    | tmp t =>
      have := h t (List.mem_append_left _ (List.mem_filterMap.2 ⟨.tmp t, by simpa using hx, rfl⟩))
      simp only [Act.eval, Array.getD_eq_getD_getElem?, this]
    | _ => rfl
  have hw : Region.wanted o (yielded ops a'.tmps) = Region.wanted o (yielded ops a.tmps) := by
    unfold Region.wanted
    cases hg : o.guard with
    | none => rfl
    | some gw =>
      obtain ⟨g, want⟩ := gw
      have hy : yielded ops a'.tmps g = yielded ops a.tmps g := by
        unfold yielded
        cases ht : (ops[g]?).bind (·.dst) with
        | none => rfl
        | some t =>
          have := h t (List.mem_append_right _ (by simp [hg, ht]))
          simp only [Option.bind_some, this]
      simp only [hy]
  unfold mildAt at *
  rw [he, hw]
  exact hh

/-! ### what may be asked of a region's text -/
def mildB (ops : Array Oper) (n : Nat) : Bool :=
  Region.noSelect ops && (List.range n).all fun k => match ops[k]? with
    | none => false
    | some o => (o.after.toList.all fun e => !Region.binds .any e || decide (e.on < k)) && (match o.dst with | none => true | some d => !(o.looksAt ops).contains d) &&
      (List.range n).all fun j => match ops[j]? with
        | none => false
        | some p => decide (j = k) || (match p.dst with | none => true | some d => o.dst != some d && (!(o.looksAt ops).contains d || waits o j))
structure MildOk (ops : Array Oper) (n : Nat) : Prop where
  sel : ∀ (j : Nat) (o : Oper) cs b, ops[j]? = some o → o.op ≠ .select cs b
  get : ∀ k, k < n → ∃ o, ops[k]? = some o
  low : ∀ k o, k < n → ops[k]? = some o → ∀ e ∈ o.after, Region.binds .any e = true → e.on < k
  own : ∀ k o d, k < n → ops[k]? = some o → o.dst = some d → d ∉ o.looksAt ops
  one : ∀ k j o p d, k < n → j < n → j ≠ k → ops[k]? = some o → ops[j]? = some p → p.dst = some d → o.dst ≠ some d
  dep : ∀ k j o p d, k < n → j < n → j ≠ k → ops[k]? = some o → ops[j]? = some p → p.dst = some d → d ∈ o.looksAt ops → waits o j = true
theorem waits_spec {o : Oper} {j : Nat} : waits o j = true ↔ ∃ e ∈ o.after, Region.binds .any e = true ∧ e.on = j := by
  unfold waits
  rw [List.any_eq_true]
  constructor
  · rintro ⟨e, he, hb⟩
    simp only [Bool.and_eq_true, beq_iff_eq] at hb
    exact ⟨e, by simpa using he, hb.1, hb.2⟩
  · rintro ⟨e, he, hb, hon⟩
    exact ⟨e, by simpa using he, by simp [hb, hon]⟩
theorem MildOk.of {n : Nat} (h : mildB ops n = true) : MildOk ops n := by
  simp only [mildB, Bool.and_eq_true, List.all_eq_true, List.mem_range] at h
  obtain ⟨hsel, h⟩ := h
  have hk : ∀ k o, k < n → ops[k]? = some o → (∀ e ∈ o.after, Region.binds .any e = true → e.on < k) ∧ (∀ d, o.dst = some d → d ∉ o.looksAt ops) ∧
      ∀ j p d, j < n → j ≠ k → ops[j]? = some p → p.dst = some d → o.dst ≠ some d ∧ (d ∈ o.looksAt ops → waits o j = true) := by
    intro k o hkn ho
    have h1 := h k hkn
    rw [ho] at h1
    simp only [Bool.and_eq_true, List.all_eq_true, List.mem_range] at h1
    obtain ⟨⟨ha, hb⟩, hc⟩ := h1
    refine ⟨fun e he hbe => ?_, fun d hd => ?_, fun j p d hj hjk hp hpd => ?_⟩
    · have := ha e (by simpa using he)
      simpa [hbe] using this
    · rw [hd] at hb
      simpa using hb
    · have := hc j hj
      rw [hp] at this
      simp only [hpd, decide_eq_false hjk, Bool.false_or, Bool.and_eq_true, Bool.or_eq_true, Bool.not_eq_true', bne_iff_ne] at this
      refine ⟨this.1, fun hm => ?_⟩
      rcases this.2 with h2 | h2
      · simp [List.contains_iff_mem, hm] at h2
      · exact h2
  refine ⟨Region.noSelect_spec hsel, fun k hkn => ?_, fun k o hkn ho => (hk k o hkn ho).1, fun k o d hkn ho hd => (hk k o hkn ho).2.1 d hd, fun k j o p d hkn hjn hjk ho hp hpd => ((hk k o hkn ho).2.2 j p d hjn hjk hp hpd).1, fun k j o p d hkn hjn hjk ho hp hpd => ((hk k o hkn ho).2.2 j p d hjn hjk hp hpd).2⟩
  have h1 := h k hkn
  cases ho : ops[k]? with
  | none => rw [ho] at h1; cases h1
  | some o => exact ⟨o, rfl⟩

/-! ### the chain of a walk -/
structure Chain (P : Program) (ops : Array Oper) (w0 : World) (lo hi : Nat) (A : Nat → Act) (E : Nat → List Free) (V : Nat → Value) (Φ : Nat → Option (Value → World → Prop)) : Prop where
  step : ∀ k o, lo ≤ k → k < hi → ops[k]? = some o → A (k + 1) = (A k).put o.dst (V k)
  env : ∀ k o, lo ≤ k → k < hi → ops[k]? = some o → E (k + 1) = match Φ k with | none => E k | some φ => ⟨k, o.dst, φ⟩ :: E k
  stable : ∀ k φ, Φ k = some φ → ∀ v W W', φ v W → Fr [] W W' → φ v W'
  ob : ∀ k o, lo ≤ k → k < hi → ops[k]? = some o → ∀ W, Fr [] w0 W → subAll W (fun a' => mildAt P ops o a' W fun u W' => Fr [] W W' ∧ match Φ k with | none => u = V k | some φ => φ u W') ((E k).filter fun e => rds ops o e) (A k)
theorem mildL_chain {Q : Act → List Free → Prop} : ∀ (l : List Oper) (k : Nat) (a : Act) (env : List Free), (∀ j, j < l.length → l[j]? = ops[k + j]?) → mildL P ops w0 Q k l a env →
    ∃ A E V Φ, Chain P ops w0 k (k + l.length) A E V Φ ∧ A k = a ∧ E k = env ∧ Q (A (k + l.length)) (E (k + l.length))
  | [], k, a, env, _, h => ⟨fun _ => a, fun _ => env, fun _ => undef, fun _ => none, ⟨fun j o h1 h2 => (by simp at h2; omega), fun j o h1 h2 => (by simp at h2; omega), fun j φ h => (by cases h), fun j o h1 h2 => (by simp at h2; omega)⟩, rfl, rfl, h⟩
  | o :: rest, k, a, env, hl, h => by
    have ho : ops[k]? = some o := by simpa using (hl 0 (by simp)).symm
    have hl' : ∀ j, j < rest.length → rest[j]? = ops[k + 1 + j]? := fun j hj => by
      have := hl (j + 1) (by simp; omega)
      simpa [Nat.add_assoc, Nat.add_comm 1 j] using this
    have glue : ∀ (v : Value) (φo : Option (Value → World → Prop)) (env' : List Free), (∀ φ, φo = some φ → ∀ v W W', φ v W → Fr [] W W' → φ v W') → (env' = match φo with | none => env | some φ => ⟨k, o.dst, φ⟩ :: env) →
        (∀ W, Fr [] w0 W → subAll W (fun a' => mildAt P ops o a' W fun u W' => Fr [] W W' ∧ match φo with | none => u = v | some φ => φ u W') (env.filter fun e => rds ops o e) a) →
        mildL P ops w0 Q (k + 1) rest (a.put o.dst v) env' → ∃ A E V Φ, Chain P ops w0 k (k + (o :: rest).length) A E V Φ ∧ A k = a ∧ E k = env ∧ Q (A (k + (o :: rest).length)) (E (k + (o :: rest).length)) := by
      intro v φo env' hst henv hob hr
      obtain ⟨A, E, V, Φ, hc, hA, hE, hQ⟩ := mildL_chain rest (k + 1) _ _ hl' hr
      have hlen : k + (o :: rest).length = k + 1 + rest.length := by simp; omega
      refine ⟨fun j => if j = k then a else A j, fun j => if j = k then env else E j, fun j => if j = k then v else V j, fun j => if j = k then φo else Φ j, ⟨?_, ?_, ?_, ?_⟩, if_pos rfl, if_pos rfl, ?_⟩
      · intro j p h1 h2 hp
        by_cases hj : j = k
        · subst hj
          obtain rfl : p = o := Option.some.inj (hp.symm.trans ho)
          simp only [if_pos, if_neg (show ¬ j + 1 = j by omega)]
          exact hA
        · simp only [if_neg hj, if_neg (show ¬ j + 1 = k by omega)]
          exact hc.step j p (by omega) (by omega) hp
      · intro j p h1 h2 hp
        by_cases hj : j = k
        · subst hj
          obtain rfl : p = o := Option.some.inj (hp.symm.trans ho)
          simp only [if_pos, if_neg (show ¬ j + 1 = j by omega)]
          rw [hE, henv]
        · simp only [if_neg hj, if_neg (show ¬ j + 1 = k by omega)]
          exact hc.env j p (by omega) (by omega) hp
      · intro j φ hφ
        by_cases hj : j = k
        · simp only [if_pos hj] at hφ
          exact hst φ hφ
        · simp only [if_neg hj] at hφ
          exact hc.stable j φ hφ
      · intro j p h1 h2 hp
        by_cases hj : j = k
        · subst hj
          obtain rfl : p = o := Option.some.inj (hp.symm.trans ho)
          simp only [if_pos]
          exact hob
        · simp only [if_neg hj]
          exact hc.ob j p (by omega) (by omega) hp
      · rw [hlen]
        simp only [if_neg (show ¬ k + 1 + rest.length = k by omega)]
        exact hQ
    simp only [mildL] at h
    rcases h with ⟨v, hob, hr⟩ | ⟨φ, hst, hob, hr⟩
    · exact glue v none env (fun φ h => by cases h) rfl hob hr
    · exact glue undef (some φ) _ (fun ψ h => by cases h; exact hst) rfl hob hr

/-! ### frames -/
theorem put_get {a : Act} {dst : Option Tmp} {v : Value} {d : Tmp} : (a.put dst v).tmps[d]? = if dst = some d then (if d < a.tmps.size then some v else none) else a.tmps[d]? := by
  cases dst with
  | none => simp [Act.put]
  | some e =>
    by_cases h : e = d
    · subst h
      simp only [Act.put, if_true]
      rw [Array.getElem?_setIfInBounds]
      simp
    · rw [if_neg (by simpa using h)]
      simp [Act.put, Array.getElem?_setIfInBounds_ne h]
theorem put_size {a : Act} {dst : Option Tmp} {v : Value} : (a.put dst v).tmps.size = a.tmps.size ∧ (a.put dst v).defers = a.defers := by
  cases dst with
  | none => exact ⟨rfl, rfl⟩
  | some e => exact ⟨by simp [Act.put], rfl⟩
def puts (x : Nat → Value) (l : List Free) (a : Act) : Act := l.foldl (fun a e => a.put e.dst (x e.idx)) a
theorem subAll_puts {W : World} {R : Act → Prop} (x : Nat → Value) : ∀ (l : List Free) (a : Act), (∀ e ∈ l, e.fact (x e.idx) W) → subAll W R l a → R (puts x l a)
  | [], _, _, h => h
  | e :: t, a, hf, h => subAll_puts x t _ (fun e' he => hf e' (by simp [he])) (h _ (hf e (by simp)))
theorem puts_size (x : Nat → Value) : ∀ (l : List Free) (a : Act), (puts x l a).tmps.size = a.tmps.size ∧ (puts x l a).defers = a.defers
  | [], _ => ⟨rfl, rfl⟩
  | e :: t, a => by
    have h := puts_size x t (a.put e.dst (x e.idx))
    exact ⟨h.1.trans put_size.1, h.2.trans put_size.2⟩
theorem puts_off (x : Nat → Value) (d : Tmp) : ∀ (l : List Free) (a : Act), (∀ e ∈ l, e.dst ≠ some d) → (puts x l a).tmps[d]? = a.tmps[d]?
  | [], _, _ => rfl
  | e :: t, a, h => by
    have h1 := puts_off x d t (a.put e.dst (x e.idx)) (fun e' he => h e' (by simp [he]))
    refine h1.trans ?_
    rw [put_get, if_neg (h e (by simp))]
theorem puts_on (x : Nat → Value) (d : Tmp) (v : Value) : ∀ (l : List Free) (a : Act), d < a.tmps.size → (∀ e ∈ l, e.dst = some d → x e.idx = v) → (∃ e ∈ l, e.dst = some d) → (puts x l a).tmps[d]? = some v
  | [], _, _, _, ⟨e, he, _⟩ => by cases he
  | e :: t, a, hd, h, hex => by
    have hs : d < (a.put e.dst (x e.idx)).tmps.size := by rw [put_size.1]; exact hd
    by_cases ht : ∃ e' ∈ t, e'.dst = some d
    · exact puts_on x d v t _ hs (fun e' he => h e' (by simp [he])) ht
    · have he : e.dst = some d := by
        obtain ⟨e', he', hd'⟩ := hex
        rcases List.mem_cons.1 he' with rfl | hm
        · exact hd'
        · exact absurd ⟨e', hm, hd'⟩ ht
      have h1 := puts_off x d t (a.put e.dst (x e.idx)) (fun e' he' hd' => ht ⟨e', he', hd'⟩)
      refine h1.trans ?_
      rw [put_get, if_pos he, if_pos hd, h e (by simp) he]

section
variable {n : Nat} {A : Nat → Act} {E : Nat → List Free} {V : Nat → Value} {Φ : Nat → Option (Value → World → Prop)}
theorem chain_frame (ok : MildOk ops n) (c : Chain P ops w0 0 n A E V Φ) : ∀ k, k ≤ n → (A k).tmps.size = (A 0).tmps.size ∧ (A k).defers = (A 0).defers ∧
    (∀ j o d, j < k → ops[j]? = some o → o.dst = some d → (A k).tmps[d]? = if d < (A 0).tmps.size then some (V j) else none) ∧
    (∀ d, (∀ j o, j < k → ops[j]? = some o → o.dst ≠ some d) → (A k).tmps[d]? = (A 0).tmps[d]?) := by
  intro k
  induction k with
  | zero => exact fun _ => ⟨rfl, rfl, fun j o d h => by omega, fun _ _ => rfl⟩
  | succ k ih =>
    intro hk
    obtain ⟨h1, h2, h3, h4⟩ := ih (by omega)
    obtain ⟨o, ho⟩ := ok.get k (by omega)
    have hs := c.step k o (Nat.zero_le _) (by omega) ho
    rw [hs]
    refine ⟨put_size.1.trans h1, put_size.2.trans h2, fun j p d hj hp hd => ?_, fun d hd => ?_⟩
    · rw [put_get]
      by_cases hjk : j = k
      · subst hjk
        obtain rfl : p = o := Option.some.inj (hp.symm.trans ho)
        rw [if_pos hd, h1]
      · rw [if_neg (ok.one k j o p d (by omega) (by omega) hjk ho hp hd)]
        exact h3 j p d (by omega) hp hd
    · rw [put_get, if_neg (hd k o (by omega) ho)]
      exact h4 d fun j p hj => hd j p (by omega)
theorem chain_env (ok : MildOk ops n) (c : Chain P ops w0 0 n A E V Φ) (hE : E 0 = []) : ∀ k, k ≤ n →
    (∀ e ∈ E k, e.idx < k ∧ Φ e.idx = some e.fact ∧ ∃ o, ops[e.idx]? = some o ∧ e.dst = o.dst) ∧ (∀ j φ o, j < k → Φ j = some φ → ops[j]? = some o → ⟨j, o.dst, φ⟩ ∈ E k) := by
  intro k
  induction k with
  | zero => exact fun _ => ⟨fun e he => (by rw [hE] at he; cases he), fun j φ o h => (by omega)⟩
  | succ k ih =>
    intro hk
    obtain ⟨h1, h2⟩ := ih (by omega)
    obtain ⟨o, ho⟩ := ok.get k (by omega)
    have hs := c.env k o (Nat.zero_le _) (by omega) ho
    cases hφ : Φ k with
    | none =>
      rw [hφ] at hs
      simp only at hs
      rw [hs]
      refine ⟨fun e he => ⟨by have := (h1 e he).1; omega, (h1 e he).2⟩, fun j φ p hj hp hpo => ?_⟩
      by_cases hjk : j = k
      · subst hjk
        rw [hφ] at hp
        cases hp
      · exact h2 j φ p (by omega) hp hpo
    | some φ =>
      rw [hφ] at hs
      simp only at hs
      rw [hs]
      refine ⟨fun e he => ?_, fun j ψ p hj hp hpo => ?_⟩
      · rcases List.mem_cons.1 he with rfl | he
        · exact ⟨by show k < k + 1; omega, hφ, o, ho, rfl⟩
        · exact ⟨by have := (h1 e he).1; omega, (h1 e he).2⟩
      · by_cases hjk : j = k
        · subst hjk
          rw [hφ] at hp
          cases hp
          obtain rfl : p = o := Option.some.inj (hpo.symm.trans ho)
          simp
        · exact List.mem_cons_of_mem _ (h2 j ψ p (by omega) hp hpo)
end
end

end Go.Proofs.Ytembnjpflllpbaa
