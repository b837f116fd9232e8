/- Addresses, in plain Lean: what was written in one way is written so again; nothing is a mail address and a phone. -/
import Derived.Test.YtbeoegppldjpoaaDoorAddr5
namespace Go.Proofs.YtbeoegppldjpoaaDoor
open Go.RowKit Go.Lib
set_option linter.unusedVariables false
set_option linter.unusedSimpArgs false

theorem splitL_mem (c : UInt8) : ∀ (l : List UInt8) (x : UInt8), x ∈ l → x = c ∨ ∃ p, p ∈ splitL c l ∧ x ∈ p
  | [], x, h => by cases h
  | y :: l, x, h => by
    rw [splitL]
    by_cases hy : y = c
    · rw [if_pos (beq_iff_eq.2 hy)]
      rcases List.mem_cons.1 h with rfl | h
      · exact .inl hy
      · rcases splitL_mem c l x h with h | ⟨p, hp, hx⟩
        · exact .inl h
        · exact .inr ⟨p, List.mem_cons_of_mem _ hp, hx⟩
    · rw [if_neg (fun e => hy (beq_iff_eq.1 e))]
      cases hs : splitL c l with
      | nil =>
        simp only
        rcases List.mem_cons.1 h with rfl | h
        · exact .inr ⟨[x], by simp, by simp⟩
        · rcases splitL_mem c l x h with h | ⟨p, hp, hx⟩
          · exact .inl h
          · rw [hs] at hp; cases hp
      | cons q r =>
        simp only
        rcases List.mem_cons.1 h with rfl | h
        · exact .inr ⟨x :: q, by simp, by simp⟩
        · rcases splitL_mem c l x h with h | ⟨p, hp, hx⟩
          · exact .inl h
          · rw [hs] at hp
            rcases List.mem_cons.1 hp with rfl | hp
            · exact .inr ⟨y :: p, by simp, by simp [hx]⟩
            · exact .inr ⟨p, List.mem_cons_of_mem _ hp, hx⟩
theorem lb_nm {c : Nat} (h : lbN c = true) : nmN c = true := by
  unfold lbN at h
  unfold nmN
  simp only [Bool.or_eq_true, decide_eq_true_eq] at h ⊢
  rcases h with h | h
  · exact .inl (.inl (.inl h))
  · exact .inl (.inr h)
theorem name_chars {l : List UInt8} (h : nameL l = true) : ∀ c, c ∈ l → nmN c.toNat = true := by
  unfold nameL at h
  simp only [Bool.and_eq_true] at h
  exact fun c hc => List.all_eq_true.1 h.2.2 c hc
theorem host_chars {l : List UInt8} (h : hostL l = true) : ∀ c, c ∈ l → nmN c.toNat = true := by
  unfold hostL at h
  simp only [Bool.and_eq_true] at h
  intro c hc
  rcases splitL_mem 46 l c hc with rfl | ⟨p, hp, hx⟩
  · rfl
  · have hl := List.all_eq_true.1 h.2 p hp
    unfold labelL at hl
    simp only [Bool.and_eq_true] at hl
    exact lb_nm (List.all_eq_true.1 hl.2.2.2.2 c hx)
theorem mail_parts {l : List UInt8} (h : mailL l = true) : ∃ a b, cutL 64 l = some (a, b) ∧ l = a ++ 64 :: b ∧ l.length ≤ 40 ∧ nameL a = true ∧ hostL b = true := by
  unfold mailL at h
  cases hq : cutL 64 l with
  | none => rw [hq] at h; cases h
  | some p =>
    obtain ⟨a, b⟩ := p
    rw [hq] at h
    simp only [Bool.and_eq_true, decide_eq_true_eq] at h
    exact ⟨a, b, rfl, (cutL_some hq).1, h.1, h.2.1, h.2.2⟩
theorem mail_chars {l : List UInt8} (h : mailL l = true) : ∀ c, c ∈ l → nmN c.toNat = true ∨ c = 64 := by
  obtain ⟨a, b, _, e, _, ha, hb⟩ := mail_parts h
  intro c hc
  rw [e, List.mem_append, List.mem_cons] at hc
  rcases hc with hc | hc | hc
  · exact .inl (name_chars ha c hc)
  · exact .inr hc
  · exact .inl (host_chars hb c hc)
theorem char_plain {c : UInt8} (h : nmN c.toNat = true ∨ c = 64) : lowC c = c ∧ c ≠ 43 ∧ c ≠ 32 ∧ c ≠ 9 := by
  rcases h with h | rfl
  · unfold nmN letN digN at h
    simp only [Bool.or_eq_true, Bool.and_eq_true, decide_eq_true_eq] at h
    have hne : ∀ d : UInt8, d.toNat = 43 ∨ d.toNat = 32 ∨ d.toNat = 9 → c ≠ d := fun d hd e => by subst e; omega
    exact ⟨if_neg (by omega), hne 43 (.inl rfl), hne 32 (.inr (.inl rfl)), hne 9 (.inr (.inr rfl))⟩
  · exact ⟨rfl, by decide, by decide, by decide⟩
theorem dropWhile_none {p : UInt8 → Bool} {l : List UInt8} (h : ∀ c, c ∈ l → p c = false) : l.dropWhile p = l := by
  cases l with
  | nil => rfl
  | cons x l => rw [List.dropWhile_cons_of_neg (by rw [h x (by simp)]; decide)]
theorem trim_none {l : List UInt8} (h : ∀ c, c ∈ l → c ≠ 32 ∧ c ≠ 9) : Lib.trimS l [32, 9] = l := by
  have hp : ∀ c, c ∈ l → ([32, 9] : List UInt8).contains c = false := fun c hc => by
    have := h c hc
    simp [this.1, this.2]
  have h1 : Lib.trimLeftS l [32, 9] = l := by unfold Lib.trimLeftS; exact dropWhile_none hp
  have h2 : Lib.trimRightS l [32, 9] = l := by
    unfold Lib.trimRightS
    rw [dropWhile_none (fun c hc => hp c (by simpa using hc)), List.reverse_reverse]
  unfold Lib.trimS
  first
  | rw [h1, h2]
  | rw [h2, h1]
theorem mailOf_id {l : List UInt8} (h : mailL l = true) : mailOf l = l := by
  have hc := fun c hm => char_plain (mail_chars h c hm)
  unfold mailOf
  rw [trim_none (fun c hm => ⟨(hc c hm).2.2.1, (hc c hm).2.2.2⟩)]
  have e : l.map lowC = l := by
    conv => rhs; rw [← List.map_id l]
    exact List.map_congr_left (fun c hm => (hc c hm).1)
  rw [e]
  unfold plusL
  rw [cutL_not (fun hm => (hc 43 hm).2.1 rfl)]
theorem phone_chars {l : List UInt8} (h : phoneL l = true) : ∀ c, c ∈ l → c = 43 ∨ digN c.toNat = true := by
  unfold phoneL at h
  simp only [Bool.and_eq_true] at h
  obtain ⟨_, _, h0, _, ha⟩ := h
  cases l with
  | nil => intro c hc; cases hc
  | cons x l =>
    simp only [List.getElem?_cons_zero, beq_iff_eq, Option.some.injEq] at h0
    intro c hc
    rcases List.mem_cons.1 hc with rfl | hc
    · exact .inl h0
    · exact .inr (List.all_eq_true.1 ha c (by simpa using hc))
theorem phoneOf_id {l : List UInt8} (h : phoneL l = true) : phoneOf l = l := by
  unfold phoneOf
  refine List.filter_eq_self.2 fun c hc => ?_
  rcases phone_chars h c hc with rfl | hd
  · rfl
  · unfold digN at hd
    simp only [Bool.and_eq_true, decide_eq_true_eq] at hd
    unfold besN
    simp
    omega
theorem phone_short {l : List UInt8} (h : phoneL l = true) : l.length ≤ 16 := by
  unfold phoneL at h
  simp only [Bool.and_eq_true, decide_eq_true_eq] at h
  exact h.2.1
theorem low_at {c : UInt8} (h : lowC c = 64) : c = 64 := by
  unfold lowC at h
  split at h
  · rename_i hc
    have := congrArg UInt8.toNat h
    rw [UInt8.toNat_ofNat'] at this
    have e : (64 : UInt8).toNat = 64 := rfl
    omega
  · exact h
theorem trim_mem {l : List UInt8} {c : UInt8} (h : c ∈ Lib.trimS l [32, 9]) : c ∈ l := by
  have h1 : ∀ m : List UInt8, ∀ d, d ∈ Lib.trimLeftS m [32, 9] → d ∈ m := fun m d hd => by
    unfold Lib.trimLeftS at hd
    exact (List.dropWhile_suffix _).subset hd
  have h2 : ∀ m : List UInt8, ∀ d, d ∈ Lib.trimRightS m [32, 9] → d ∈ m := fun m d hd => by
    unfold Lib.trimRightS at hd
    have := (List.dropWhile_suffix _).subset (List.mem_reverse.1 hd)
    exact List.mem_reverse.1 this
  unfold Lib.trimS at h
  first
  | exact h1 _ _ (h2 _ _ h)
  | exact h2 _ _ (h1 _ _ h)
theorem plus_at {T : List UInt8} (h : (64 : UInt8) ∈ plusL T) : (64 : UInt8) ∈ T := by
  unfold plusL at h
  cases h1 : cutL 43 T with
  | none => rw [h1] at h; exact h
  | some p =>
    obtain ⟨a, b⟩ := p
    rw [h1] at h
    simp only at h
    cases h2 : cutL 64 b with
    | none => rw [h2] at h; exact h
    | some q =>
      obtain ⟨c, d⟩ := q
      rw [(cutL_some h1).1, (cutL_some h2).1]
      simp
theorem not_both {l : List UInt8} (h : mailL (mailOf l) = true) : phoneL (phoneOf l) = false := by
  obtain ⟨a, b, _, e, _, _, _⟩ := mail_parts h
  have hm : (64 : UInt8) ∈ mailOf l := by rw [e]; simp
  unfold mailOf at hm
  obtain ⟨c, hc, he⟩ := List.mem_map.1 (plus_at hm)
  have hl := trim_mem hc
  rw [low_at he] at hl
  cases hp : phoneL (phoneOf l) with
  | false => rfl
  | true =>
    have hx : (64 : UInt8) ∈ phoneOf l := List.mem_filter.2 ⟨hl, rfl⟩
    rcases phone_chars hp 64 hx with h | h
    · cases h
    · cases h
theorem mail_short {l : List UInt8} (h : mailL l = true) : l.length ≤ 40 := by
  obtain ⟨a, b, _, _, h, _, _⟩ := mail_parts h
  exact h
end Go.Proofs.YtbeoegppldjpoaaDoor
