/- What was put in a batch is read, and what is read was put in it. -/
import Derived.Test.YtngonnnjehlfbaaEvRead
import Derived.Test.YtngonnnjehlfbaaEvBatch
import Derived.Test.YtngonnnjehlfbaaPackPure4
import Derived.Test.YtngonnnjehlfbaaPackOnce
namespace Go.Proofs.Ytngonnnjehlfbaa
set_option linter.unusedVariables false
set_option linter.unusedSimpArgs false

theorem evTake_wrote (e : Ev) (t : ByteArray) (h : e.ok = true) : evTake (some (evB e ++ t)) = (e, some t) := by
  obtain ⟨⟨⟨h1, h2⟩, ⟨h3, h4⟩, ⟨h5, h6⟩, ⟨h7, h8⟩, ⟨h9, h10⟩⟩, h11, h12, h13⟩ := Ev.ok_iff h
  obtain ⟨k, ac, pu, at', n, sa, sb, sc⟩ := e
  simp only at h1 h2 h3 h4 h5 h6 h7 h8 h9 h10 h11 h12 h13
  obtain ⟨k, rfl⟩ := Int.eq_ofNat_of_zero_le (by omega : 0 ≤ k)
  obtain ⟨ac, rfl⟩ := Int.eq_ofNat_of_zero_le h3
  obtain ⟨pu, rfl⟩ := Int.eq_ofNat_of_zero_le h5
  obtain ⟨at', rfl⟩ := Int.eq_ofNat_of_zero_le h7
  obtain ⟨n, rfl⟩ := Int.eq_ofNat_of_zero_le h9
  have he : evB ⟨k, ac, pu, at', n, sa, sb, sc⟩ ++ t = numB k ++ (numB ac ++ (numB pu ++ (numB at' ++ (numB n ++ (txtB sa ++ (txtB sb ++ (txtB sc ++ t))))))) := by
    simp only [evB, numsB, txtsB, app_nil, app_assoc, Int.toNat_natCast]
  rw [he]
  unfold evTake
  simp only
  rw [pNum_wrote k 21 _ (by omega) (by omega)]
  simp only
  rw [pNum_wrote ac 99 _ (by omega) (by omega)]
  simp only
  rw [pNum_wrote pu 9 _ (by omega) (by omega)]
  simp only
  rw [pNum_wrote at' 1099511627776 _ (by omega) (by omega)]
  simp only
  rw [pNum_wrote n 1099511627776 _ (by omega) (by omega)]
  simp only
  rw [pText_wrote sa _ 100 (by decide) (by omega) (by omega)]
  simp only
  rw [pText_wrote sb _ 100 (by decide) (by omega) (by omega)]
  simp only
  rw [pText_wrote sc _ 100 (by decide) (by omega) (by omega)]
theorem evReadL_wrote : ∀ (l acc : List Ev) (t : ByteArray), (∀ e, e ∈ l → e.ok = true) → evReadL l.length acc (some (evsB l ++ t)) = some (acc ++ l, some t)
  | [], acc, t, _ => by simp [evReadL, evsB, nil_app]
  | e :: l, acc, t, h => by
    have h0 := h e (by simp)
    have he : evsB (e :: l) ++ t = evB e ++ (evsB l ++ t) := by rw [evsB, app_assoc]
    have h1 := evTake_wrote e (evsB l ++ t) h0
    rw [List.length_cons, he, evReadL_ok (by rw [h1]; exact h0), h1]
    simp only
    rw [evReadL_wrote l (acc ++ [e]) t (fun x hx => h x (by simp [hx]))]
    simp
theorem evRead_wrote (l : List Ev) (t : ByteArray) (h : ∀ e, e ∈ l → e.ok = true) (h1 : 1 ≤ l.length) (h24 : l.length ≤ 24) : evRead (numB l.length ++ evsB l ++ t) = if t.size = 0 then (l, 0) else ([], 10) := by
  unfold evRead
  rw [app_assoc, pNum_wrote _ 24 _ (by omega) h24]
  simp only
  rw [evReadL_wrote l [] t h]
  simp only [List.nil_append, pEnd]
  by_cases h0 : t.size = 0
  · rw [if_pos h0]
    exact if_pos ⟨by simpa using h0, by omega⟩
  · rw [if_neg h0]
    exact if_neg (fun hh => h0 (by simpa using hh.1))
theorem evRead_empty : evRead ⟨#[]⟩ = ([], 10) := by
  have : pNum (some ⟨#[]⟩) 24 = (0, none) := by
    rw [pNum_bad]
    rfl
  unfold evRead
  rw [this]
  simp [evReadL, pEnd]

/-! ### Read, then written -/
theorem pNum_back {s t : ByteArray} {most : Nat} (h : (pNum (some s) most).2 = some t) : s = numB (pNum (some s) most).1 ++ t := by
  rcases pNum_cases s most with ⟨_, h2⟩ | ⟨n, k, h1, h2, h3, h4⟩
  · rw [h2] at h
    cases h
  · rw [h1] at h ⊢
    injection h with h
    rw [← h]
    exact h3
theorem pNum_nil (most : Nat) : pNum none most = (0, none) := rfl
theorem pText_nil (most : Int) : pText none most = (⟨#[]⟩, none) := by
  unfold pText
  split
  · rfl
  · rfl
theorem pText_back {s t : ByteArray} {most : Int} (h : (pText (some s) most).2 = some t) : s = txtB (pText (some s) most).1 ++ t := by
  have hc := pNum_cases s most.toNat
  unfold pText at h ⊢
  split at h
  · cases h
  · next hm =>
    rw [if_neg hm]
    rcases hc with ⟨_, h2⟩ | ⟨n, k, h1, h2, h3, h4⟩
    · generalize pNum (some s) most.toNat = p at *
      obtain ⟨a, b⟩ := p
      simp only at h2
      subst h2
      cases h
    · rw [h1] at h ⊢
      simp only at h ⊢
      split at h
      · cases h
      · next hn =>
        rw [if_neg hn]
        injection h with h
        simp only
        have hsz : ((rest s k).extract 0 n).size = n := by rw [ByteArray.size_extract]; omega
        rw [← h, txtB, hsz, app_assoc, rest, rest, extract_app]
        exact h3
theorem evTake_back {s t : ByteArray} (h : (evTake (some s)).2 = some t) : s = evB (evTake (some s)).1 ++ t := by
  unfold evTake at h ⊢
  simp only at h ⊢
  generalize hp0 : pNum (some s) 21 = p0 at *
  obtain ⟨v0, s0⟩ := p0
  cases s0 with
  | none => simp only [pNum_nil, pText_nil] at h; cases h
  | some s0 =>
  simp only at h ⊢
  have e0 := pNum_back (s := s) (most := 21) (t := s0) (by rw [hp0])
  rw [hp0] at e0
  generalize hp1 : pNum (some s0) 99 = p1 at *
  obtain ⟨v1, s1⟩ := p1
  cases s1 with
  | none => simp only [pNum_nil, pText_nil] at h; cases h
  | some s1 =>
  simp only at h ⊢
  have e1 := pNum_back (s := s0) (most := 99) (t := s1) (by rw [hp1])
  rw [hp1] at e1
  generalize hp2 : pNum (some s1) 9 = p2 at *
  obtain ⟨v2, s2⟩ := p2
  cases s2 with
  | none => simp only [pNum_nil, pText_nil] at h; cases h
  | some s2 =>
  simp only at h ⊢
  have e2 := pNum_back (s := s1) (most := 9) (t := s2) (by rw [hp2])
  rw [hp2] at e2
  generalize hp3 : pNum (some s2) 1099511627776 = p3 at *
  obtain ⟨v3, s3⟩ := p3
  cases s3 with
  | none => simp only [pNum_nil, pText_nil] at h; cases h
  | some s3 =>
  simp only at h ⊢
  have e3 := pNum_back (s := s2) (most := 1099511627776) (t := s3) (by rw [hp3])
  rw [hp3] at e3
  generalize hp4 : pNum (some s3) 1099511627776 = p4 at *
  obtain ⟨v4, s4⟩ := p4
  cases s4 with
  | none => simp only [pNum_nil, pText_nil] at h; cases h
  | some s4 =>
  simp only at h ⊢
  have e4 := pNum_back (s := s3) (most := 1099511627776) (t := s4) (by rw [hp4])
  rw [hp4] at e4
  generalize hp5 : pText (some s4) 100 = p5 at *
  obtain ⟨x5, s5⟩ := p5
  cases s5 with
  | none => simp only [pText_nil] at h; cases h
  | some s5 =>
  simp only at h ⊢
  have e5 := pText_back (s := s4) (most := 100) (t := s5) (by rw [hp5])
  rw [hp5] at e5
  generalize hp6 : pText (some s5) 100 = p6 at *
  obtain ⟨x6, s6⟩ := p6
  cases s6 with
  | none => simp only [pText_nil] at h; cases h
  | some s6 =>
  simp only at h ⊢
  have e6 := pText_back (s := s5) (most := 100) (t := s6) (by rw [hp6])
  rw [hp6] at e6
  generalize hp7 : pText (some s6) 100 = p7 at *
  obtain ⟨x7, s7⟩ := p7
  simp only at h ⊢
  subst h
  have e7 := pText_back (s := s6) (most := 100) (t := t) (by rw [hp7])
  rw [hp7] at e7
  simp only at e0 e1 e2 e3 e4 e5 e6 e7
  simp only [evB, numsB, txtsB, app_nil, app_assoc, Int.toNat_natCast]
  rw [← e7, ← e6, ← e5, ← e4, ← e3, ← e2, ← e1, ← e0]
theorem evTake_none : (evTake none).1.ok = false := by
  simp only [evTake, pNum_nil, pText_nil]
  rfl
theorem evReadL_back : ∀ (n : Nat) (acc : List Ev) (s : ByteArray) (l : List Ev) (t : ByteArray), evReadL n acc (some s) = some (l, some t) → ∃ m, l = acc ++ m ∧ m.length = n ∧ s = evsB m ++ t ∧ ∀ e, e ∈ m → e.ok = true
  | 0, acc, s, l, t, h => by
    simp only [evReadL, Option.some.injEq, Prod.mk.injEq] at h
    obtain ⟨h1, h2⟩ := h
    exact ⟨[], by simp [h1], rfl, by rw [evsB, nil_app, h2], fun e h => by cases h⟩
  | n + 1, acc, s, l, t, h => by
    cases hok : (evTake (some s)).1.ok with
    | false => rw [evReadL_no hok] at h; cases h
    | true =>
      rw [evReadL_ok hok] at h
      cases hs : (evTake (some s)).2 with
      | none =>
        rw [hs] at h
        cases n with
        | zero => simp [evReadL] at h
        | succ n => rw [evReadL_no evTake_none] at h; cases h
      | some s' =>
        rw [hs] at h
        obtain ⟨m, h1, h2, h3, h4⟩ := evReadL_back n _ _ _ _ h
        refine ⟨(evTake (some s)).1 :: m, by rw [h1]; simp, by simp [h2], ?_, fun e he => ?_⟩
        · rw [evsB, app_assoc, ← h3]
          exact evTake_back hs
        · rcases List.mem_cons.1 he with rfl | he
          · exact hok
          · exact h4 e he
theorem evRead_back (s : ByteArray) : evRead s = ([], 10) ∨ ∃ l, evRead s = (l, 0) ∧ evBatch l = (s, 0) ∧ 1 ≤ l.length ∧ l.length ≤ 24 ∧ ∀ e, e ∈ l → e.ok = true := by
  have hle := pNum_lt (some s) 24
  unfold evRead
  generalize hp : pNum (some s) 24 = p at *
  obtain ⟨n, st⟩ := p
  simp only at hle ⊢
  cases hq : evReadL n [] st with
  | none => exact .inl rfl
  | some q =>
    obtain ⟨l, st2⟩ := q
    simp only
    by_cases hc : pEnd st2 = true ∧ l.length ≠ 0
    · rw [if_pos hc]
      right
      obtain ⟨hc1, hc2⟩ := hc
      cases st2 with
      | none => cases hc1
      | some t =>
        cases st with
        | none =>
          cases n with
          | zero => simp [evReadL] at hq
          | succ n => rw [evReadL_no evTake_none] at hq; cases hq
        | some s1 =>
          obtain ⟨m, h1, h2, h3, h4⟩ := evReadL_back _ _ _ _ _ hq
          rw [List.nil_append] at h1
          subst h1
          have ht : t = ⟨#[]⟩ := by
            have h0 : t.size = 0 := by simpa [pEnd] using hc1
            apply ByteArray.ext
            exact Array.eq_empty_of_size_eq_zero h0
          have hb := pNum_back (s := s) (most := 24) (t := s1) (by rw [hp])
          rw [hp] at hb
          simp only at hb
          rw [ht, app_nil] at h3
          refine ⟨l, rfl, ?_, by omega, by omega, h4⟩
          rw [evBatch, if_pos ⟨by omega, by omega, List.all_eq_true.2 h4⟩, h2, ← h3, ← hb]
    · rw [if_neg hc]
      exact .inl rfl
end Go.Proofs.Ytngonnnjehlfbaa
