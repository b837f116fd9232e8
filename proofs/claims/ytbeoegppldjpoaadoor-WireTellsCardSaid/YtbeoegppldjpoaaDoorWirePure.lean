/- Wire's requests and replies, in plain Lean: what a kind has, what may be, their bytes, and how they are read. -/
import Derived.Test.YtbeoegppldjpoaaDoorPackPure5
namespace Go.Proofs.YtbeoegppldjpoaaDoor
open Go.RowKit
set_option linter.unusedVariables false
set_option linter.unusedSimpArgs false

/-- What a kind has: a mail address, another one, a secret, a password, a purpose. -/
structure Pt where
  ma : Bool
  ot : Bool
  se : Bool
  pa : Bool
  pu : Bool
def ptN : Nat → Pt
  | 1 => ⟨true, false, false, true, false⟩
  | 2 => ⟨true, false, true, false, false⟩
  | 3 => ⟨true, false, false, false, true⟩
  | 4 => ⟨true, false, true, false, false⟩
  | 5 => ⟨true, false, true, false, false⟩
  | 6 => ⟨true, false, true, true, false⟩
  | 7 => ⟨true, false, false, true, false⟩
  | 8 => ⟨false, true, true, false, false⟩
  | 9 => ⟨true, true, true, false, false⟩
  | 10 => ⟨true, true, false, true, false⟩
  | 11 => ⟨false, true, true, false, false⟩
  | 12 => ⟨true, false, false, false, false⟩
  | 13 => ⟨true, true, true, false, false⟩
  | 14 => ⟨false, false, true, false, false⟩
  | 15 => ⟨true, false, false, true, false⟩
  | 16 => ⟨false, false, true, false, false⟩
  | _ => ⟨false, false, false, false, false⟩
def kIs (k : Int) : Bool := decide (1 ≤ k) && decide (k ≤ 16)
def ptOf (k : Int) : Pt := if kIs k then ptN k.toNat else ⟨false, false, false, false, false⟩
/-- A request. -/
structure Rq where
  k : Int
  pu : Int
  so : ByteArray
  ma : ByteArray
  ot : ByteArray
  se : ByteArray
  pa : ByteArray
def Rq.short (r : Rq) (m : Nat) : Prop := r.so.size ≤ m ∧ r.ma.size ≤ m ∧ r.ot.size ≤ m ∧ r.se.size ≤ m ∧ r.pa.size ≤ m
/-- May a text be, if its kind has it, or not? -/
def tOK (s : ByteArray) (has : Bool) : Bool := (has == decide (s.size ≠ 0)) && decide (s.size ≤ 64)
def puOK (n : Int) (has : Bool) : Bool := if has then decide (2 ≤ n) && decide (n ≤ 4) else decide (n = 0)
def soOK (s : ByteArray) : Bool := decide (s.size ≠ 0) && decide (s.size ≤ 20)
def rqOK (p : Pt) (r : Rq) : Bool := tOK r.ma p.ma && tOK r.ot p.ot && tOK r.se p.se && tOK r.pa p.pa && puOK r.pu p.pu && soOK r.so
def Rq.ok (r : Rq) : Bool := kIs r.k && rqOK (ptOf r.k) r
def rqB (r : Rq) : ByteArray := numsB [r.k, r.pu] ++ txtsB [r.so, r.ma, r.ot, r.se, r.pa]
def wireB (r : Rq) : ByteArray := if r.ok then rqB r else ⟨#[]⟩
def rqNo : Rq := ⟨0, 0, ⟨#[]⟩, ⟨#[]⟩, ⟨#[]⟩, ⟨#[]⟩, ⟨#[]⟩⟩
def rqTake (st : Option ByteArray) : Rq × Option ByteArray :=
  let p0 := pNum st 16
  let p1 := pNum p0.2 4
  let p2 := pText p1.2 20
  let p3 := pText p2.2 64
  let p4 := pText p3.2 64
  let p5 := pText p4.2 64
  let p6 := pText p5.2 64
  (⟨p0.1, p1.1, p2.1, p3.1, p4.1, p5.1, p6.1⟩, p6.2)
def wireR (s : ByteArray) : Rq × Int := if pEnd (rqTake (some s)).2 && (rqTake (some s)).1.ok then ((rqTake (some s)).1, 0) else (rqNo, 10)
/-- Replies. -/
def replyB (c : Int) (t : ByteArray) : ByteArray := if (decide (0 ≤ c) && decide (c ≤ 99)) && decide (t.size ≤ 64) then numsB [c] ++ txtsB [t] else ⟨#[]⟩
def rpTake (st : Option ByteArray) : (Int × ByteArray) × Option ByteArray :=
  let p0 := pNum st 99
  let p1 := pText p0.2 64
  ((p0.1, p1.1), p1.2)
def replyR (s : ByteArray) : (Int × ByteArray) × Int := if pEnd (rpTake (some s)).2 then ((rpTake (some s)).1, 0) else ((0, ⟨#[]⟩), 10)

theorem tOK_size {s : ByteArray} {h : Bool} (hh : tOK s h = true) : s.size ≤ 64 := by
  simp only [tOK, Bool.and_eq_true, decide_eq_true_eq] at hh
  exact hh.2
theorem Rq.ok_iff {r : Rq} (h : r.ok = true) : (1 ≤ r.k ∧ r.k ≤ 16) ∧ (0 ≤ r.pu ∧ r.pu ≤ 4) ∧ (1 ≤ r.so.size ∧ r.so.size ≤ 20) ∧ r.ma.size ≤ 64 ∧ r.ot.size ≤ 64 ∧ r.se.size ≤ 64 ∧ r.pa.size ≤ 64 := by
  simp only [Rq.ok, rqOK, Bool.and_eq_true] at h
  obtain ⟨hk, ⟨⟨⟨⟨h1, h2⟩, h3⟩, h4⟩, h5⟩, h6⟩ := h
  have h1 := tOK_size h1
  have h2 := tOK_size h2
  have h3 := tOK_size h3
  have h4 := tOK_size h4
  simp only [kIs, Bool.and_eq_true, decide_eq_true_eq] at hk
  simp only [soOK, Bool.and_eq_true, decide_eq_true_eq] at h6
  unfold puOK at h5
  split at h5
  · simp only [Bool.and_eq_true, decide_eq_true_eq] at h5
    omega
  · simp only [decide_eq_true_eq] at h5
    omega
theorem pEnd_some {t : ByteArray} : pEnd (some t) = decide (t.size = 0) := by
  unfold pEnd
  by_cases h : t.size = 0
  · simp [h]
  · simp [h]
theorem pEnd_iff {st : Option ByteArray} (h : pEnd st = true) : st = some ⟨#[]⟩ := by
  cases st with
  | none => cases h
  | some t =>
    rw [pEnd_some, decide_eq_true_eq] at h
    rw [show t = ⟨#[]⟩ from ByteArray.ext (Array.eq_empty_of_size_eq_zero h)]
theorem rqTake_wrote (r : Rq) (t : ByteArray) (h : r.ok = true) : rqTake (some (rqB r ++ t)) = (r, some t) := by
  obtain ⟨⟨h1, h2⟩, ⟨h3, h4⟩, ⟨h5, h6⟩, h7, h8, h9, h10⟩ := Rq.ok_iff h
  obtain ⟨k, pu, so, ma, ot, se, pa⟩ := r
  simp only at h1 h2 h3 h4 h5 h6 h7 h8 h9 h10
  obtain ⟨k, rfl⟩ := Int.eq_ofNat_of_zero_le (by omega : 0 ≤ k)
  obtain ⟨pu, rfl⟩ := Int.eq_ofNat_of_zero_le h3
  have he : rqB ⟨k, pu, so, ma, ot, se, pa⟩ ++ t = numB k ++ (numB pu ++ (txtB so ++ (txtB ma ++ (txtB ot ++ (txtB se ++ (txtB pa ++ t)))))) := by
    simp only [rqB, numsB, txtsB, app_nil, app_assoc, Int.toNat_natCast]
  rw [he]
  unfold rqTake
  simp only
  rw [pNum_wrote k 16 _ (by omega) (by omega)]
  simp only
  rw [pNum_wrote pu 4 _ (by omega) (by omega)]
  simp only
  rw [pText_wrote so _ 20 (by decide) (by omega) (by omega)]
  simp only
  rw [pText_wrote ma _ 64 (by decide) (by omega) (by omega)]
  simp only
  rw [pText_wrote ot _ 64 (by decide) (by omega) (by omega)]
  simp only
  rw [pText_wrote se _ 64 (by decide) (by omega) (by omega)]
  simp only
  rw [pText_wrote pa _ 64 (by decide) (by omega) (by omega)]
theorem wireR_wrote (r : Rq) (h : r.ok = true) : wireR (rqB r) = (r, 0) := by
  have h1 := rqTake_wrote r ⟨#[]⟩ h
  rw [app_nil] at h1
  unfold wireR
  rw [h1]
  simp only [pEnd_some]
  rw [h]
  rfl
theorem wireR_more (r : Rq) (h : r.ok = true) (t : ByteArray) (ht : t.size ≠ 0) : wireR (rqB r ++ t) = (rqNo, 10) := by
  have h1 := rqTake_wrote r t h
  unfold wireR
  rw [h1]
  simp only [pEnd_some, ht, decide_false, Bool.false_and]
  rfl
theorem rqTake_back {s t : ByteArray} (h : (rqTake (some s)).2 = some t) : s = rqB (rqTake (some s)).1 ++ t := by
  unfold rqTake at h ⊢
  simp only at h ⊢
  generalize hp0 : pNum (some s) 16 = p0 at *
  obtain ⟨v0, s0⟩ := p0
  cases s0 with
  | none => simp only [pNum_nil, pText_nil] at h; cases h
  | some s0 =>
  simp only at h ⊢
  have e0 := pNum_back (s := s) (most := 16) (t := s0) (by rw [hp0])
  rw [hp0] at e0
  generalize hp1 : pNum (some s0) 4 = p1 at *
  obtain ⟨v1, s1⟩ := p1
  cases s1 with
  | none => simp only [pNum_nil, pText_nil] at h; cases h
  | some s1 =>
  simp only at h ⊢
  have e1 := pNum_back (s := s0) (most := 4) (t := s1) (by rw [hp1])
  rw [hp1] at e1
  generalize hp2 : pText (some s1) 20 = p2 at *
  obtain ⟨x2, s2⟩ := p2
  cases s2 with
  | none => simp only [pText_nil] at h; cases h
  | some s2 =>
  simp only at h ⊢
  have e2 := pText_back (s := s1) (most := 20) (t := s2) (by rw [hp2])
  rw [hp2] at e2
  generalize hp3 : pText (some s2) 64 = p3 at *
  obtain ⟨x3, s3⟩ := p3
  cases s3 with
  | none => simp only [pText_nil] at h; cases h
  | some s3 =>
  simp only at h ⊢
  have e3 := pText_back (s := s2) (most := 64) (t := s3) (by rw [hp3])
  rw [hp3] at e3
  generalize hp4 : pText (some s3) 64 = p4 at *
  obtain ⟨x4, s4⟩ := p4
  cases s4 with
  | none => simp only [pText_nil] at h; cases h
  | some s4 =>
  simp only at h ⊢
  have e4 := pText_back (s := s3) (most := 64) (t := s4) (by rw [hp4])
  rw [hp4] at e4
  generalize hp5 : pText (some s4) 64 = p5 at *
  obtain ⟨x5, s5⟩ := p5
  cases s5 with
  | none => simp only [pText_nil] at h; cases h
  | some s5 =>
  simp only at h ⊢
  have e5 := pText_back (s := s4) (most := 64) (t := s5) (by rw [hp5])
  rw [hp5] at e5
  generalize hp6 : pText (some s5) 64 = p6 at *
  obtain ⟨x6, s6⟩ := p6
  simp only at h ⊢
  subst h
  have e6 := pText_back (s := s5) (most := 64) (t := t) (by rw [hp6])
  rw [hp6] at e6
  simp only at e0 e1 e2 e3 e4 e5 e6
  simp only [rqB, numsB, txtsB, app_nil, app_assoc, Int.toNat_natCast]
  rw [← e6, ← e5, ← e4, ← e3, ← e2, ← e1, ← e0]
theorem wireR_cases (s : ByteArray) : wireR s = (rqNo, 10) ∨ ∃ r, wireR s = (r, 0) ∧ r.ok = true ∧ rqB r = s := by
  unfold wireR
  by_cases h : (pEnd (rqTake (some s)).2 && (rqTake (some s)).1.ok) = true
  · rw [if_pos h]
    rw [Bool.and_eq_true] at h
    have h1 := rqTake_back (pEnd_iff h.1)
    rw [app_nil] at h1
    exact .inr ⟨_, rfl, h.2, h1.symm⟩
  · rw [if_neg h]
    exact .inl rfl
theorem rpTake_wrote (c : Nat) (t u : ByteArray) (hc : c ≤ 99) (ht : t.size ≤ 64) : rpTake (some (numsB [(c : Int)] ++ txtsB [t] ++ u)) = (((c : Int), t), some u) := by
  have he : numsB [(c : Int)] ++ txtsB [t] ++ u = numB c ++ (txtB t ++ u) := by
    simp only [numsB, txtsB, app_nil, app_assoc, Int.toNat_natCast]
  rw [he]
  unfold rpTake
  simp only
  rw [pNum_wrote c 99 _ (by omega) (by omega)]
  simp only
  rw [pText_wrote t _ 64 (by decide) (by omega) (by omega)]
theorem rpTake_back {s t : ByteArray} (h : (rpTake (some s)).2 = some t) : s = numsB [(rpTake (some s)).1.1] ++ txtsB [(rpTake (some s)).1.2] ++ t := by
  unfold rpTake at h ⊢
  simp only at h ⊢
  generalize hp0 : pNum (some s) 99 = p0 at *
  obtain ⟨v0, s0⟩ := p0
  cases s0 with
  | none => simp only [pText_nil] at h; cases h
  | some s0 =>
  simp only at h ⊢
  have e0 := pNum_back (s := s) (most := 99) (t := s0) (by rw [hp0])
  rw [hp0] at e0
  generalize hp1 : pText (some s0) 64 = p1 at *
  obtain ⟨x1, s1⟩ := p1
  simp only at h ⊢
  subst h
  have e1 := pText_back (s := s0) (most := 64) (t := t) (by rw [hp1])
  rw [hp1] at e1
  simp only at e0 e1 ⊢
  simp only [numsB, txtsB, app_nil, app_assoc, Int.toNat_natCast]
  rw [← e1, ← e0]
theorem rpTake_bd (st : Option ByteArray) : (0 ≤ (rpTake st).1.1 ∧ (rpTake st).1.1 ≤ 99) ∧ (rpTake st).1.2.size ≤ 64 := by
  unfold rpTake
  simp only
  have h1 := pNum_lt st 99
  have h2 := pText_fst (pNum st 99).2 64
  simp at h2
  omega
theorem replyR_cases (s : ByteArray) : replyR s = ((0, ⟨#[]⟩), 10) ∨ ∃ c t, replyR s = ((c, t), 0) ∧ (0 ≤ c ∧ c ≤ 99) ∧ t.size ≤ 64 ∧ replyB c t = s := by
  unfold replyR
  have hb := fun t => rpTake_back (s := s) (t := t)
  have h2 := rpTake_bd (some s)
  generalize rpTake (some s) = q at *
  obtain ⟨⟨c, t⟩, st⟩ := q
  simp only at hb h2 ⊢
  by_cases h : pEnd st = true
  · rw [if_pos h]
    have h1 := hb _ (pEnd_iff h)
    rw [app_nil] at h1
    refine .inr ⟨c, t, rfl, h2.1, h2.2, ?_⟩
    rw [replyB, if_pos (by rw [decide_eq_true h2.1.1, decide_eq_true h2.1.2, decide_eq_true h2.2]; rfl)]
    exact h1.symm
  · rw [if_neg h]
    exact .inl rfl
theorem rqB_size {r : Rq} (h : r.ok = true) : (rqB r).size = r.so.size + r.ma.size + r.ot.size + r.se.size + r.pa.size + 7 := by
  obtain ⟨⟨h1, h2⟩, ⟨h3, h4⟩, ⟨h5, h6⟩, h7, h8, h9, h10⟩ := Rq.ok_iff h
  have hn : ∀ n, n < 128 → (numB n).size = 1 := fun n hn => by rw [numB_small hn]; rfl
  have ht : ∀ s : ByteArray, s.size ≤ 64 → (txtB s).size = s.size + 1 := fun s hs => by rw [txtB, ByteArray.size_append, hn _ (by omega)]; omega
  simp only [rqB, numsB, txtsB, app_nil, ByteArray.size_append]
  rw [hn _ (by omega), hn _ (by omega), ht _ (by omega), ht _ h7, ht _ h8, ht _ h9, ht _ h10]
  omega

end Go.Proofs.YtbeoegppldjpoaaDoor
