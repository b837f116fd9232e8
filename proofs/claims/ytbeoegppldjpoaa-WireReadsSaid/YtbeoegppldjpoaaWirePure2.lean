/- The document's reading of requests (its bounds are greater) comes to the same. No program in sight. -/
import Derived.Test.YtbeoegppldjpoaaWirePure
namespace Go.Proofs.Ytbeoegppldjpoaa
open Go.RowKit
set_option linter.unusedVariables false
set_option linter.unusedSimpArgs false

def rqTake2 (st : Option ByteArray) : Rq × Option ByteArray :=
  let p0 := pNum st 99
  let p1 := pNum p0.2 99
  let p2 := pText p1.2 99
  let p3 := pText p2.2 99
  let p4 := pText p3.2 99
  let p5 := pText p4.2 99
  let p6 := pText p5.2 99
  (⟨p0.1, p1.1, p2.1, p3.1, p4.1, p5.1, p6.1⟩, p6.2)
def wireR2 (s : ByteArray) : Rq × Int := if pEnd (rqTake2 (some s)).2 && (rqTake2 (some s)).1.ok then ((rqTake2 (some s)).1, 0) else (rqNo, 10)
theorem rqTake2_wrote (r : Rq) (t : ByteArray) (h : r.ok = true) : rqTake2 (some (rqB r ++ t)) = (r, some t) := by
  obtain ⟨⟨h1, h2⟩, ⟨h3, h4⟩, ⟨h5, h6⟩, h7, h8, h9, h10⟩ := Rq.ok_iff h
  obtain ⟨k, pu, so, ma, ot, se, pa⟩ := r
  simp only at h1 h2 h3 h4 h5 h6 h7 h8 h9 h10
  obtain ⟨k, rfl⟩ := Int.eq_ofNat_of_zero_le (by omega : 0 ≤ k)
  obtain ⟨pu, rfl⟩ := Int.eq_ofNat_of_zero_le h3
  have he : rqB ⟨k, pu, so, ma, ot, se, pa⟩ ++ t = numB k ++ (numB pu ++ (txtB so ++ (txtB ma ++ (txtB ot ++ (txtB se ++ (txtB pa ++ t)))))) := by
    simp only [rqB, numsB, txtsB, app_nil, app_assoc, Int.toNat_natCast]
  rw [he]
  unfold rqTake2
  simp only
  rw [pNum_wrote k 99 _ (by omega) (by omega)]
  simp only
  rw [pNum_wrote pu 99 _ (by omega) (by omega)]
  simp only
  rw [pText_wrote so _ 99 (by decide) (by omega) (by omega)]
  simp only
  rw [pText_wrote ma _ 99 (by decide) (by omega) (by omega)]
  simp only
  rw [pText_wrote ot _ 99 (by decide) (by omega) (by omega)]
  simp only
  rw [pText_wrote se _ 99 (by decide) (by omega) (by omega)]
  simp only
  rw [pText_wrote pa _ 99 (by decide) (by omega) (by omega)]
theorem rqTake2_back {s t : ByteArray} (h : (rqTake2 (some s)).2 = some t) : s = rqB (rqTake2 (some s)).1 ++ t := by
  unfold rqTake2 at h ⊢
  simp only at h ⊢
  generalize hp0 : pNum (some s) 99 = p0 at *
  obtain ⟨v0, s0⟩ := p0
  cases s0 with
  | none => simp only [pNum_nil, pText_nil] at h; cases h
  | some s0 =>
  simp only at h ⊢
  have e0 := pNum_back (s := s) (most := 99) (t := s0) (by rw [hp0])
  rw [hp0] at e0
  generalize hp1 : pNum (some s0) 99 = p1 at *
  obtain ⟨v1, s1⟩ := p1
  cases s1 with
  | none => simp only [pNum_nil, pText_nil] at h; cases h
  | some s1 =>
  simp only at h ⊢
  have e1 := pNum_back (s := s0) (most := 99) (t := s1) (by rw [hp1])
  rw [hp1] at e1
  generalize hp2 : pText (some s1) 99 = p2 at *
  obtain ⟨x2, s2⟩ := p2
  cases s2 with
  | none => simp only [pText_nil] at h; cases h
  | some s2 =>
  simp only at h ⊢
  have e2 := pText_back (s := s1) (most := 99) (t := s2) (by rw [hp2])
  rw [hp2] at e2
  generalize hp3 : pText (some s2) 99 = p3 at *
  obtain ⟨x3, s3⟩ := p3
  cases s3 with
  | none => simp only [pText_nil] at h; cases h
  | some s3 =>
  simp only at h ⊢
  have e3 := pText_back (s := s2) (most := 99) (t := s3) (by rw [hp3])
  rw [hp3] at e3
  generalize hp4 : pText (some s3) 99 = p4 at *
  obtain ⟨x4, s4⟩ := p4
  cases s4 with
  | none => simp only [pText_nil] at h; cases h
  | some s4 =>
  simp only at h ⊢
  have e4 := pText_back (s := s3) (most := 99) (t := s4) (by rw [hp4])
  rw [hp4] at e4
  generalize hp5 : pText (some s4) 99 = p5 at *
  obtain ⟨x5, s5⟩ := p5
  cases s5 with
  | none => simp only [pText_nil] at h; cases h
  | some s5 =>
  simp only at h ⊢
  have e5 := pText_back (s := s4) (most := 99) (t := s5) (by rw [hp5])
  rw [hp5] at e5
  generalize hp6 : pText (some s5) 99 = p6 at *
  obtain ⟨x6, s6⟩ := p6
  simp only at h ⊢
  subst h
  have e6 := pText_back (s := s5) (most := 99) (t := t) (by rw [hp6])
  rw [hp6] at e6
  simp only at e0 e1 e2 e3 e4 e5 e6
  simp only [rqB, numsB, txtsB, app_nil, app_assoc, Int.toNat_natCast]
  rw [← e6, ← e5, ← e4, ← e3, ← e2, ← e1, ← e0]
theorem wireR2_eq (s : ByteArray) : wireR2 s = wireR s := by
  rcases wireR_cases s with h | ⟨r, h, hok, hs⟩
  · rw [h]
    unfold wireR2
    by_cases h2 : (pEnd (rqTake2 (some s)).2 && (rqTake2 (some s)).1.ok) = true
    · exfalso
      rw [Bool.and_eq_true] at h2
      have h3 := rqTake2_back (pEnd_iff h2.1)
      rw [app_nil] at h3
      have h4 := wireR_wrote _ h2.2
      rw [← h3, h] at h4
      injection h4 with _ h4
      cases h4
    · rw [if_neg h2]
  · rw [h]
    have h1 := rqTake2_wrote r ⟨#[]⟩ hok
    rw [app_nil, hs] at h1
    unfold wireR2
    rw [h1]
    simp only [pEnd_some, hok]
    rfl
end Go.Proofs.Ytbeoegppldjpoaa
