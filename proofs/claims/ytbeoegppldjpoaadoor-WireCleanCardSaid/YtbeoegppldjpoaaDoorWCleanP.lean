/- What cleaned requests are, in plain Lean: what was cleaned may be, and is cleaned to itself; good addresses are cleaned. -/
import Derived.Test.YtbeoegppldjpoaaDoorWClean2
import Derived.Test.YtbeoegppldjpoaaDoorAddrQ
namespace Go.Proofs.YtbeoegppldjpoaaDoor
open Go.RowKit
set_option linter.unusedVariables false
set_option linter.unusedSimpArgs false

def annIn : ByteArray := ⟨#[32, 65, 110, 110, 46, 66, 43, 116, 97, 103, 64, 72, 111, 115, 116, 46, 79, 82, 71, 32]⟩
def annOut : ByteArray := ⟨#[97, 110, 110, 46, 98, 64, 104, 111, 115, 116, 46, 111, 114, 103]⟩
def bobIn : ByteArray := ⟨#[66, 111, 98, 64, 104, 111, 115, 116, 46, 111, 114, 103]⟩
theorem ann_mail : mailS annIn.data.toList = (annOut, true) := by decide +kernel
theorem bob_mail : (mailS bobIn.data.toList).2 = true := by decide +kernel
def pickS (m : Bool) (t s : ByteArray) : ByteArray := if m && decide (s.size ≠ 0) then t else s
theorem pickS_tOK {m : Bool} {t s : ByteArray} {h : Bool} (ht : 1 ≤ t.size ∧ t.size ≤ 64) (hs : tOK s h = true) : tOK (pickS m t s) h = true := by
  unfold pickS
  split
  · rename_i hm
    simp only [Bool.and_eq_true, decide_eq_true_eq] at hm
    simp only [tOK, Bool.and_eq_true, decide_eq_true_eq, beq_iff_eq] at hs ⊢
    refine ⟨?_, ht.2⟩
    rw [hs.1, decide_eq_true hm.2, decide_eq_true (show t.size ≠ 0 by omega)]
  · exact hs
theorem mail_one {l : List UInt8} (h : mailL l = true) : 1 ≤ l.length := by
  obtain ⟨a, b, _, hl, _⟩ := mail_parts h
  rw [hl]
  simp
  omega
theorem mC_back {s t : ByteArray} {h : Bool} (hc : mC s h = (t, true)) : mC t h = (t, true) := by
  cases h
  · rfl
  · simp only [mC, if_true, mailS, mailR] at hc ⊢
    split at hc
    · rename_i hm
      obtain rfl := (Prod.mk.inj hc).1
      rw [bL_data, mailOf_id hm, if_pos hm]
    · cases (Prod.mk.inj hc).2
theorem mC_tOK {s t : ByteArray} {h h' : Bool} (hc : mC s h = (t, true)) (hh : h = true → h' = true) (hs : tOK s h' = true) : tOK t h' = true := by
  cases h
  · obtain rfl := (Prod.mk.inj hc).1
    exact hs
  · obtain rfl := hh rfl
    simp only [mC, if_true, mailS, mailR] at hc
    split at hc
    · rename_i hm
      obtain rfl := (Prod.mk.inj hc).1
      have h1 := mail_one hm
      have h2 := mail_short hm
      simp only [tOK, Bool.and_eq_true, decide_eq_true_eq, beq_iff_eq, bL_size]
      exact ⟨(decide_eq_true (by omega)).symm, by omega⟩
    · cases (Prod.mk.inj hc).2
theorem kOth_ot {k : Int} (h : kOth k = true) : (ptOf k).ot = true := by
  simp only [kOth, Bool.or_eq_true, decide_eq_true_eq] at h
  rcases h with (rfl | rfl) | rfl <;> rfl
theorem Rq.ok_parts {r : Rq} : r.ok = true ↔ kIs r.k = true ∧ tOK r.ma (ptOf r.k).ma = true ∧ tOK r.ot (ptOf r.k).ot = true ∧ tOK r.se (ptOf r.k).se = true ∧ tOK r.pa (ptOf r.k).pa = true ∧ puOK r.pu (ptOf r.k).pu = true ∧ soOK r.so = true := by
  simp only [Rq.ok, rqOK, Bool.and_eq_true, and_assoc]
theorem cleanRq_cases (r : Rq) (hr : r.ok = true) : cleanRq r = (rqNo, false) ∨ ∃ ma ot, mC r.ma (ptOf r.k).ma = (ma, true) ∧ mC r.ot (kOth r.k) = (ot, true) ∧ cleanRq r = (⟨r.k, r.pu, r.so, ma, ot, r.se, r.pa⟩, true) ∧ (Rq.mk r.k r.pu r.so ma ot r.se r.pa).ok = true ∧ cleanRq ⟨r.k, r.pu, r.so, ma, ot, r.se, r.pa⟩ = (⟨r.k, r.pu, r.so, ma, ot, r.se, r.pa⟩, true) := by
  unfold cleanRq
  cases h1 : mC r.ma (ptOf r.k).ma with
  | mk ma b1 =>
    cases h2 : mC r.ot (kOth r.k) with
    | mk ot b2 =>
      cases b1
      · exact .inl (by rw [hr]; rfl)
      · cases b2
        · exact .inl (by rw [hr]; rfl)
        · have ho : (Rq.mk r.k r.pu r.so ma ot r.se r.pa).ok = true := by
            obtain ⟨a0, a1, a2, a3⟩ := Rq.ok_parts.1 hr
            exact Rq.ok_parts.2 ⟨a0, mC_tOK h1 id a1, mC_tOK h2 kOth_ot a2, a3⟩
          refine .inr ⟨ma, ot, rfl, rfl, by rw [hr]; rfl, ho, ?_⟩
          simp only
          rw [mC_back h1, mC_back h2, ho]
          rfl
/-- A request with good addresses, where told so. -/
theorem good_ok {k pu : Int} {so ma ot se pa : ByteArray} (h : (Rq.mk k pu so ma ot se pa).ok = true) (m1 m2 : Bool) : (Rq.mk k pu so (pickS m1 annIn ma) (pickS m2 bobIn ot) se pa).ok = true := by
  obtain ⟨a0, a1, a2, a3⟩ := Rq.ok_parts.1 h
  exact Rq.ok_parts.2 ⟨a0, pickS_tOK (by decide) a1, pickS_tOK (by decide) a2, a3⟩
theorem pick_ma {t s : ByteArray} {h : Bool} (hs : tOK s h = true) (ht : mC t true = (annOut, true)) : (mC (pickS true t s) h).2 = true ∧ (s.size ≠ 0 → (mC (pickS true t s) h).1 = annOut) := by
  simp only [tOK, Bool.and_eq_true, decide_eq_true_eq, beq_iff_eq] at hs
  cases h
  · exact ⟨rfl, fun h0 => by rw [decide_eq_true h0] at hs; cases hs.1⟩
  · have h0 : s.size ≠ 0 := of_decide_eq_true hs.1.symm
    have hp : pickS true t s = t := if_pos (by rw [decide_eq_true h0]; rfl)
    rw [hp, ht]
    exact ⟨rfl, fun _ => rfl⟩
theorem pick_ot {t s : ByteArray} {h h' : Bool} (hs : tOK s h' = true) (hh : h = true → h' = true) (ht : (mC t true).2 = true) : (mC (pickS true t s) h).2 = true := by
  cases h
  · rfl
  · obtain rfl := hh rfl
    simp only [tOK, Bool.and_eq_true, decide_eq_true_eq, beq_iff_eq] at hs
    have h0 : s.size ≠ 0 := of_decide_eq_true hs.1.symm
    have hp : pickS true t s = t := if_pos (by rw [decide_eq_true h0]; rfl)
    rw [hp, ht]
theorem good_clean {k pu : Int} {so ma ot se pa : ByteArray} (h : (Rq.mk k pu so ma ot se pa).ok = true) : (cleanRq ⟨k, pu, so, pickS true annIn ma, pickS true bobIn ot, se, pa⟩).2 = true := by
  obtain ⟨a0, a1, a2, a3⟩ := Rq.ok_parts.1 h
  unfold cleanRq
  simp only at a1 a2 ⊢
  rw [good_ok h true true, (pick_ma a1 ann_mail).1, pick_ot a2 kOth_ot bob_mail]
  rfl
theorem good_ma {k pu : Int} {so ma ot se pa ma' : ByteArray} (h : (Rq.mk k pu so ma ot se pa).ok = true) (hm : mC (pickS true annIn ma) (ptOf k).ma = (ma', true)) (h0 : ma.size ≠ 0) : ma' = annOut := by
  obtain ⟨a0, a1, a2, a3⟩ := Rq.ok_parts.1 h
  have := (pick_ma a1 ann_mail).2 h0
  simp only at this
  rw [hm] at this
  exact this
theorem pick_size (m : Bool) (s : ByteArray) : ((pickS m annIn s).size = 0) = (s.size = 0) := by
  unfold pickS
  split
  · rename_i hm
    simp only [Bool.and_eq_true, decide_eq_true_eq] at hm
    exact propext ⟨fun h => absurd h (by decide), fun h => absurd h hm.2⟩
  · rfl
end Go.Proofs.YtbeoegppldjpoaaDoor
