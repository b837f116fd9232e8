/- Addresses: the document's letter, name. -/
import Derived.Test.YtbeoegppldjpoaaDoorAddr7
namespace Go.Proofs.YtbeoegppldjpoaaDoor
open Go.RowKit Go.Lib
set_option linter.unusedVariables false
set_option linter.unusedSimpArgs false

theorem rletter_calls (w : World) (r : Nat) :
    Calls Tryd.prog 77 #[.int .u8 (r : Int)] w fun e w' => e = .returned (.bool (letN r)) ∧ w' = w := by
  unfold letN digN
  by_cases h1 : (97 : Int) ≤ (r : Int)
  · by_cases h2 : (r : Int) ≤ 122
    · rw [decide_eq_true (show 97 ≤ r by omega), decide_eq_true (show r ≤ 122 by omega), Bool.and_true, Bool.true_or]
      go_enter Tryd.func77, Tryd.ntmps77
      go_wp2_with fail
      go_ret
      exact ⟨rfl, rfl⟩
    · have h3 : (48 : Int) ≤ (r : Int) := by omega
      have h4 : ¬ (r : Int) ≤ 57 := by omega
      rw [decide_eq_false (show ¬ r ≤ 122 by omega), decide_eq_false (show ¬ r ≤ 57 by omega), Bool.and_false, Bool.false_or, Bool.and_false]
      go_enter Tryd.func77, Tryd.ntmps77
      go_wp2_with fail
      go_ret
      exact ⟨rfl, rfl⟩
  · rw [decide_eq_false (show ¬ 97 ≤ r by omega), Bool.false_and, Bool.false_or]
    by_cases h3 : (48 : Int) ≤ (r : Int)
    · by_cases h4 : (r : Int) ≤ 57
      · rw [decide_eq_true (show 48 ≤ r by omega), decide_eq_true (show r ≤ 57 by omega), Bool.and_true]
        go_enter Tryd.func77, Tryd.ntmps77
        go_wp2_with fail
        go_ret
        exact ⟨rfl, rfl⟩
      · rw [decide_eq_false (show ¬ r ≤ 57 by omega), Bool.and_false]
        go_enter Tryd.func77, Tryd.ntmps77
        go_wp2_with fail
        go_ret
        exact ⟨rfl, rfl⟩
    · rw [decide_eq_false (show ¬ 48 ≤ r by omega), Bool.false_and]
      go_enter Tryd.func77, Tryd.ntmps77
      go_wp2_with fail
      go_ret
      exact ⟨rfl, rfl⟩

/-- The name's test, byte by byte; p is the byte ahead (46 at the start). -/
def nmS (p : UInt8) : List UInt8 → Bool
  | [] => true
  | x :: r => (letN x.toNat || decide (x.toNat = 95) || decide (x.toNat = 45) || (decide (x.toNat = 46) && (!(p == 46) && !r.isEmpty))) && nmS x r
theorem let46 : ∀ n, letN n = true → n ≠ 46 := by
  intro n h e
  rw [e] at h
  exact absurd h (by decide)
theorem nmS_eq : ∀ (r : List UInt8) (p x : UInt8), nmS p (x :: r) = (noDD (p :: (x :: (r ++ [46]))) && (x :: r).all fun c => nmN c.toNat)
  | [], p, x => by
    by_cases h46 : x = 46
    · subst h46
      simp [nmS, noDD, letN, digN]
    · have h46' : ¬ x.toNat = 46 := fun e => h46 (UInt8.toNat_inj.1 e)
      have hb : (x == 46) = false := beq_eq_false_iff_ne.2 h46
      simp [nmS, noDD, nmN, h46, h46', hb]
  | y :: r, p, x => by
    have ih := nmS_eq r x y
    rw [nmS, ih]
    by_cases h46 : x = 46
    · subst h46
      have h1 : letN (46 : UInt8).toNat = false := by decide
      simp only [List.isEmpty_cons, h1, List.all_cons, noDD]
      simp [nmN, h1, noDD, Bool.and_assoc]
    · have h46' : ¬ x.toNat = 46 := fun e => h46 (UInt8.toNat_inj.1 e)
      have hb : (x == 46) = false := beq_eq_false_iff_ne.2 h46
      have hs : (some x == some (46 : UInt8)) = false := beq_eq_false_iff_ne.2 (fun e => h46 (Option.some.inj e))
      simp only [noDD, List.all_cons, List.head?_cons, List.cons_append, hs, hb, Bool.and_false, Bool.not_false, Bool.true_and, nmN, decide_eq_false h46', Bool.false_and, Bool.or_false]
      generalize (letN x.toNat || decide (x.toNat = 95) || decide (x.toNat = 45)) = u
      generalize (!(y == 46 && _)) = v
      generalize noDD _ = q
      generalize (letN y.toNat || decide (y.toNat = 95) || decide (y.toNat = 45) || decide (y.toNat = 46)) = z
      generalize r.all _ = a
      cases u <;> cases v <;> cases q <;> cases z <;> cases a <;> rfl
theorem nameL_nmS (l : List UInt8) (h : l ≠ []) : nameL l = nmS 46 l := by
  cases l with
  | nil => exact absurd rfl h
  | cons x r =>
    rw [nmS_eq]
    rfl
/-- The byte ahead. -/
def pvL (l : List UInt8) (i : Nat) : UInt8 := if i = 0 then 46 else l.getD (i - 1) 0
theorem nmS_step (l : List UInt8) (i : Nat) (h : i < l.length) : nmS (pvL l i) (l.drop i) =
    ((letN (l[i]).toNat || decide ((l[i]).toNat = 95) || decide ((l[i]).toNat = 45) || (decide ((l[i]).toNat = 46) && (!(pvL l i == 46) && !decide (i + 1 = l.length)))) && nmS (pvL l (i + 1)) (l.drop (i + 1))) := by
  rw [List.drop_eq_getElem_cons h, nmS]
  have e1 : (l.drop (i + 1)).isEmpty = decide (i + 1 = l.length) := by
    by_cases he : i + 1 = l.length
    · rw [decide_eq_true he, he, List.drop_length]
      rfl
    · rw [decide_eq_false he, List.drop_eq_getElem_cons (by omega)]
      rfl
  have e2 : pvL l (i + 1) = l[i] := by
    unfold pvL
    rw [if_neg (by omega), Nat.add_sub_cancel, List.getD_eq_getElem?_getD, List.getElem?_eq_getElem h]
    rfl
  rw [e1, e2]

end Go.Proofs.YtbeoegppldjpoaaDoor
