/- The contract of 'Same' of the document's layer 03: two rows of texts are the same. -/
import Derived.Test.YtembnjpflllpbaaStrs
namespace Go.Proofs.Ytembnjpflllpbaa
open Go.RowKit
set_option linter.unusedVariables false
set_option linter.unusedSimpArgs false

/-- Two rows of texts are the same. -/
def sameB (x y : List ByteArray) : Bool := decide (x = y)

set_option maxHeartbeats 1000000 in
set_option maxRecDepth 100000 in
theorem Same03_calls (w : World) (A B : Option Addr) (c d : Nat) (x y : List ByteArray) (hx : RdV w A (x.map .string)) (hy : RdV w B (y.map .string)) (hxl : x.length ≤ maxLen) (hyl : y.length ≤ maxLen) :
    Calls Try.prog 16 #[.slice A x.length c, .slice B y.length d] w fun e w' => e = .returned (.bool (sameB x y)) ∧ Fr [] w w' := by
  unfold maxLen at hxl hyl
  by_cases hl : x.length = y.length
  · have hlb : ((x.length : Int) != (y.length : Int)) = false := by simp [hl]
    have hlb2 : (x.length != y.length) = false := by simp [hl]
    have HL := Lib.hid hl
    clear hl
    go_enter Try.func16, Try.ntmps16
    go_wp2_with fail
    go_loopw [5] (fun v wr => ∃ (k n : Nat), v = .int .i64 k ∧ k ≤ x.length ∧ wr = w.drewN n ∧ Hid (x.take k = y.take k)) (fun v _ => x.length - (intOf v).toNat)
    case atStart => exact ⟨0, 0, rfl, Nat.zero_le _, rfl, rfl⟩
    case round =>
      obtain ⟨k, n, rfl, hk, rfl, H⟩ := hrel
      by_cases hlk : k < x.length
      · have hly : k < y.length := by have := HL.out; omega
        obtain ⟨ax, rfl, hcx⟩ := hx k (.string x[k]) (by simp [hlk])
        obtain ⟨ay, rfl, hcy⟩ := hy k (.string y[k]) (by simp [hly])
        have tk : x[k] = y[k] → x.take (k + 1) = y.take (k + 1) := by
          intro e
          rw [List.take_succ_eq_append_getElem hlk, List.take_succ_eq_append_getElem hly, H.out, e]
        have tn : ¬ x[k] = y[k] → sameB x y = false := by
          intro e
          refine decide_eq_false (fun h => e ?_)
          subst h
          rfl
        generalize x[k] = p at hcx tk tn
        generalize y[k] = q at hcy tk tn
        by_cases hpq : p = q
        · have TK := Lib.hid (tk hpq)
          subst hpq
          clear tk tn
          go_wp2
          go_quiet (fail)
          go_wp2
          exact ⟨⟨k + 1, n + nq, by go_num, by omega, rfl, TK.out⟩, by simp only [intOf]; omega⟩
        · have TN := Lib.hid (tn hpq)
          have hpq1 : (p.toList == q.toList) = false := beq_eq_false_iff_ne.2 (fun h => hpq (toList_inj h))
          have hpq2 : (p.toList != q.toList) = true := by simp [bne, hpq1]
          clear hpq tk tn
          go_wp2
          go_quiet (fail)
          go_wp2
          go_ret
          exact ⟨by rw [TN.out]; rfl, ((Fr.refl _ _).drewN _).drewN _⟩
      · obtain rfl : k = x.length := by omega
        have e1 : sameB x y = true := by
          refine decide_eq_true ?_
          have := H.out
          rw [List.take_length, HL.out, List.take_length] at this
          exact this
        have E1 := Lib.hid e1
        clear e1
        go_wp2
        go_ret
        exact ⟨by rw [E1.out]; rfl, (Fr.refl _ _).drewN _⟩
  · have hlb : ((x.length : Int) != (y.length : Int)) = true := by simp; omega
    have hlb2 : (x.length != y.length) = true := by simp; omega
    have e1 : sameB x y = false := decide_eq_false (fun h => hl (by rw [h]))
    rw [e1]
    go_enter Try.func16, Try.ntmps16
    go_wp2
    go_ret
    exact ⟨rfl, Fr.refl _ _⟩

end Go.Proofs.Ytembnjpflllpbaa
