/- The law WireFits: for any request and reply the Go function returns true (its walk). -/
import Derived.Test.YtbeoegppldjpoaaDoorWireMade2
import Derived.Test.YtbeoegppldjpoaaDoorWireAwake
import Derived.Test.YtbeoegppldjpoaaDoorWireRead2
import Derived.Test.YtbeoegppldjpoaaDoorWireIn
import Derived.Deep.Cut
import Derived.Deep.RegionHeld3
import Derived.Laws.BitsAllLaws
namespace Go.Proofs.YtbeoegppldjpoaaDoor
open Go.RowKit
set_option linter.unusedVariables false
set_option linter.unusedSimpArgs false

theorem i64_and63 (n : Int) : bits .and .i64 n 63 = n % 64 := by
  have h127 : (BitVec.ofInt 64 63).toNat = 2 ^ 6 - 1 := by decide
  have key : (BitVec.ofInt 64 n &&& BitVec.ofInt 64 63).toNat = (n % ((2 ^ 64 : Nat) : Int)).toNat % 2 ^ 6 := by
    rw [BitVec.toNat_and, BitVec.toNat_ofInt, h127, Nat.and_two_pow_sub_one_eq_mod]
  show IntKind.i64.wrap ((BitVec.ofInt 64 n &&& BitVec.ofInt 64 63).toNat : Nat) = n % 64
  rw [key, IntKind.wrap_i64]
  omega
theorem rqLess_short (r : Rq) : (rqLess r).short 1000 := ⟨Nat.le_trans (shortB_size _ _) (by decide), Nat.le_trans (shortB_size _ _) (by decide), Nat.le_trans (shortB_size _ _) (by decide), Nat.le_trans (shortB_size _ _) (by decide), Nat.le_trans (shortB_size _ _) (by decide)⟩
/-- The request that the statements make of any: less, then made. -/
theorem xmade_calls (k pu : Int) (so ma ot se pa : ByteArray) (hs : (Rq.mk k pu so ma ot se pa).short 9223372036854775807) :
    ∃ (xk xpu : Nat) (y0 y1 y2 y3 y4 : ByteArray) (l0 l1 l2 l3 l4 : ByteArray) (lk lpu : Int), (Rq.mk xk xpu y0 y1 y2 y3 y4).ok = true ∧ rqMade (rqLess ⟨k, pu, so, ma, ot, se, pa⟩) = ⟨xk, xpu, y0, y1, y2, y3, y4⟩ ∧
      (∀ W, Calls Tryd.prog 7 #[.agg #[.int .i64 k, .int .i64 pu, .string so, .string ma, .string ot, .string se, .string pa]] W fun e w' => e = .returned (.agg #[.int .i64 lk, .int .i64 lpu, .string l0, .string l1, .string l2, .string l3, .string l4]) ∧ Fr [] W w') ∧
      (∀ W, Calls Tryd.prog 6 #[.agg #[.int .i64 lk, .int .i64 lpu, .string l0, .string l1, .string l2, .string l3, .string l4]] W fun e w' => e = .returned (.agg #[.int .i64 xk, .int .i64 xpu, .string y0, .string y1, .string y2, .string y3, .string y4]) ∧ Fr [] W w') := by
  have h1 := fun W => less_calls W k pu so ma ot se pa hs
  have h2 := rqLess_short ⟨k, pu, so, ma, ot, se, pa⟩
  generalize rqLess ⟨k, pu, so, ma, ot, se, pa⟩ = l at *
  obtain ⟨lk, lpu, l0, l1, l2, l3, l4⟩ := l
  have h3 := fun W => made_calls W lk lpu l0 l1 l2 l3 l4 h2
  have hok := rqMade_ok ⟨lk, lpu, l0, l1, l2, l3, l4⟩
  generalize rqMade ⟨lk, lpu, l0, l1, l2, l3, l4⟩ = x at *
  obtain ⟨xk, xpu, y0, y1, y2, y3, y4⟩ := x
  have hi := Rq.ok_iff hok
  simp only at hi
  obtain ⟨xk, rfl⟩ := Int.eq_ofNat_of_zero_le (show 0 ≤ xk by omega)
  obtain ⟨xpu, rfl⟩ := Int.eq_ofNat_of_zero_le (show 0 ≤ xpu by omega)
  exact ⟨xk, xpu, y0, y1, y2, y3, y4, l0, l1, l2, l3, l4, lk, lpu, hok, rfl, h1, h3⟩

end Go.Proofs.YtbeoegppldjpoaaDoor
