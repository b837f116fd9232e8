/- A variable in a block of its own (captured by a function value), and the bit laws of int. -/
import Derived.Test.YtembnjpflllpbaaBase
import Derived.Laws.BitsAllLaws
import Derived.Laws.BitsLemmas
namespace Go.Proofs.Ytembnjpflllpbaa
open Go.RowKit
set_option linter.unusedVariables false
set_option linter.unusedSimpArgs false

/-- A variable of a whole number (type T) in block b. -/
def VarV (T : TypeId) (w : World) (b : Nat) (v : Value) : Prop := w.heap[b]? = some (.cells #[v] T (0, 0))
theorem VarV.keep {T : TypeId} {w w' : World} {b : Nat} {v : Value} {S : List Nat} (h : VarV T w b v) (hf : Fr S w w') (hb : b ∉ S) : VarV T w' b v := (hf.block b (lt_of_heap h) hb).trans h
theorem VarV.lt {T : TypeId} {w : World} {b : Nat} {v : Value} (h : VarV T w b v) : b < w.heap.size := lt_of_heap h
theorem VarV.cell {T : TypeId} {w : World} {b : Nat} {v : Value} (h : VarV T w b v) : w.cell? ⟨b, 0, none⟩ = some v := by rw [Lib.cell_of_heap h]; rfl
theorem VarV.frozen {T : TypeId} {w : World} {b : Nat} {v : Value} (h : VarV T w b v) (j : Nat) : w.frozen? ⟨b, j, none⟩ = false := Lib.frozen_of_heap h j
theorem VarV.new (T : TypeId) (w : World) (v : Value) {n : Nat} (hn : n = w.heap.size) : VarV T (w.alloc (.cells #[v] T)) n v := by
  subst hn
  exact heap_alloc_new w _
theorem VarV.set {T : TypeId} {w : World} {b : Nat} {v : Value} (h : VarV T w b v) (u : Value) : VarV T (w.setCell ⟨b, 0, none⟩ u) b u := by
  have h' : w.heap[b]? = some (.cells #[v] T (0, 0)) := h
  simp [VarV, World.setCell, Array.getElem?_modify, h']
theorem VarV.drew {T : TypeId} {w : World} {b : Nat} {v : Value} (h : VarV T w b v) : VarV T w.drew b v := h
/-- What is set beside it. -/
theorem VarV.beside {T : TypeId} {w : World} {b : Nat} {v : Value} (h : VarV T w b v) {p : Addr} (hp : p.block ≠ b) (u : Value) : VarV T (w.setCell p u) b v :=
  h.keep (S := [p.block]) ((Fr.refl _ w).setCell (.inl (by simp)) u) (by simp; exact fun e => hp e.symm)

theorem Bd.of_i64 {x : Int} (h0 : -9223372036854775808 ≤ x) (h1 : x ≤ 9223372036854775807) : Bd .i64 x := by
  have e1 : IntKind.i64.min = -9223372036854775808 := by decide
  have e2 : IntKind.i64.max = 9223372036854775807 := by decide
  unfold Bd
  omega
theorem ofInt_i64 (a : Nat) (ha : a < 9223372036854775808) : (BitVec.ofInt 64 (a : Int)).toNat = a := by
  rw [BitVec.ofInt_natCast, BitVec.toNat_ofNat]; exact Nat.mod_eq_of_lt (by omega)
theorem i64_and_nat (a b : Nat) (ha : a < 9223372036854775808) (hb : b < 9223372036854775808) : bits .and .i64 (a : Int) (b : Int) = ((a &&& b : Nat) : Int) := by
  have hx : a &&& b < 2 ^ 63 := Nat.and_lt_two_pow _ (by omega)
  show IntKind.i64.wrap ((BitVec.ofInt 64 (a : Int) &&& BitVec.ofInt 64 (b : Int)).toNat : Int) = _
  rw [BitVec.toNat_and, ofInt_i64 a ha, ofInt_i64 b hb, IntKind.wrap_i64]
  omega
theorem i64_or_nat (a b : Nat) (ha : a < 9223372036854775808) (hb : b < 9223372036854775808) : bits .or .i64 (a : Int) (b : Int) = ((a ||| b : Nat) : Int) := by
  have hx : a ||| b < 2 ^ 63 := Nat.or_lt_two_pow (by omega) (by omega)
  show IntKind.i64.wrap ((BitVec.ofInt 64 (a : Int) ||| BitVec.ofInt 64 (b : Int)).toNat : Int) = _
  rw [BitVec.toNat_or, ofInt_i64 a ha, ofInt_i64 b hb, IntKind.wrap_i64]
  omega
/-- Cut to the lowest k bits. -/
theorem i64_mask (v k : Nat) (hv : v < 9223372036854775808) (hk : k ≤ 62) : bits .and .i64 (v : Int) ((2 ^ k - 1 : Nat) : Int) = ((v % 2 ^ k : Nat) : Int) := by
  have h1 : 2 ^ k ≤ 2 ^ 62 := Nat.pow_le_pow_right (by decide) hk
  rw [i64_and_nat v _ hv (by omega), Nat.and_two_pow_sub_one_eq_mod]

end Go.Proofs.Ytembnjpflllpbaa
