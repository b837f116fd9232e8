/- Contracts of pack's reader: Good, Rest, End, take and number. -/
import Derived.Test.YtbeoegppldjpoaaDoorProg
import Derived.Test.YtbeoegppldjpoaaDoorRows2
import Derived.Test.YtbeoegppldjpoaaDoorPackPure3
import Derived.Laws.Bits64b
namespace Go.Proofs.YtbeoegppldjpoaaDoor
open Go.RowKit
set_option linter.unusedVariables false
set_option linter.unusedSimpArgs false

/-- A reader in block b (type T): what is left; none: nothing is good any more. -/
def RS (T : TypeId) (w : World) (b : Nat) (st : Option ByteArray) : Prop :=
  w.heap[b]? = some (.cells #[.string (st.getD ⟨#[]⟩), .bool st.isNone] T (0, 0))
theorem RS.keep {T : TypeId} {w w' : World} {b : Nat} {st : Option ByteArray} {S : List Nat} (h : RS T w b st) (hf : Fr S w w') (hb : b ∉ S) : RS T w' b st := (hf.block b (lt_of_heap h) hb).trans h
theorem RS.lt {T : TypeId} {w : World} {b : Nat} {st : Option ByteArray} (h : RS T w b st) : b < w.heap.size := lt_of_heap h
theorem RS.cell0 {T : TypeId} {w : World} {b : Nat} {st : Option ByteArray} (h : RS T w b st) : w.cell? ⟨b, 0, none⟩ = some (.string (st.getD ⟨#[]⟩)) := by rw [Lib.cell_of_heap h]; rfl
theorem RS.cell1 {T : TypeId} {w : World} {b : Nat} {st : Option ByteArray} (h : RS T w b st) : w.cell? ⟨b, 1, none⟩ = some (.bool st.isNone) := by rw [Lib.cell_of_heap h]; rfl
theorem RS.frozen {T : TypeId} {w : World} {b : Nat} {st : Option ByteArray} (h : RS T w b st) (j : Nat) : w.frozen? ⟨b, j, none⟩ = false := Lib.frozen_of_heap h j
theorem RS.new (T : TypeId) (w : World) (s : ByteArray) {n : Nat} (hn : n = w.heap.size) : RS T (w.alloc (.cells #[.string s, .bool false] T)) n (some s) := by
  subst hn
  exact heap_alloc_new w _
/-- The text is cut. -/
theorem RS.put {T : TypeId} {w : World} {b : Nat} {s : ByteArray} (h : RS T w b (some s)) (t : ByteArray) : RS T (w.setCell ⟨b, 0, none⟩ (.string t)) b (some t) := by
  have h' : w.heap[b]? = some (.cells #[.string s, .bool false] T (0, 0)) := h
  simp [RS, World.setCell, Array.getElem?_modify, h']
/-- All is over. -/
theorem RS.fail {T : TypeId} {w : World} {b : Nat} {st : Option ByteArray} (h : RS T w b st) : RS T ((w.setCell ⟨b, 0, none⟩ (.string ⟨#[]⟩)).setCell ⟨b, 1, none⟩ (.bool true)) b none := by
  have h' : w.heap[b]? = some (.cells #[.string (st.getD ⟨#[]⟩), .bool st.isNone] T (0, 0)) := h
  simp [RS, World.setCell, Array.getElem?_modify, h']

/-- Was all read, and nothing is left? -/
def pEnd (st : Option ByteArray) : Bool := match st with
  | none => false
  | some s => s.size == 0
/-- So many bytes, if they may be taken. -/
def pTake (st : Option ByteArray) (n : Nat) (may : Bool) : (ByteArray × Bool) × Option ByteArray := match st with
  | none => ((⟨#[]⟩, false), none)
  | some s => if may = false ∨ s.size < n then ((⟨#[]⟩, false), none) else ((s.extract 0 n, true), some (rest s n))
/-- What 'number' hands back. -/
def NumOK (s : ByteArray) (e : Ending) : Prop :=
  ∃ (n : Nat) (k : Nat), e = .returned (.tuple #[.int .u64 n, .int .i64 k]) ∧ n < 18446744073709551616 ∧ k ≤ 10 ∧ k ≤ s.size ∧ ((numAt 0 0 s.data.toList = none ∧ k = 0) ∨ (numAt 0 0 s.data.toList = some (n, k) ∧ 0 < k))

theorem or_step {acc i c : Nat} (ha : acc < 128 ^ i) (h10 : i < 10) (hc : c < 256) (h9 : i = 9 → c ≤ 1) :
    bits BinOp.or IntKind.u64 (acc : Int) (IntKind.u64.wrap (IntKind.u64.wrap (bits BinOp.and IntKind.u8 (c : Int) 127) * 2 ^ (7 * i))) = ((acc + c % 128 * 128 ^ i : Nat) : Int) ∧ acc + c % 128 * 128 ^ i < 18446744073709551616 ∧ acc + c % 128 * 128 ^ i < 128 ^ (i + 1) := by
  have e0 : (2 : Nat) ^ (7 * i) = 128 ^ i := by rw [Nat.pow_mul]
  have e1 : bits BinOp.and IntKind.u8 (c : Int) 127 = ((c % 128 : Nat) : Int) := by
    rw [u8_and (c : Int) 127 (by omega) (by omega) (by omega) (by omega)]
    rw [show (127 : Int).toNat = 127 from rfl, nat_mask7, Int.toNat_natCast]
  have hlt : acc + c % 128 * 128 ^ i < 128 ^ (i + 1) := by
    have : c % 128 * 128 ^ i + 128 ^ i ≤ 128 * 128 ^ i := by
      rw [← Nat.succ_mul]
      exact Nat.mul_le_mul_right _ (Nat.mod_lt _ (by decide))
    rw [Nat.pow_succ, Nat.mul_comm _ 128]
    omega
  have h64 : (18446744073709551616 : Nat) = 2 * 128 ^ 9 := by decide
  have hlt2 : acc + c % 128 * 128 ^ i < 18446744073709551616 := by
    rcases Nat.lt_or_ge i 9 with h | h
    · have : 128 ^ (i + 1) ≤ 128 ^ 9 := Nat.pow_le_pow_right (by decide) (by omega)
      omega
    · have hi : i = 9 := by omega
      subst hi
      have h1 := h9 rfl
      have h2 : c % 128 * 128 ^ 9 ≤ 1 * 128 ^ 9 := Nat.mul_le_mul_right _ (by omega)
      omega
  refine ⟨?_, hlt2, hlt⟩
  rw [e1]
  have e2 : IntKind.u64.wrap ((c % 128 : Nat) : Int) = ((c % 128 : Nat) : Int) := by rw [IntKind.wrap_u64]; omega
  rw [e2]
  have e3 : ((c % 128 : Nat) : Int) * 2 ^ (7 * i) = ((c % 128 * 128 ^ i : Nat) : Int) := by
    rw [Int.natCast_mul, ← e0, Int.natCast_pow]
    rfl
  rw [e3]
  have e4 : IntKind.u64.wrap ((c % 128 * 128 ^ i : Nat) : Int) = ((c % 128 * 128 ^ i : Nat) : Int) := by rw [IntKind.wrap_u64]; omega
  rw [e4, u64_or_nat _ _ (by omega) (by omega)]
  congr 1
  rw [Nat.or_comm, nat_join (7 * i) _ _ (by rw [e0]; exact Nat.mul_mod_left _ _) (by rw [e0]; exact ha), Nat.add_comm]

end Go.Proofs.YtbeoegppldjpoaaDoor
