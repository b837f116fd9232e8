/- Rows of bytes in a block of their own, byte by byte. -/
import Derived.Test.YtbfpfmnkmpcgpaaDoorZeros
import Derived.Test.YtbfpfmnkmpcgpaaDoorClean
namespace Go.Proofs.YtbfpfmnkmpcgpaaDoor
open Go.RowKit
set_option linter.unusedVariables false
set_option linter.unusedSimpArgs false

theorem strCells_setL (l : List UInt8) (i : Nat) (d : UInt8) : (Lib.strCells (bL l)).set i (.int .u8 (d.toNat : Int)) = Lib.strCells (bL (l.set i d)) := by
  simp [Lib.strCells, bL, List.map_set]
theorem BB.setL {T : TypeId} {w : World} {g : Nat} {l : List UInt8} (h : BB T w g (bL l)) (i : Nat) (d : UInt8) : BB T (w.setCell ⟨g, i, none⟩ (.int .u8 (d.toNat : Int))) g (bL (l.set i d)) := by
  have h' : w.heap[g]? = some (.cells (Lib.strCells (bL l)).toArray T (0, 0)) := h
  have e : (Lib.strCells (bL (l.set i d))).toArray = (Lib.strCells (bL l)).toArray.setIfInBounds i (.int .u8 (d.toNat : Int)) := by
    rw [← strCells_setL]; simp
  simp [BB, World.setCell, Array.getElem?_modify, h', e, Array.set!]
theorem BB.cellL {T : TypeId} {w : World} {g : Nat} {l : List UInt8} (h : BB T w g (bL l)) {i : Nat} {x : UInt8} (hx : l[i]? = some x) : w.cell? ⟨g, i, none⟩ = some (.int .u8 (x.toNat : Int)) := by
  have h' : w.heap[g]? = some (.cells (Lib.strCells (bL l)).toArray T (0, 0)) := h
  rw [Lib.cell_of_heap h']
  simp [Lib.strCells, bL, hx]
theorem BB.frozenL {T : TypeId} {w : World} {g : Nat} {t : ByteArray} (h : BB T w g t) (i : Nat) : w.frozen? ⟨g, i, none⟩ = false := Lib.frozen_of_heap h i
theorem zerosB_bL (n : Nat) : zerosB n = bL (List.replicate n 0) := by
  apply ByteArray.ext
  apply Array.ext'
  simp [zerosB, bL]
/-- The first i bytes are there, the others are 0. -/
def fillL (l : List UInt8) (n i : Nat) : List UInt8 := l.take i ++ List.replicate (n - i) 0
theorem fillL_zero (l : List UInt8) (n : Nat) : fillL l n 0 = List.replicate n 0 := by simp [fillL]
theorem fillL_all (l : List UInt8) (n : Nat) (hl : l.length = n) : fillL l n n = l := by
  rw [fillL, List.take_of_length_le (by omega), Nat.sub_self]; simp
theorem fillL_get (l : List UInt8) (n i : Nat) (hl : l.length = n) (hi : i < n) : (fillL l n i)[i]? = some 0 := by
  have h1 : (l.take i).length = i := by rw [List.length_take]; omega
  rw [fillL, List.getElem?_append_right (by omega), h1, Nat.sub_self, List.getElem?_replicate, if_pos (by omega)]
theorem fillL_set (l : List UInt8) (n i : Nat) (hl : l.length = n) (hi : i < n) : (fillL l n i).set i (l[i]'(by omega)) = fillL l n (i + 1) := by
  have h1 : (l.take i).length = i := by rw [List.length_take]; omega
  rw [fillL, fillL, List.set_append_right _ _ (by omega), h1, Nat.sub_self, show n - i = (n - (i + 1)) + 1 from by omega, List.replicate_succ, List.set_cons_zero, show List.take (i + 1) l = List.take i l ++ [l[i]'(by omega)] from List.take_succ_eq_append_getElem (by omega), List.append_assoc]
  rfl
theorem fillL_len (l : List UInt8) (n i : Nat) (hl : l.length = n) (hi : i ≤ n) : (fillL l n i).length = n := by
  rw [fillL, List.length_append, List.length_take, List.length_replicate]; omega
/-- A row of bytes, made since the world w0. -/
structure BBN (w0 w : World) (g : Nat) (l : List UInt8) : Prop where
  bb : BB 5 w g (bL l)
  fr : Fr [] w0 w
  new : w0.heap.size ≤ g
theorem BBN.set {w0 w : World} {g : Nat} {l : List UInt8} (h : BBN w0 w g l) (i : Nat) (d : UInt8) : BBN w0 (w.setCell ⟨g, i, none⟩ (.int .u8 (d.toNat : Int))) g (l.set i d) :=
  ⟨h.bb.setL i d, h.fr.trans (S' := [g]) ((Fr.refl _ _).setCell (.inl (by simp)) _) (fun i hi => .inr (by simp at hi; have := h.new; omega)), h.new⟩
theorem BBN.make {w0 w : World} (hf : Fr [] w0 w) (n : Nat) : BBN w0 (w.alloc (.cells (Lib.strCells (zerosB n)).toArray 5)) w.heap.size (List.replicate n 0) :=
  ⟨by rw [← zerosB_bL]; exact heap_alloc_new _ _, hf.alloc _, hf.size⟩
theorem BBN.text {w0 w : World} {g : Nat} {l : List UInt8} (h : BBN w0 w g l) {n c : Nat} (hn : n = l.length) : (convert 34 9 (.slice (some ⟨g, 0, none⟩) n c)).run Tryd.prog w = .ok (.string (bL l)) w := by
  refine run_toString Tryd.underlying34 Tryd.underlying5 Tryd.underlying9 (by rw [hn, bL_size]) ?_ (by rintro ad ⟨⟩; rfl)
  have := h.bb.read 0 (bL l).size
  rw [show (bL l).extract 0 (bL l).size = bL l from ByteArray.extract_zero_size] at this
  exact this
end Go.Proofs.YtbfpfmnkmpcgpaaDoor
