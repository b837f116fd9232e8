/- A row of bytes that '[]byte(s)' has made: read, written at a place, turned back into a text. -/
import Derived.Test.YtbeoegppldjpoaaDoorProg
import Derived.Test.YtbeoegppldjpoaaDoorBytes
import Derived.Test.YtbeoegppldjpoaaDoorRows2
import Derived.Lib.ConvBytes
namespace Go.Proofs.YtbeoegppldjpoaaDoor
open Go.RowKit
set_option linter.unusedVariables false
set_option linter.unusedSimpArgs false
set_option maxRecDepth 100000

/-- Block g holds the bytes t, and more behind them; its mark stands behind all. -/
def BS (w : World) (g cap : Nat) (t : ByteArray) : Prop :=
  ∃ rest : List Value, w.heap[g]? = some (.cells (Lib.strCells t ++ rest).toArray 5 (t.size + rest.length, t.size + rest.length + 1)) ∧ cap = t.size + rest.length
theorem BS.lt {w : World} {g cap : Nat} {t : ByteArray} (h : BS w g cap t) : g < w.heap.size := by obtain ⟨_, h, _⟩ := h; exact lt_of_heap h
theorem BS.keep {w w' : World} {g cap : Nat} {t : ByteArray} {S : List Nat} (h : BS w g cap t) (hf : Fr S w w') (hg : g ∉ S) : BS w' g cap t := by
  obtain ⟨rest, hb, hc⟩ := h
  exact ⟨rest, (hf.block g (lt_of_heap hb) hg).trans hb, hc⟩
theorem BS.drew {w : World} {g cap : Nat} {t : ByteArray} (h : BS w g cap t) : BS w.drew g cap t := h
theorem BS.read {w : World} {g cap : Nat} {t : ByteArray} (h : BS w g cap t) : RdV w (some ⟨g, 0, none⟩) (Lib.strCells t) := by
  obtain ⟨rest, hb, hc⟩ := h
  intro j v hj
  refine ⟨_, rfl, ?_⟩
  rw [Addr.add_lit, Nat.zero_add, Lib.cell_of_heap hb]
  have hlt := (List.getElem?_eq_some_iff.1 hj).1
  rw [List.getElem?_toArray, List.getElem?_append_left hlt]
  exact hj
theorem BS.cell {w : World} {g cap : Nat} {t : ByteArray} (h : BS w g cap t) (j : Nat) (hj : j < t.size) : w.cell? ⟨g, j, none⟩ = some (.int .u8 ((t[j]).toNat : Int)) := by
  obtain ⟨ad, ha, hc⟩ := h.read j (.int .u8 ((t[j]).toNat : Int)) (by
    rw [Lib.strCells, List.getElem?_map, List.getElem?_eq_getElem (by rw [Array.length_toList]; exact hj)]
    rfl)
  injection ha with ha
  subst ha
  rw [Addr.add_lit, Nat.zero_add] at hc
  exact hc
theorem BS.frozen {w : World} {g cap : Nat} {t : ByteArray} (h : BS w g cap t) (j : Nat) (hj : j < t.size) : w.frozen? ⟨g, j, none⟩ = false := by
  obtain ⟨rest, hb, hc⟩ := h
  unfold World.frozen?
  rw [hb]
  simp
  omega
theorem BS.cap {w : World} {g cap : Nat} {t : ByteArray} (h : BS w g cap t) : t.size ≤ cap := by obtain ⟨rest, _, hc⟩ := h; omega
/-- A byte is put at a place. -/
def setB (t : ByteArray) (j : Nat) (c : UInt8) : ByteArray := ⟨t.data.setIfInBounds j c⟩
theorem setB_size (t : ByteArray) (j : Nat) (c : UInt8) : (setB t j c).size = t.size := by
  show (t.data.setIfInBounds j c).size = t.data.size
  simp
theorem setB_cells (t : ByteArray) (j : Nat) (c : UInt8) : Lib.strCells (setB t j c) = (Lib.strCells t).set j (.int .u8 (c.toNat : Int)) := by
  simp [Lib.strCells, setB, List.map_set]
theorem BS.set {w : World} {g cap : Nat} {t : ByteArray} (h : BS w g cap t) (j : Nat) (hj : j < t.size) (c : UInt8) : BS (w.setCell ⟨g, j, none⟩ (.int .u8 (c.toNat : Int))) g cap (setB t j c) := by
  obtain ⟨rest, hb, hc⟩ := h
  refine ⟨rest, ?_, by rw [setB_size]; exact hc⟩
  rw [setB_size, setB_cells]
  have hl : j < (Lib.strCells t).length := by rw [Lib.strCells_length]; exact hj
  have e : ((Lib.strCells t).set j (.int .u8 (c.toNat : Int)) ++ rest).toArray = (Lib.strCells t ++ rest).toArray.setIfInBounds j (.int .u8 (c.toNat : Int)) := by
    rw [List.setIfInBounds_toArray, List.set_append_left _ _ hl]
  rw [e]
  simp [World.setCell, Array.getElem?_modify, hb]
theorem run_toBytes (w : World) (s : ByteArray) : ∃ w' cap, (convert 9 53 (.string s)).run Tryd.prog w = .ok (.slice (some ⟨w.heap.size, 0, none⟩) s.size cap) w' ∧ BS w' w.heap.size cap s ∧ Fr [] w w' := by
  have h := Lib.run_convert_string_bytes (P := Tryd.prog) w 9 53 5 s Tryd.underlying9 Tryd.underlying53 Tryd.underlying5
  have hge := grownCap_ge w s.size 0 5
  have hsz : (Lib.bytesCells w 5 s).size = grownCap w s.size 0 5 := by
    unfold Lib.bytesCells
    rw [Array.size_append, Array.size_map, Array.size_replicate]
    show s.size + _ = _
    omega
  refine ⟨_, _, h, ⟨List.replicate (grownCap w s.size 0 5 - s.size) (.int .u8 0), ?_, by rw [List.length_replicate]; omega⟩, ?_⟩
  · rw [Lib.bytesWorld_at_new, hsz, List.length_replicate, show s.size + (grownCap w s.size 0 5 - s.size) = grownCap w s.size 0 5 from by omega]
    congr 2
    apply Array.toList_inj.1
    simp [Lib.bytesCells, Lib.strCells]
  · have hsz2 := Lib.bytesWorld_size w 5 s
    exact ⟨rfl, rfl, rfl, by omega, fun k hk _ => Lib.bytesWorld_at_old w _ s k hk⟩
theorem run_bsString {w : World} {g cap : Nat} {t : ByteArray} (h : BS w g cap t) {n c : Nat} (hn : n = t.size) : (convert 53 9 (.slice (some ⟨g, 0, none⟩) n c)).run Tryd.prog w = .ok (.string t) w :=
  run_toString Tryd.underlying53 Tryd.underlying5 Tryd.underlying9 hn h.read (by rintro ad ⟨⟩; rfl)
theorem run_bsCut {w : World} {g cap : Nat} {t : ByteArray} (h : BS w g cap t) {n c : Nat} (hn : n ≤ t.size) : (convert 53 9 (.slice (some ⟨g, 0, none⟩) n c)).run Tryd.prog w = .ok (.string (t.extract 0 n)) w := by
  refine run_toString Tryd.underlying53 Tryd.underlying5 Tryd.underlying9 (by rw [ByteArray.size_extract]; omega) ?_ (by rintro ad ⟨⟩; rfl)
  intro j v hj
  rw [strCells_cut, List.drop_zero, List.getElem?_take] at hj
  split at hj
  · exact h.read j v hj
  · simp at hj

end Go.Proofs.YtbeoegppldjpoaaDoor
