/- Arrays of numbers of 32 bits in blocks of their own. -/
import Derived.Test.YtlcfambhjclkiaaBld
import Derived.Laws.Tables
import Derived.Laws.Rows
import Derived.Great.BuildSlice
import Derived.Great.Walk
import Derived.Great.Ranges
namespace Go.Proofs.Ytlcfambhjclkiaa
open Go.RowKit
set_option linter.unusedVariables false
set_option linter.unusedSimpArgs false

/-- The values of numbers. -/
def uCells (l : List Nat) : Array Value := (l.map fun x : Nat => Value.int .u32 (x : Int)).toArray
theorem uCells_size (l : List Nat) : (uCells l).size = l.length := by simp [uCells]
theorem uCells_one (l : List Nat) : (uCells l).all (·.oneCell') = true := by
  rw [Array.all_eq_true]
  intro i hi
  simp [uCells, Value.oneCell']
theorem uCells_get (l : List Nat) {k : Nat} (hk : k < l.length) : (uCells l)[k]? = some (.int .u32 ((l.getD k 0 : Nat) : Int)) := by
  simp [uCells, List.getD_eq_getElem?_getD, List.getElem?_eq_getElem hk]
/-- They lie in block g (type T), alone. -/
def UA (T : TypeId) (w : World) (g : Nat) (l : List Nat) : Prop := w.heap[g]? = some (.cells (uCells l) T (0, 0))
theorem UA.keep {T : TypeId} {w w' : World} {g : Nat} {l : List Nat} {S : List Nat} (h : UA T w g l) (hf : Fr S w w') (hg : g ∉ S) : UA T w' g l := (hf.block g (lt_of_heap h) hg).trans h
theorem UA.lt {T : TypeId} {w : World} {g : Nat} {l : List Nat} (h : UA T w g l) : g < w.heap.size := lt_of_heap h
theorem UA.drewN {T : TypeId} {w : World} {g : Nat} {l : List Nat} (h : UA T w g l) (n : Nat) : UA T (w.drewN n) g l := h
theorem UA.cell {T : TypeId} {w : World} {g : Nat} {l : List Nat} (h : UA T w g l) (k : Nat) (hk : k < l.length) : w.cell? ⟨g, k, none⟩ = some (.int .u32 ((l.getD k 0 : Nat) : Int)) := by
  rw [Lib.cell_of_heap h]
  exact uCells_get l hk
theorem UA.frozen {T : TypeId} {w : World} {g : Nat} {l : List Nat} (h : UA T w g l) (k : Nat) : w.frozen? ⟨g, k, none⟩ = false := Lib.frozen_of_heap h k
theorem UA.new (T : TypeId) (w : World) (l : List Nat) {n : Nat} (hn : n = w.heap.size) : UA T (w.alloc (.cells (uCells l) T)) n l := by
  subst hn
  exact heap_alloc_new w _
theorem UA.set {T : TypeId} {w : World} {g : Nat} {l : List Nat} (h : UA T w g l) (k v : Nat) : UA T (w.setCell ⟨g, k, none⟩ (.int .u32 (v : Int))) g (l.set k v) := by
  have h' : w.heap[g]? = some (.cells (uCells l) T (0, 0)) := h
  have e : uCells (l.set k v) = (uCells l).setIfInBounds k (.int .u32 (v : Int)) := by
    apply Array.ext'
    simp [uCells, List.map_set]
  simp [UA, World.setCell, Array.getElem?_modify, h', e, Array.set!]
theorem UA.row {T : TypeId} {w : World} {g : Nat} {l : List Nat} (h : UA T w g l) (m : List Nat) : UA T (w.setRow g (uCells m)) g m := setRow_heap w g _ _ T _ h

end Go.Proofs.Ytlcfambhjclkiaa
