/- Rows of bytes 0, made by 'make'. -/
import Derived.Test.YtembnjpflllpbaaProg
import Derived.Test.YtembnjpflllpbaaBytes
import Derived.Laws.MakeOwn
namespace Go.Proofs.Ytembnjpflllpbaa
open Go.RowKit
set_option linter.unusedVariables false
set_option linter.unusedSimpArgs false

theorem infoU8 : (Try.prog.info? 5).map (fun i => (i.zero, i.size, i.bytes)) = some (some (.int .u8 0), 1, 1) := by kernel_rfl
theorem sizeU8 : (Try.prog.info? 5).map (·.size) = some 1 := by kernel_rfl

def zerosB (n : Nat) : ByteArray := ⟨Array.replicate n 0⟩
theorem zerosB_size (n : Nat) : (zerosB n).size = n := by show (Array.replicate n (0 : UInt8)).size = n; simp
theorem zerosB_cells (n : Nat) : (Lib.strCells (zerosB n)).toArray = madeCells (Value.cells (.int .u8 0)) n := by
  apply Array.ext'
  simp [Lib.strCells, zerosB, madeCells, Value.cells]
  apply List.ext_getElem
  · simp
  · intro i h1 h2
    simp [Nat.mod_one]
theorem run_zeros (W : World) (m : Nat) {mi : Int} (hmi : mi = m) (hm : m ≤ 1000000) : (Instr.makeSlice 51 (.int .i64 mi) (.int .i64 mi)).run Try.prog W = .ok (.slice (some ⟨W.heap.size, 0, none⟩) m m) (W.alloc (.cells (Lib.strCells (zerosB m)).toArray 5)) := by
  subst hmi
  obtain ⟨i, hi, hz, hs, hb⟩ := info_parts infoU8
  have h := run_make (P := Try.prog) W 51 5 i _ Try.underlying51 hi hz .i64 .i64 (m : Int) (m : Int) (by omega) (Int.le_refl _) (by rw [hb]; omega) (by omega)
  rw [h, hs, Int.toNat_natCast, Nat.mul_one, zerosB_cells]


end Go.Proofs.Ytembnjpflllpbaa
