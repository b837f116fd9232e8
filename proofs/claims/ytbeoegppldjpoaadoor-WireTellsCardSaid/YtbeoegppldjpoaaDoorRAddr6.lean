/- Addresses: the document's Phone (printed by wip/genrphone.py). -/
import Derived.Test.YtbeoegppldjpoaaDoorRAddr5
import Derived.Test.YtbeoegppldjpoaaDoorRows2
namespace Go.Proofs.YtbeoegppldjpoaaDoor
open Go.RowKit Go.Lib
set_option linter.unusedVariables false
set_option linter.unusedSimpArgs false

theorem take_nxt (s : ByteArray) (k : Nat) (h : k < s.size) : s.data.toList.take (k + 1) = s.data.toList.take k ++ [s[k]] := by
  rw [List.take_succ_eq_append_getElem (by rw [len_size]; exact h)]
  rfl
theorem strCells_snoc (l : List UInt8) (c : UInt8) : Lib.strCells (bL l) ++ [.int .u8 (c.toNat : Int)] = Lib.strCells (bL (l ++ [c])) := by
  unfold Lib.strCells bL
  simp
theorem phoneOf_keep (l : List UInt8) (c : UInt8) (h : besN c.toNat = false) : phoneOf (l ++ [c]) = phoneOf l ++ [c] := by
  unfold phoneOf
  rw [List.filter_append]
  simp [h]
theorem phoneOf_skip (l : List UInt8) (c : UInt8) (h : besN c.toNat = true) : phoneOf (l ++ [c]) = phoneOf l := by
  unfold phoneOf
  rw [List.filter_append]
  simp [h]
theorem phoneOf_len (l : List UInt8) : (phoneOf l).length ≤ l.length := List.length_filter_le _ _

end Go.Proofs.YtbeoegppldjpoaaDoor
