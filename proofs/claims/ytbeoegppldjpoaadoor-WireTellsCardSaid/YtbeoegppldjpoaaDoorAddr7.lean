/- Addresses: the contracts of Mask and Split. -/
import Derived.Test.YtbeoegppldjpoaaDoorAddr5
import Derived.Test.YtbeoegppldjpoaaDoorAddrQ
import Derived.Test.YtbeoegppldjpoaaDoorMild3
namespace Go.Proofs.YtbeoegppldjpoaaDoor
open Go.RowKit Go.Lib
set_option linter.unusedVariables false
set_option linter.unusedSimpArgs false
attribute [local go_sem] mildAt mildUpon

theorem bL_of {s : ByteArray} {l : List UInt8} (h : s.data.toList = l) : s = bL l := by rw [← h, bL_list]
theorem ext_take (s : ByteArray) (k : Nat) : (s.extract 0 k).data.toList = s.data.toList.take k := by
  rw [ByteArray.data_extract, Array.toList_extract, List.extract_eq_take_drop, List.drop_zero, Nat.sub_zero]
theorem ext_drop (s : ByteArray) (k : Nat) : (s.extract k s.size).data.toList = s.data.toList.drop k := by
  rw [ByteArray.data_extract, Array.toList_extract, List.extract_eq_take_drop]
  exact List.take_of_length_le (by rw [List.length_drop, len_size]; omega)
end Go.Proofs.YtbeoegppldjpoaaDoor
