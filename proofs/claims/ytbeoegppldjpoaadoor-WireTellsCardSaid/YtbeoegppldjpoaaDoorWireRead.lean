/- The contracts of wire.Read and wire.ReadReply: what is read. -/
import Derived.Test.YtbeoegppldjpoaaDoorWireBytes2
namespace Go.Proofs.YtbeoegppldjpoaaDoor
open Go.RowKit
set_option linter.unusedVariables false
set_option linter.unusedSimpArgs false

theorem infoRq : (Tryd.prog.info? 23).map (·.size) = some 7 := by kernel_rfl
theorem infoRp : (Tryd.prog.info? 32).map (·.size) = some 2 := by kernel_rfl
theorem i64_small {n : Nat} (h : n ≤ 99) : IntKind.i64.wrap (n : Int) = (n : Int) := by rw [IntKind.wrap_i64]; omega
theorem setRow_fr2 {w W : World} (b : Nat) (vs : Array Value) (h : Fr [] w W) (hb : w.heap.size ≤ b) : Fr [] w (W.setRow b vs) := setRow_fr' b vs h (.inr hb)
theorem RS.set {T : TypeId} {wi : World} {b E j : Nat} {v : Value} {st : Option ByteArray} (h : RS T wi b st) (hE : b ≠ E) : RS T (wi.setCell ⟨E, j, none⟩ v) b st :=
  h.keep ((Fr.refl [E] wi).setCell (.inl (by simp)) v) (by simpa using hE)
theorem blk_other {w : World} {b E j : Nat} {v : Value} {o : Obj} (h : w.heap[b]? = some o) (hE : b ≠ E) : (w.setCell ⟨E, j, none⟩ v).heap[b]? = some o :=
  blk_keep h ((Fr.refl [E] w).setCell (.inl (by simp)) v) (by simpa using hE)

end Go.Proofs.YtbeoegppldjpoaaDoor
