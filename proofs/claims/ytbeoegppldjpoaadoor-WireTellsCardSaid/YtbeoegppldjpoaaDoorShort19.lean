/- The contract of 'short' of the statements of layer 19: a text of at most so many bytes. -/
import Derived.Test.YtbeoegppldjpoaaDoorProg
import Derived.Test.YtbeoegppldjpoaaDoorRows2
namespace Go.Proofs.YtbeoegppldjpoaaDoor
open Go.RowKit
set_option linter.unusedVariables false
set_option linter.unusedSimpArgs false

set_option maxHeartbeats 400000 in
set_option maxRecDepth 100000 in
theorem short19_calls (s : ByteArray) (n : Int) (m : Nat) (hn : n = m) (w : World) (hs : s.size ≤ 9223372036854775807) (h1 : m ≤ 9223372036854775807) :
    Calls Tryd.prog 10 #[.string s, .int .i64 n] w fun e w' => e = .returned (.string (shortB s m)) ∧ w = w' := by
  subst hn
  by_cases h : s.size > m
  · have e : shortB s m = s.extract 0 m := if_pos h
    rw [e]
    clear e
    go_enter Tryd.func10, Tryd.ntmps10
    go_wp2
    go_ret
    exact ⟨rfl, rfl⟩
  · have e : shortB s m = s := if_neg h
    rw [e]
    clear e
    go_enter Tryd.func10, Tryd.ntmps10
    go_wp2
    go_ret
    exact ⟨rfl, rfl⟩

end Go.Proofs.YtbeoegppldjpoaaDoor
