/- The contracts of the document's layer 15: Check. -/
import Derived.Test.YtngonnnjehlfbaaEvent2
import Derived.Test.YtngonnnjehlfbaaRef03W
import Derived.Deep.RegionHeld3
namespace Go.Proofs.Ytngonnnjehlfbaa
open Go.RowKit
set_option linter.unusedVariables false
set_option linter.unusedSimpArgs false

set_option maxHeartbeats 4000000 in
set_option maxRecDepth 100000 in
theorem RCheck_calls (w : World) (k ac pu at' n : Int) (sa sb sc : ByteArray) (hs : (Ev.mk k ac pu at' n sa sb sc).short 140737488351232) :
    Calls Try.prog 32 #[.agg #[.int .i64 k, .int .i64 ac, .int .i64 pu, .int .i64 at', .int .i64 n, .string sa, .string sb, .string sc]] w fun x w' => x = .returned (.bool (Ev.mk k ac pu at' n sa sb sc).ok) ∧ Fr [] w w' := by
  obtain ⟨hs0, hs1, hs2⟩ := hs
  simp only at hs0 hs1 hs2
  have ea : decide (sa.size ≤ 100) = decide ((sa.size : Int) ≤ 100) := by congr 1; exact propext (by omega)
  have eb : decide (sb.size ≤ 100) = decide ((sb.size : Int) ≤ 100) := by congr 1; exact propext (by omega)
  have ec : decide (sc.size ≤ 100) = decide ((sc.size : Int) ≤ 100) := by congr 1; exact propext (by omega)
  unfold Ev.ok Ev.nums
  simp only
  rw [ea, eb, ec]
  clear ea eb ec
  generalize hd0 : decide (1 ≤ k) = b0
  generalize hd1 : decide (k ≤ 21) = b1
  generalize hd2 : decide (0 ≤ ac) = b2
  generalize hd3 : decide (ac ≤ 99) = b3
  generalize hd4 : decide (0 ≤ pu) = b4
  generalize hd5 : decide (pu ≤ 9) = b5
  generalize hd6 : decide (0 ≤ at') = b6
  generalize hd7 : decide (at' ≤ 1099511627776) = b7
  generalize hd8 : decide (0 ≤ n) = b8
  generalize hd9 : decide (n ≤ 1099511627776) = b9
  generalize hd10 : decide ((sa.size : Int) ≤ 100) = b10
  generalize hd11 : decide ((sb.size : Int) ≤ 100) = b11
  generalize hd12 : decide ((sc.size : Int) ≤ 100) = b12
  cases b0 with
  | false =>
    go_enter Try.func32, Try.ntmps32
    go_wp2_with fail
    go_ret
    exact ⟨by simp, (Fr.refl _ _).alloc _⟩
  | true =>
    cases b1 with
    | false =>
      go_enter Try.func32, Try.ntmps32
      go_wp2_with fail
      go_ret
      exact ⟨by simp, (Fr.refl _ _).alloc _⟩
    | true =>
      cases b2 with
      | false =>
        go_enter Try.func32, Try.ntmps32
        go_wp2_with fail
        go_ret
        exact ⟨by simp, (Fr.refl _ _).alloc _⟩
      | true =>
        cases b3 with
        | false =>
          go_enter Try.func32, Try.ntmps32
          go_wp2_with fail
          go_ret
          exact ⟨by simp, (Fr.refl _ _).alloc _⟩
        | true =>
          cases b4 with
          | false =>
            go_enter Try.func32, Try.ntmps32
            go_wp2_with fail
            go_ret
            exact ⟨by simp, (Fr.refl _ _).alloc _⟩
          | true =>
            cases b5 with
            | false =>
              go_enter Try.func32, Try.ntmps32
              go_wp2_with fail
              go_ret
              exact ⟨by simp, (Fr.refl _ _).alloc _⟩
            | true =>
              cases b6 with
              | false =>
                go_enter Try.func32, Try.ntmps32
                go_wp2_with fail
                go_ret
                exact ⟨by simp, (Fr.refl _ _).alloc _⟩
              | true =>
                cases b7 with
                | false =>
                  go_enter Try.func32, Try.ntmps32
                  go_wp2_with fail
                  go_ret
                  exact ⟨by simp, (Fr.refl _ _).alloc _⟩
                | true =>
                  cases b8 with
                  | false =>
                    go_enter Try.func32, Try.ntmps32
                    go_wp2_with fail
                    go_ret
                    exact ⟨by simp, (Fr.refl _ _).alloc _⟩
                  | true =>
                    cases b9 with
                    | false =>
                      go_enter Try.func32, Try.ntmps32
                      go_wp2_with fail
                      go_ret
                      exact ⟨by simp, (Fr.refl _ _).alloc _⟩
                    | true =>
                      cases b10 with
                      | false =>
                        go_enter Try.func32, Try.ntmps32
                        go_wp2_with fail
                        go_ret
                        exact ⟨by simp, (Fr.refl _ _).alloc _⟩
                      | true =>
                        cases b11 with
                        | false =>
                          go_enter Try.func32, Try.ntmps32
                          go_wp2_with fail
                          go_ret
                          exact ⟨by simp, (Fr.refl _ _).alloc _⟩
                        | true =>
                          cases b12 with
                          | false =>
                            go_enter Try.func32, Try.ntmps32
                            go_wp2_with fail
                            go_ret
                            exact ⟨by simp, (Fr.refl _ _).alloc _⟩
                          | true =>
                            go_enter Try.func32, Try.ntmps32
                            go_wp2_with fail
                            go_ret
                            exact ⟨rfl, (Fr.refl _ _).alloc _⟩

end Go.Proofs.Ytngonnnjehlfbaa
