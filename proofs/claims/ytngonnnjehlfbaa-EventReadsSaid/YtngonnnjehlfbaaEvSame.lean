/- The contract of 'Same' of the document's layer 15, at two rows that are the same. -/
import Derived.Test.YtngonnnjehlfbaaEvRow
import Derived.BigQuiet
namespace Go.Proofs.Ytngonnnjehlfbaa
open Go.RowKit
set_option linter.unusedVariables false
set_option linter.unusedSimpArgs false

set_option maxHeartbeats 4000000 in
set_option maxRecDepth 100000 in
theorem Same15_calls (w : World) (A B : Option Addr) (c d : Nat) (l : List Ev) (ha : EvR w A l) (hb : EvR w B l) (hl : l.length ≤ maxLen) :
    Calls Try.prog 51 #[.slice A l.length c, .slice B l.length d] w fun e w' => e = .returned (.bool true) ∧ Fr [] w w' := by
  unfold maxLen at hl
  have HA := Lib.hid ha
  have HB := Lib.hid hb
  clear ha hb
  go_enter Try.func51, Try.ntmps51
  go_wp2_with fail
  go_loopw [5] (fun v5 wr => ∃ (k : Nat), v5 = .int .i64 k ∧ k ≤ l.length ∧ Hid (Fr [] w wr)) (fun v5 _ => l.length - (intOf v5).toNat)
  case atStart => exact ⟨0, rfl, Nat.zero_le _, Fr.refl _ _⟩
  case round =>
    obtain ⟨i, rfl, hk, H⟩ := hrel
    by_cases hlk : i < l.length
    · obtain ⟨x, hx⟩ : ∃ x, l[i]? = some x := ⟨_, List.getElem?_eq_getElem hlk⟩
      obtain ⟨ad, rfl, h0⟩ := HA.out i x hx
      obtain ⟨bd, rfl, h1⟩ := HB.out i x hx
      obtain ⟨c0, c1, c2, c3, c4, c5, c6, c7⟩ := h0.keep H.out (by simp)
      obtain ⟨d0, d1, d2, d3, d4, d5, d6, d7⟩ := h1.keep H.out (by simp)
      obtain ⟨xk, xac, xpu, xat, xn, xa, xb, xc⟩ := x
      simp only at c0 c1 c2 c3 c4 c5 c6 c7 d0 d1 d2 d3 d4 d5 d6 d7
      have hi0 : (0 : Int) ≤ (i : Int) := by omega
      have hi1 : (i : Int) < (l.length : Int) := by omega
      clear h0 h1 hx
      go_wp2_with fail
      go_quiet (fail)
      go_wp2_with fail
      exact ⟨⟨i + 1, by go_num, by omega, H.out.drewN _⟩, by simp only [intOf]; omega⟩
    · obtain rfl : i = l.length := by omega
      go_wp2_with fail
      go_ret
      exact ⟨rfl, H.out⟩
end Go.Proofs.Ytngonnnjehlfbaa
