/- A request and a reply that come in. -/
import Derived.Test.YtbeoegppldjpoaaDoorWirePure
import Derived.Test.YtbeoegppldjpoaaDoorFlat
namespace Go.Proofs.YtbeoegppldjpoaaDoor
open Go.RowKit
set_option linter.unusedVariables false
set_option linter.unusedSimpArgs false

theorem rq_of_row {row : List Value} (h : FRow [.int .i64, .int .i64, .str, .str, .str, .str, .str] row) : ∃ (k pu : Int) (so ma ot se pa : ByteArray), row = [.int .i64 k, .int .i64 pu, .string so, .string ma, .string ot, .string se, .string pa] ∧ (Rq.mk k pu so ma ot se pa).short 9223372036854775807 ∧ Bd .i64 k ∧ Bd .i64 pu := by
  rcases row with _ | ⟨v0, _ | ⟨v1, _ | ⟨v2, _ | ⟨v3, _ | ⟨v4, _ | ⟨v5, _ | ⟨v6, _ | ⟨v7, row⟩⟩⟩⟩⟩⟩⟩⟩
  · exact h.elim
  · exact h.2.elim
  · exact h.2.2.elim
  · exact h.2.2.2.elim
  · exact h.2.2.2.2.elim
  · exact h.2.2.2.2.2.elim
  · exact h.2.2.2.2.2.2.elim
  · obtain ⟨⟨k, rfl, hk⟩, ⟨pu, rfl, hp⟩, ⟨s0, rfl, z0⟩, ⟨s1, rfl, z1⟩, ⟨s2, rfl, z2⟩, ⟨s3, rfl, z3⟩, ⟨s4, rfl, z4⟩, _⟩ := h
    exact ⟨k, pu, s0, s1, s2, s3, s4, rfl, ⟨z0, z1, z2, z3, z4⟩, hk, hp⟩
  · exact h.2.2.2.2.2.2.2.elim
theorem rp_of_row {row : List Value} (h : FRow [.int .i64, .str] row) : ∃ (c : Int) (t : ByteArray), row = [.int .i64 c, .string t] ∧ t.size ≤ 9223372036854775807 ∧ Bd .i64 c := by
  rcases row with _ | ⟨v0, _ | ⟨v1, _ | ⟨v2, row⟩⟩⟩
  · exact h.elim
  · exact h.2.elim
  · obtain ⟨⟨c, rfl, hc⟩, ⟨t, rfl, ht⟩, _⟩ := h
    exact ⟨c, t, rfl, ht, hc⟩
  · exact h.2.2.elim

end Go.Proofs.YtbeoegppldjpoaaDoor
