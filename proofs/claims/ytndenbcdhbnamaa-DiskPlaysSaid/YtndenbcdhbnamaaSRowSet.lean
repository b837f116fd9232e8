/- A row that a call owns, one of whose cells is set; that its cells can be read and written. -/
import Derived.Test.YtndenbcdhbnamaaRows2
namespace Go.Proofs.Ytndenbcdhbnamaa
open Go.RowKit
set_option linter.unusedVariables false
set_option linter.unusedSimpArgs false

theorem SRow.set1 {e : TypeId} {w : World} {g n cap : Nat} {r : List Nat} {xs : List Value} (h : SRow e 1 w (.slice (some ⟨g, 0, none⟩) n cap) r n xs) (j : Nat) (hj : j < n) (u : Value) :
    SRow e 1 (w.setCell ⟨g, j, none⟩ u) (.slice (some ⟨g, 0, none⟩) n cap) r n (xs.set j u) := by
  obtain ⟨⟨h1, h2⟩, h3⟩ := h
  refine ⟨⟨by rw [List.length_set]; exact h1, ?_⟩, h3⟩
  rcases h2 with ⟨h2, _⟩ | ⟨g', cap', cur, he, hb, hg, hn, hm, hc, ht⟩
  · cases h2
  · injection he with e1 e2 e3
    injection e1 with e1
    injection e1 with e1 _ _
    subst e1 e3
    refine .inr ⟨g, cap, cur.setIfInBounds j u, rfl, hb, ?_, hn, hm, by rw [Array.size_setIfInBounds]; exact hc, ?_⟩
    · simp [World.setCell, Array.getElem?_modify, hg, Array.set!]
    · rw [Array.toList_setIfInBounds, List.take_set, ht]
theorem SRow.cell1 {e : TypeId} {w : World} {g n cap : Nat} {r : List Nat} {xs : List Value} (h : SRow e 1 w (.slice (some ⟨g, 0, none⟩) n cap) r n xs) (j : Nat) (u : Value) (hj : xs[j]? = some u) :
    w.cell? ⟨g, j, none⟩ = some u ∧ w.frozen? ⟨g, j, none⟩ = false := by
  obtain ⟨⟨h1, h2⟩, h3⟩ := h
  rcases h2 with ⟨h2, _⟩ | ⟨g', cap', cur, he, hb, hg, hn, hm, hc, ht⟩
  · cases h2
  · injection he with e1 e2 e3
    injection e1 with e1
    injection e1 with e1 _ _
    subst e1 e3
    refine ⟨?_, Lib.frozen_of_heap hg j⟩
    rw [Lib.cell_of_heap hg]
    rw [← ht, List.getElem?_take] at hj
    split at hj
    · simpa using hj
    · cases hj
end Go.Proofs.Ytndenbcdhbnamaa
