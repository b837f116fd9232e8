/- A struct of one-cell fields (whole numbers, texts, truth values) that comes in by value: opened. -/
import Derived.Test.YtbeoegppldjpoaaDoorFlat
namespace Go.Proofs.YtbeoegppldjpoaaDoor
open Go.RowKit
set_option linter.unusedVariables false
set_option linter.unusedSimpArgs false

section
variable {H : Type} {enc : TypeId × Value → H} {P : Program} {w : World} {base : Nat} {sp : Nat → Bool} {held : Bool}
theorem okWide_struct {r : Reach} {b0 : Nat} {t : TypeId} {fs : Array Field} {v : Value} (ht : P.underlying t = some (.struct fs)) (h : Value.okWide P w r b0 t v) : ∃ cs, v = .agg cs ∧ cs.size = P.cellsOf t := by
  simp only [Value.okWide, ht] at h
  obtain ⟨cs, h1, h2, _⟩ := h
  exact ⟨cs, h1, h2⟩
theorem open_row {ks : List FK} {r : Reach} {b0 : Nat} {t : TypeId} {fs : Array Field} {v : Value} {d : DataW H} {ps : List MemPlace} (ht : P.underlying t = some (.struct fs)) (hfl : flatB P fs ks = true) (hce : P.cellsOf t = ks.length)
    (hval : Value.okWide P w r b0 t v) (h : DataW.Trod enc P w base sp held t v d ps) : ∃ l : List Value, v = .agg l.toArray ∧ FRow ks l := by
  obtain ⟨cs, rfl, hsz⟩ := okWide_struct ht hval
  obtain ⟨fuel, hf⟩ := h
  refine ⟨cs.toList, by simp, ?_⟩
  have h2 : FRow ks (Value.agg cs).cells.toList := flat_row ht hfl hce hf
  exact h2
end

end Go.Proofs.YtbeoegppldjpoaaDoor
