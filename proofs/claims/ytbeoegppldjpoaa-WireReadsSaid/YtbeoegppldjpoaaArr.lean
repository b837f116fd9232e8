/- Arrays of whole numbers or of texts that come in by value: opened. -/
import Derived.Test.YtbeoegppldjpoaaBase
import Derived.OpenShut
import Derived.WideShapes
namespace Go.Proofs.Ytbeoegppldjpoaa
open Go.RowKit
set_option linter.unusedVariables false
set_option linter.unusedSimpArgs false

section
variable {H : Type} {enc : TypeId × Value → H} {P : Program} {w : World} {base : Nat} {sp : Nat → Bool} {held : Bool}
theorem okWide_array {r : Reach} {b0 : Nat} {t e : TypeId} {n : Nat} {v : Value} (ht : P.underlying t = some (.array n e)) (h : Value.okWide P w r b0 t v) : ∃ cs, v = .agg cs ∧ cs.size = P.cellsOf t := by
  simp only [Value.okWide, ht] at h
  obtain ⟨cs, h1, h2, _⟩ := h
  exact ⟨cs, h1, h2⟩
theorem arr_cells {t e : TypeId} {n : Nat} {cs : List Value} {fuel : Nat} {x : DataW H × List MemPlace} (ht : P.underlying t = some (.array n e)) (hce : P.cellsOf e = 1) (hct : P.cellsOf t = n) (h : DataW.trod enc P w base sp held fuel t cs = some x) :
    cs.length = n ∧ ∀ i (hi : i < cs.length), ∃ m y, DataW.trod enc P w base sp held m e [cs[i]] = some y := by
  obtain ⟨xs, m, rfl, rfl, hl, hxn, hel⟩ := DataW.trod_array ht h
  refine ⟨by omega, fun i hi => ?_⟩
  have := hel i (by omega)
  rw [hce, Nat.mul_one, List.drop_eq_getElem_cons hi, List.take_succ_cons, List.take_zero, List.getElem?_eq_getElem (by omega)] at this
  exact ⟨m, _, this⟩
theorem open_arrInts {r : Reach} {b0 : Nat} {t e : TypeId} {n : Nat} {k : IntKind} {v : Value} {d : DataW H} {ps : List MemPlace} (ht : P.underlying t = some (.array n e)) (he : P.underlying e = some (.int k)) (hce : P.cellsOf e = 1) (hct : P.cellsOf t = n)
    (hval : Value.okWide P w r b0 t v) (h : DataW.Trod enc P w base sp held t v d ps) : ∃ l : List Int, v = .agg (l.map (.int k)).toArray ∧ l.length = n ∧ ∀ x, x ∈ l → Bd k x := by
  obtain ⟨cs, rfl, hsz⟩ := okWide_array ht hval
  obtain ⟨fuel, hf⟩ := h
  obtain ⟨hl, hel⟩ := arr_cells ht hce hct hf
  have hall : ∀ (cl : List Value), (∀ i (hi : i < cl.length), ∃ m y, DataW.trod enc P w base sp held m e [cl[i]] = some y) → ∃ l : List Int, cl = l.map (.int k) ∧ ∀ x, x ∈ l → Bd k x := by
    intro cl
    induction cl with
    | nil => exact fun _ => ⟨[], rfl, by simp⟩
    | cons c cl ih =>
      intro hc
      obtain ⟨m, y, h0⟩ := hc 0 (by simp)
      obtain ⟨x, hx, _, hw⟩ := DataW.trod_int he h0
      obtain ⟨l, hl, hb⟩ := ih (fun i hi => by
        have := hc (i + 1) (by simpa using hi)
        simpa using this)
      simp at hx
      refine ⟨x :: l, by rw [hl, hx]; rfl, fun z hz => ?_⟩
      rcases List.mem_cons.1 hz with rfl | hz
      · exact wf_bd hw
      · exact hb z hz
  obtain ⟨l, hcl, hb⟩ := hall cs.toList hel
  refine ⟨l, ?_, ?_, hb⟩
  · rw [← hcl]
  · have hcl' : (Value.agg cs).cells.toList = l.map (.int k) := hcl
    rw [hcl', List.length_map] at hl
    exact hl
theorem open_arrStrs {r : Reach} {b0 : Nat} {t e : TypeId} {n : Nat} {v : Value} {d : DataW H} {ps : List MemPlace} (ht : P.underlying t = some (.array n e)) (he : P.underlying e = some .string) (hce : P.cellsOf e = 1) (hct : P.cellsOf t = n)
    (hval : Value.okWide P w r b0 t v) (h : DataW.Trod enc P w base sp held t v d ps) : ∃ l : List ByteArray, v = .agg (l.map .string).toArray ∧ l.length = n ∧ ∀ x, x ∈ l → x.size ≤ maxLen := by
  obtain ⟨cs, rfl, hsz⟩ := okWide_array ht hval
  obtain ⟨fuel, hf⟩ := h
  obtain ⟨hl, hel⟩ := arr_cells ht hce hct hf
  have hall : ∀ (cl : List Value), (∀ i (hi : i < cl.length), ∃ m y, DataW.trod enc P w base sp held m e [cl[i]] = some y) → ∃ l : List ByteArray, cl = l.map .string ∧ ∀ x, x ∈ l → x.size ≤ maxLen := by
    intro cl
    induction cl with
    | nil => exact fun _ => ⟨[], rfl, by simp⟩
    | cons c cl ih =>
      intro hc
      obtain ⟨m, y, h0⟩ := hc 0 (by simp)
      obtain ⟨x, hx, _, hw⟩ := DataW.trod_string he h0
      obtain ⟨l, hl, hb⟩ := ih (fun i hi => by
        have := hc (i + 1) (by simpa using hi)
        simpa using this)
      simp at hx
      refine ⟨x :: l, by rw [hl, hx]; rfl, fun z hz => ?_⟩
      rcases List.mem_cons.1 hz with rfl | hz
      · exact hw
      · exact hb z hz
  obtain ⟨l, hcl, hb⟩ := hall cs.toList hel
  refine ⟨l, ?_, ?_, hb⟩
  · rw [← hcl]
  · have hcl' : (Value.agg cs).cells.toList = l.map .string := hcl
    rw [hcl', List.length_map] at hl
    exact hl
end
theorem list_two {α : Type} {l : List α} (h : l.length = 2) : ∃ a b, l = [a, b] := by
  match l, h with
  | [a, b], _ => exact ⟨a, b, rfl⟩
theorem list_three {α : Type} {l : List α} (h : l.length = 3) : ∃ a b c, l = [a, b, c] := by
  match l, h with
  | [a, b, c], _ => exact ⟨a, b, c, rfl⟩

end Go.Proofs.Ytbeoegppldjpoaa
