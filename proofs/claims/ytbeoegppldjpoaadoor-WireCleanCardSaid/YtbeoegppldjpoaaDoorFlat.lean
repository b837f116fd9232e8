/- A slice of structs of one-cell fields (whole numbers, texts, truth values) that comes in: opened. -/
import Derived.Test.YtbeoegppldjpoaaDoorBase
import Derived.OpenShut
import Derived.WideShapes
import Derived.DataReads
import Derived.DataElems
namespace Go.Proofs.YtbeoegppldjpoaaDoor
open Go.RowKit
set_option linter.unusedVariables false
set_option linter.unusedSimpArgs false

inductive FK where
  | int (k : IntKind)
  | str
  | bool
/-- A field's value. -/
def FK.ok : FK → Value → Prop
  | .int k, v => ∃ n, v = .int k n ∧ Bd k n
  | .str, v => ∃ s : ByteArray, v = .string s ∧ s.size ≤ maxLen
  | .bool, v => ∃ b, v = .bool b
/-- A struct's cells. -/
def FRow : List FK → List Value → Prop
  | [], [] => True
  | k :: ks, v :: vs => k.ok v ∧ FRow ks vs
  | _, _ => False
theorem FRow.of : ∀ (ks : List FK) (vs : List Value), vs.length = ks.length → (∀ (i : Nat) (k : FK) (v : Value), ks[i]? = some k → vs[i]? = some v → k.ok v) → FRow ks vs := by
  intro ks
  induction ks with
  | nil => intro vs h _; cases vs with
    | nil => trivial
    | cons v vs => simp at h
  | cons k ks ih => intro vs h hi; cases vs with
    | nil => simp at h
    | cons v vs => exact ⟨hi 0 k v rfl rfl, ih vs (by simpa using h) (fun i k' v' h1 h2 => hi (i + 1) k' v' (by simpa using h1) (by simpa using h2))⟩
theorem FRow.length : ∀ (ks : List FK) (vs : List Value), FRow ks vs → vs.length = ks.length := by
  intro ks
  induction ks with
  | nil => intro vs h; cases vs with
    | nil => rfl
    | cons v vs => exact h.elim
  | cons k ks ih => intro vs h; cases vs with
    | nil => exact h.elim
    | cons v vs => simp [ih vs h.2]
/-- The rows' cells lie at address A, sz cells each. -/
def RdR (w : World) (A : Option Addr) (sz : Nat) (l : List (List Value)) : Prop := ∀ (i : Nat) (row : List Value), l[i]? = some row → ∀ (j : Nat) (v : Value), row[j]? = some v → ∃ ad, A = some ad ∧ w.cell? (ad.add (i * sz + j)) = some v
theorem RdR.nil (w : World) (A : Option Addr) (sz : Nat) : RdR w A sz [] := fun i row h => by simp at h

def fkB : Option TypeDesc → FK → Bool
  | some (.int q), .int k => decide (q = k)
  | some .string, .str => true
  | some .bool, .bool => true
  | _, _ => false
theorem fkB_int {d : Option TypeDesc} {k : IntKind} (h : fkB d (.int k) = true) : d = some (.int k) := by
  cases d with
  | none => simp [fkB] at h
  | some d => cases d <;> simp_all [fkB]
theorem fkB_str {d : Option TypeDesc} (h : fkB d .str = true) : d = some .string := by
  cases d with
  | none => simp [fkB] at h
  | some d => cases d <;> simp_all [fkB]
theorem fkB_bool {d : Option TypeDesc} (h : fkB d .bool = true) : d = some .bool := by
  cases d with
  | none => simp [fkB] at h
  | some d => cases d <;> simp_all [fkB]
def flatB (P : Program) (fs : Array Field) (ks : List FK) : Bool :=
  fs.size == ks.length && (List.range fs.size).all fun i => match fs[i]?, ks[i]? with
    | some f, some k => f.offset == i && P.cellsOf f.type == 1 && fkB (P.underlying f.type) k
    | _, _ => false

section
variable {H : Type} {enc : TypeId × Value → H} {P : Program} {w : World} {base : Nat} {sp : Nat → Bool} {held : Bool}
theorem flat_row {e : TypeId} {fs : Array Field} {ks : List FK} (he : P.underlying e = some (.struct fs)) (hfl : flatB P fs ks = true) (hce : P.cellsOf e = ks.length) {n : Nat} {cs : List Value} {y : DataW H × List MemPlace} (h : DataW.trod enc P w base sp held n e cs = some y) : FRow ks cs := by
  obtain ⟨xs, m, rfl, rfl, hl, hxs, hel⟩ := DataW.trod_struct he h
  simp only [flatB, Bool.and_eq_true, beq_iff_eq, List.all_eq_true, List.mem_range] at hfl
  obtain ⟨hs, hfl⟩ := hfl
  refine FRow.of ks cs (by omega) fun i k v hk hv => ?_
  have hi : i < ks.length := (List.getElem?_eq_some_iff.1 hk).1
  have hic : i < cs.length := (List.getElem?_eq_some_iff.1 hv).1
  have h1 := hfl i (by omega)
  have hf : fs[i]? = some fs[i] := Array.getElem?_eq_getElem (by omega)
  rw [hf, hk] at h1
  simp only [Bool.and_eq_true, beq_iff_eq] at h1
  obtain ⟨⟨ho, hc1⟩, hd⟩ := h1
  have h2 := hel i _ hf
  rw [ho, hc1, List.drop_eq_getElem_cons hic, List.take_succ_cons, List.take_zero, List.getElem?_eq_getElem (by omega)] at h2
  have hvv : cs[i] = v := by
    have := (List.getElem?_eq_some_iff.1 hv).2
    exact this
  rw [hvv] at h2
  cases k with
  | int q =>
    obtain ⟨z, hz, _, hw⟩ := DataW.trod_int (fkB_int hd) h2
    simp at hz
    exact ⟨z, hz, wf_bd hw⟩
  | str =>
    obtain ⟨z, hz, _, hw⟩ := DataW.trod_string (fkB_str hd) h2
    simp at hz
    exact ⟨z, hz, hw⟩
  | bool =>
    obtain ⟨z, hz, _⟩ := DataW.trod_bool (fkB_bool hd) h2
    simp at hz
    exact ⟨z, hz⟩
theorem open_flat {t e : TypeId} {fs : Array Field} {ks : List FK} (ht : P.underlying t = some (.slice e)) (he : P.underlying e = some (.struct fs)) (hfl : flatB P fs ks = true) (hce : P.cellsOf e = ks.length) {fuel : Nat} {cs : List Value} {x : DataW H × List MemPlace} (h : DataW.trod enc P w base sp held fuel t cs = some x) :
    cs = [.slice none 0 0] ∨ ∃ (a : Addr) (len cap : Nat) (l : List (List Value)), cs = [.slice (some a) len cap] ∧ len ≤ cap ∧ cap ≤ maxLen ∧ l.length = len ∧ (∀ row, row ∈ l → FRow ks row) ∧ RdR w (some a) ks.length l := by
  rcases DataW.trod_slice ht h with h0 | ⟨a, len, cap, elems, rest, n, _, rfl, rfl, hb, hl, hm, hlen, hel, hsp, hns⟩
  · exact Or.inl h0.1
  right
  have each : ∀ i, i < len → ∃ row, FRow ks row ∧ ∀ j v, row[j]? = some v → w.cell? (a.add (i * ks.length + j)) = some v := by
    intro i hi
    have h1 := hel i hi
    rw [List.getElem?_eq_getElem (by omega), Option.bind_eq_some_iff] at h1
    obtain ⟨row, hrow, htr⟩ := h1
    rw [hce] at hrow
    refine ⟨row, flat_row he hfl hce htr, fun j v hv => ?_⟩
    obtain ⟨_, hlr, h2⟩ := World.cells?_some hrow
    have hj : j < row.length := (List.getElem?_eq_some_iff.1 hv).1
    have h3 := h2 j (by omega)
    rw [Addr.add_add] at h3
    rw [h3, hv]
  have hf : ∀ i, ∃ row, i < len → FRow ks row ∧ ∀ j v, row[j]? = some v → w.cell? (a.add (i * ks.length + j)) = some v := by
    intro i
    by_cases h : i < len
    · obtain ⟨row, hr⟩ := each i h
      exact ⟨row, fun _ => hr⟩
    · exact ⟨[], fun h' => absurd h' h⟩
  obtain ⟨f, hf⟩ := Classical.axiomOfChoice hf
  refine ⟨a, len, cap, (List.range len).map f, rfl, hl, hm, by simp, ?_, ?_⟩
  · intro row hrow
    obtain ⟨i, hi, rfl⟩ := List.mem_map.1 hrow
    exact (hf i (List.mem_range.1 hi)).1
  · intro i row hrow j v hv
    rw [List.getElem?_map] at hrow
    obtain ⟨i', hi', rfl⟩ := Option.map_eq_some_iff.1 hrow
    obtain ⟨hil, hie⟩ := List.getElem?_eq_some_iff.1 hi'
    rw [List.getElem_range] at hie
    subst hie
    rw [List.length_range] at hil
    exact ⟨a, rfl, (hf i hil).2 j v hv⟩
end

end Go.Proofs.YtbeoegppldjpoaaDoor
