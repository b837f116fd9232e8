/- Bytes by their places; what a crash keeps: plain Lean. -/
import Derived.Test.YtembnjpflllpbaaDisk5
namespace Go.Proofs.Ytembnjpflllpbaa
set_option linter.unusedVariables false
set_option linter.unusedSimpArgs false

/-- The byte at a place; 0 behind them all. -/
def gB (t : ByteArray) (i : Nat) : UInt8 := t.data.toList.getD i 0
theorem gB_get (t : ByteArray) (i : Nat) (h : i < t.size) : t[i] = gB t i := by
  have h' : i < t.data.toList.length := by rw [Array.length_toList]; exact h
  simp only [gB, List.getD_eq_getElem?_getD, List.getElem?_eq_getElem h']
  rfl
theorem gB_out {t : ByteArray} {i : Nat} (h : t.size ≤ i) : gB t i = 0 := by
  have h' : t.data.toList.length ≤ i := by rw [Array.length_toList]; exact h
  simp only [gB, List.getD_eq_getElem?_getD, List.getElem?_eq_none h']
  rfl
theorem gB_cut (t : ByteArray) (a b i : Nat) : gB (t.extract a b) i = if a + i < b then gB t (a + i) else 0 := by
  simp only [gB, List.getD_eq_getElem?_getD, ByteArray.data_extract, Array.toList_extract, List.extract_eq_take_drop, List.getElem?_take, List.getElem?_drop]
  by_cases h : i < b - a
  · rw [if_pos h, if_pos (by omega)]
  · rw [if_neg h, if_neg (by omega)]
    rfl
theorem gB_app (s t : ByteArray) (i : Nat) : gB (s ++ t) i = if i < s.size then gB s i else gB t (i - s.size) := by
  have hl : s.data.toList.length = s.size := by rw [Array.length_toList]; rfl
  simp only [gB, List.getD_eq_getElem?_getD, ByteArray.data_append, Array.toList_append]
  by_cases h : i < s.size
  · rw [if_pos h, List.getElem?_append_left (by omega)]
  · rw [if_neg h, List.getElem?_append_right (by omega), hl]
theorem gB_ext {s t : ByteArray} (hs : s.size = t.size) (h : ∀ i, i < t.size → gB s i = gB t i) : s = t := by
  apply ByteArray.ext
  apply Array.toList_inj.1
  have h1 : s.data.toList.length = s.size := by rw [Array.length_toList]; rfl
  have h2 : t.data.toList.length = t.size := by rw [Array.length_toList]; rfl
  apply List.ext_getElem (by omega)
  intro i hi hi'
  have := h i (by omega)
  simpa only [gB, List.getD_eq_getElem?_getD, List.getElem?_eq_getElem hi, List.getElem?_eq_getElem hi', Option.getD_some] using this
theorem gB_ov {t : ByteArray} {off : Nat} {s : ByteArray} (h : off + s.size ≤ t.size) (i : Nat) : gB (ovB t off s) i = if off ≤ i ∧ i < off + s.size then gB s (i - off) else gB t i := by
  have h1 : (t.extract 0 off).size = off := by rw [ByteArray.size_extract]; omega
  rw [ovB, gB_app, gB_app, gB_cut, gB_cut, ByteArray.size_append, h1]
  by_cases h2 : i < off
  · rw [if_pos (by omega), if_pos h2, if_pos (by omega), if_neg (by omega), Nat.zero_add]
  · by_cases h3 : i < off + s.size
    · rw [if_pos h3, if_neg h2, if_pos (by omega)]
    · rw [if_neg h3, if_neg (show ¬ (off ≤ i ∧ i < off + s.size) from fun h => h3 h.2), show off + s.size + (i - (off + s.size)) = i from by omega]
      by_cases h4 : i < t.size
      · rw [if_pos h4]
      · rw [if_neg h4, gB_out (by omega)]
theorem gB_zeros (n i : Nat) : gB ⟨Array.replicate n 0⟩ i = 0 := by
  simp only [gB, List.getD_eq_getElem?_getD, Array.toList_replicate, List.getElem?_replicate]
  split <;> rfl

theorem crashS_app : ∀ (l m : List (Nat × ByteArray)) (keep : Int) (st : ByteArray) (lost : Nat), crashS (l ++ m) keep st lost = crashS m (keep - (min keep.toNat (l.map fun x => x.2.size).sum : Nat)) (crashS l keep st lost).1 (crashS l keep st lost).2 := by
  intro l
  induction l with
  | nil => intro m keep st lost; simp [crashS]
  | cons x l ih =>
    intro m keep st lost
    obtain ⟨k, s⟩ := x
    rw [List.cons_append, crashS, crashS, ih]
    congr 1
    simp only [List.map_cons, List.sum_cons]
    omega

end Go.Proofs.Ytembnjpflllpbaa
