/- Rows of bytes in a block of their own: 'copy' into them, from a text or from a row; 'clear' of a row of any kind. -/
import Derived.Test.YtembnjpflllpbaaBase
import Derived.Laws.CopyOwn
import Derived.Lib.BufferWrite
import Derived.Lib.UnsafeStr
import Derived.Lib.SliceRun
namespace Go.Proofs.Ytembnjpflllpbaa
open Go.RowKit
set_option linter.unusedVariables false
set_option linter.unusedSimpArgs false

/-- The bytes t in block g, and nothing else there. -/
def BB (T : TypeId) (w : World) (g : Nat) (t : ByteArray) : Prop := w.heap[g]? = some (.cells (Lib.strCells t).toArray T (0, 0))
theorem BB.keep {T : TypeId} {w w' : World} {g : Nat} {t : ByteArray} {S : List Nat} (h : BB T w g t) (hf : Fr S w w') (hg : g ∉ S) : BB T w' g t := (hf.block g (lt_of_heap h) hg).trans h
theorem BB.lt {T : TypeId} {w : World} {g : Nat} {t : ByteArray} (h : BB T w g t) : g < w.heap.size := lt_of_heap h
theorem BB.read {T : TypeId} {w : World} {g : Nat} {t : ByteArray} (h : BB T w g t) (a b : Nat) : RdV w (some ⟨g, a, none⟩) (Lib.strCells (t.extract a b)) := by
  intro j v hj
  refine ⟨_, rfl, ?_⟩
  have h' : w.heap[g]? = some (.cells (Lib.strCells t).toArray T (0, 0)) := h
  rw [Addr.add_lit, Lib.cell_of_heap h']
  simp only [Lib.strCells, List.getElem?_toArray, List.getElem?_map, ByteArray.data_extract, Array.toList_extract, List.extract_eq_take_drop, List.getElem?_take, List.getElem?_drop] at hj ⊢
  split at hj
  · exact hj
  · simp at hj
theorem Fr.setRow {S : List Nat} {a w : World} (h : Fr S a w) {g : Nat} (hg : g ∈ S ∨ a.heap.size ≤ g) (cs : Array Value) : Fr S a (w.setRow g cs) :=
  ⟨h.os, h.tape, h.output, by simp; exact h.size, fun k hk hn => (setRow_other _ _ _ _ (by rintro rfl; exact hg.elim hn (fun h1 => by omega))).trans (h.block k hk hn)⟩

/-- s laid over t from place off on. -/
def ovB (t : ByteArray) (off : Nat) (s : ByteArray) : ByteArray := t.extract 0 off ++ s ++ t.extract (off + s.size) t.size
theorem ovB_size {t : ByteArray} {off : Nat} {s : ByteArray} (h : off + s.size ≤ t.size) : (ovB t off s).size = t.size := by
  simp only [ovB, ByteArray.size_append, ByteArray.size_extract]
  omega
theorem strCells_cut (t : ByteArray) (a b : Nat) : Lib.strCells (t.extract a b) = ((Lib.strCells t).take b).drop a := by
  simp only [Lib.strCells, ByteArray.data_extract, Array.toList_extract, List.extract_eq_take_drop, List.drop_take, List.map_take, List.map_drop]
theorem ovB_cells (t : ByteArray) (off : Nat) (s : ByteArray) : Lib.strCells (ovB t off s) = (Lib.strCells t).take off ++ Lib.strCells s ++ (Lib.strCells t).drop (off + s.size) := by
  rw [ovB, strCells_app, strCells_app, strCells_cut, strCells_cut]
  have e : (Lib.strCells t).take t.size = Lib.strCells t := List.take_of_length_le (by rw [Lib.strCells_length]; exact Nat.le_refl _)
  rw [List.drop_zero, e]
theorem ovB_none {t : ByteArray} {off : Nat} {s : ByteArray} (h : s.size = 0) : ovB t off s = t := by
  apply ByteArray.ext
  apply Array.toList_inj.1
  have hs : s.data.toList = [] := List.eq_nil_of_length_eq_zero (by rw [Array.length_toList]; exact h)
  have hl : t.data.toList.length = t.size := by rw [Array.length_toList]; rfl
  simp only [ovB, h, ByteArray.data_append, Array.toList_append, hs, ByteArray.data_extract, Array.toList_extract, List.extract_eq_take_drop, List.append_nil, List.drop_zero, Nat.sub_zero, Nat.add_zero]
  rw [List.take_of_length_le (l := t.data.toList.drop off) (by rw [List.length_drop, hl]; omega), List.take_append_drop]

section
variable {P : Program}
theorem run_copyS (w : World) (dT sT ty elem : TypeId) (hu : P.underlying dT = some (.slice elem)) (hsz : (P.info? elem).map (·.size) = some 1) (dp : Option Addr) (dLen dCap : Nat) (s : ByteArray)
    (T : TypeId) (g off : Nat) (t : ByteArray) (hg : BB T w g t) (hle : s.size ≤ dLen) (hfit : off + s.size ≤ t.size) (hpos : 0 < s.size → dp = some ⟨g, off, none⟩) :
    ∃ w', (Builtin.copy_ #[dT, sT] ty #[.slice dp dLen dCap, .string s]).run P w = .ok (goInt s.size) w' ∧ BB T w' g (ovB t off s) ∧ Fr [g] w w' := by
  by_cases h0 : s.size = 0
  · refine ⟨w, ?_, ?_, Fr.refl _ _⟩
    · rw [Lib.run_copy_empty_string w dT sT ty elem dp dLen dCap s hu (by cases hq : P.info? elem <;> simp [hq] at hsz ⊢) h0, h0]
      rfl
    · rw [ovB_none h0]
      exact hg
  · have hp := hpos (by omega)
    subst hp
    refine ⟨_, Lib.run_copy_row_string w dT sT ty elem g off dLen dCap s _ T hu hsz hg hle (by rw [List.size_toArray, Lib.strCells_length]; exact hfit), ?_, (Fr.refl _ _).setRow (.inl (by simp)) _⟩
    rw [BB, setRow_heap w g _ _ T _ hg, ovB_cells, Lib.strCells_eq s]
theorem run_copyR (w : World) (dT sT ty elem : TypeId) (hu : P.underlying dT = some (.slice elem)) (hsz : (P.info? elem).map (·.size) = some 1) (dp sp : Option Addr) (dLen dCap sLen sCap : Nat) (s : ByteArray) (hl : sLen = s.size)
    (hr : RdV w sp (Lib.strCells s)) (T : TypeId) (g off : Nat) (t : ByteArray) (hg : BB T w g t) (hle : s.size ≤ dLen) (hfit : off + s.size ≤ t.size) (hpos : 0 < s.size → dp = some ⟨g, off, none⟩) :
    ∃ w', (Builtin.copy_ #[dT, sT] ty #[.slice dp dLen dCap, .slice sp sLen sCap]).run P w = .ok (goInt s.size) w' ∧ BB T w' g (ovB t off s) ∧ Fr [g] w w' := by
  subst hl
  by_cases h0 : s.size = 0
  · refine ⟨w, ?_, ?_, Fr.refl _ _⟩
    · rw [run_copy_none w dT sT ty elem dp sp dLen dCap s.size sCap hu hsz (by rw [h0]; exact Nat.zero_min _), h0]
      rfl
    · rw [ovB_none h0]
      exact hg
  · have hp := hpos (by omega)
    subst hp
    have hlen := Lib.strCells_length s
    obtain ⟨ad, hsp⟩ : ∃ ad, sp = some ad := by
      obtain ⟨ad, ha, _⟩ := hr 0 ((Lib.strCells s)[0]'(by omega)) (by rw [List.getElem?_eq_getElem])
      exact ⟨ad, ha⟩
    subst hsp
    have hrun := run_copy_row P w dT sT ty elem g off dLen dCap ad s.size sCap _ T (Lib.strCells s) hu hsz hg (by rw [hlen]; exact (Nat.min_eq_left hle).symm) (fun j v hj => by
      obtain ⟨ad', ha, hc⟩ := hr j v hj
      injection ha with ha
      subst ha
      exact hc) (by rw [List.size_toArray, Lib.strCells_length, Lib.strCells_length]; exact hfit) (fun v hv => Lib.byteCells_one _ v hv)
    rw [hlen] at hrun
    refine ⟨_, hrun, ?_, (Fr.refl _ _).setRow (.inl (by simp)) _⟩
    rw [BB, setRow_heap w g _ _ T _ hg, ovB_cells]

variable {w : World} {ops : Array Oper} {rest : List Oper} {o : Oper} {a : Act} {Q : Exit → Act → World → Prop}
theorem wpList_copyS (hgd : o.guard = none) (d s : Operand) (dT sT : TypeId)
    (ho : o.op = .call { callee := .builtin .copy, args := #[d, s], argTypes := #[dT, sT] }) (elem : TypeId) (hu : P.underlying dT = some (.slice elem)) (hsz : (P.info? elem).map (·.size) = some 1)
    (dp : Option Addr) (dLen dCap : Nat) (str : ByteArray) (hd : a.eval d = .slice dp dLen dCap) (hs : a.eval s = .string str)
    (T : TypeId) (g off : Nat) (t : ByteArray) (hg : BB T w g t) (hle : str.size ≤ dLen) (hfit : off + str.size ≤ t.size) (hpos : 0 < str.size → dp = some ⟨g, off, none⟩)
    (h : ∀ w', BB T w' g (ovB t off str) → Fr [g] w w' → wpList P ops Q rest (a.put o.dst (goInt str.size)) w') :
    wpList P ops Q (o :: rest) a w := by
  obtain ⟨w', hrun, h1, h2⟩ := run_copyS (P := P) w dT sT o.type elem hu hsz dp dLen dCap str T g off t hg hle hfit hpos
  refine wpList_plain hgd fun K hK => ?_
  unfold Oper.wp
  simp [execOp, ho, resolve, invoke, builtin, hd, hs, hrun, Result.andThen]
  exact hK _ _ (h w' h1 h2)
theorem step_copyS {K : Act → World → Prop} {E : Prop} (hgd : o.guard = none) (d s : Operand) (dT sT : TypeId)
    (ho : o.op = .call { callee := .builtin .copy, args := #[d, s], argTypes := #[dT, sT] }) (elem : TypeId) (hu : P.underlying dT = some (.slice elem)) (hsz : (P.info? elem).map (·.size) = some 1)
    (dp : Option Addr) (dLen dCap : Nat) (str : ByteArray) (hd : a.eval d = .slice dp dLen dCap) (hs : a.eval s = .string str)
    (T : TypeId) (g off : Nat) (t : ByteArray) (hg : BB T w g t) (hle : str.size ≤ dLen) (hfit : off + str.size ≤ t.size) (hpos : 0 < str.size → dp = some ⟨g, off, none⟩)
    (h : ∀ w', BB T w' g (ovB t off str) → Fr [g] w w' → K (a.put o.dst (goInt str.size)) w') :
    if Region.wanted o (yielded ops a.tmps) = true then Oper.wp P o a w K Q else E := by
  have hw : Region.wanted o (yielded ops a.tmps) = true := by simp [Region.wanted, hgd]
  rw [if_pos hw]
  obtain ⟨w', hrun, h1, h2⟩ := run_copyS (P := P) w dT sT o.type elem hu hsz dp dLen dCap str T g off t hg hle hfit hpos
  unfold Oper.wp
  simp [execOp, ho, resolve, invoke, builtin, hd, hs, hrun, Result.andThen]
  exact h w' h1 h2
theorem step_copyR {K : Act → World → Prop} {E : Prop} (hgd : o.guard = none) (d s : Operand) (dT sT : TypeId)
    (ho : o.op = .call { callee := .builtin .copy, args := #[d, s], argTypes := #[dT, sT] }) (elem : TypeId) (hu : P.underlying dT = some (.slice elem)) (hsz : (P.info? elem).map (·.size) = some 1)
    (dp sp : Option Addr) (dLen dCap sLen sCap : Nat) (str : ByteArray) (hl : sLen = str.size) (hd : a.eval d = .slice dp dLen dCap) (hs : a.eval s = .slice sp sLen sCap) (hr : RdV w sp (Lib.strCells str))
    (T : TypeId) (g off : Nat) (t : ByteArray) (hg : BB T w g t) (hle : str.size ≤ dLen) (hfit : off + str.size ≤ t.size) (hpos : 0 < str.size → dp = some ⟨g, off, none⟩)
    (h : ∀ w', BB T w' g (ovB t off str) → Fr [g] w w' → K (a.put o.dst (goInt str.size)) w') :
    if Region.wanted o (yielded ops a.tmps) = true then Oper.wp P o a w K Q else E := by
  have hw : Region.wanted o (yielded ops a.tmps) = true := by simp [Region.wanted, hgd]
  rw [if_pos hw]
  obtain ⟨w', hrun, h1, h2⟩ := run_copyR (P := P) w dT sT o.type elem hu hsz dp sp dLen dCap sLen sCap str hl hr T g off t hg hle hfit hpos
  unfold Oper.wp
  simp [execOp, ho, resolve, invoke, builtin, hd, hs, hrun, Result.andThen]
  exact h w' h1 h2
end

end Go.Proofs.Ytembnjpflllpbaa
