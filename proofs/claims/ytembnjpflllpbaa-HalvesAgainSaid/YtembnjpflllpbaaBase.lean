/- The words of this claim's own: worlds that differ in some blocks alone ('Fr'), and the rows of bytes that a strings.Builder owns ('BRow'), with the laws of 'append' on them. -/
import Derived.WalkKit
import Derived.WalkSpells
import Derived.WalkLawsBesides
import Derived.Deep.QuietTactic
import Derived.BigQuiet
import Derived.Deep.LoopGhost
import Derived.Lib.FrozenHead2
import Derived.Lib.UnsafeStr
import Derived.Lib.Strings
import Derived.Lib.Hide
import Derived.Maps.AppendAt
import Derived.KernelRfl
namespace Go.Proofs.Ytembnjpflllpbaa
set_option linter.unusedSimpArgs false
set_option linter.unusedVariables false
open Go.RowKit

/-- The world w' is w, but for the blocks S and for new blocks. -/
structure Fr (S : List Nat) (w w' : World) : Prop where
  os : w'.os = w.os
  tape : w'.tape = w.tape
  output : w'.output = w.output
  size : w.heap.size ≤ w'.heap.size
  block : ∀ k, k < w.heap.size → k ∉ S → w'.heap[k]? = w.heap[k]?

theorem Fr.refl (S : List Nat) (w : World) : Fr S w w := ⟨rfl, rfl, rfl, Nat.le_refl _, fun _ _ _ => rfl⟩
theorem Fr.mono {S S' : List Nat} {w w' : World} (h : Fr S w w') (hs : ∀ k, k ∈ S → k < w.heap.size → k ∈ S') : Fr S' w w' :=
  ⟨h.os, h.tape, h.output, h.size, fun k hk hn => h.block k hk (fun e => hn (hs k e hk))⟩
/-- Two steps: what the second may turn is what the first may, or new. -/
theorem Fr.trans {S S' : List Nat} {a b c : World} (h : Fr S a b) (k : Fr S' b c) (hs : ∀ i, i ∈ S' → i ∈ S ∨ a.heap.size ≤ i) : Fr S a c :=
  ⟨k.os.trans h.os, k.tape.trans h.tape, k.output.trans h.output, Nat.le_trans h.size k.size, fun i hi hn =>
    (k.block i (Nat.lt_of_lt_of_le hi h.size) (fun e => (hs i e).elim hn (fun h1 => by omega))).trans (h.block i hi hn)⟩
theorem Fr.drew {S : List Nat} {a w : World} (h : Fr S a w) : Fr S a w.drew := ⟨h.os, h.tape, h.output, h.size, h.block⟩
theorem Fr.drewN {S : List Nat} {a w : World} (h : Fr S a w) (n : Nat) : Fr S a (w.drewN n) := ⟨h.os, h.tape, h.output, h.size, h.block⟩
theorem Fr.alloc {S : List Nat} {a w : World} (h : Fr S a w) (o : Obj) : Fr S a (w.alloc o) :=
  ⟨h.os, h.tape, h.output, by simp; have := h.size; omega, fun k hk hn => (Below.heap_alloc _ _ _ (by have := h.size; omega)).trans (h.block k hk hn)⟩
theorem Fr.setCell {S : List Nat} {a w : World} (h : Fr S a w) {p : Addr} (hp : p.block ∈ S ∨ a.heap.size ≤ p.block) (u : Value) : Fr S a (w.setCell p u) :=
  ⟨h.os, h.tape, h.output, by simp [World.setCell]; exact h.size, fun k hk hn => (Below.heap_setCell _ _ _ _ (by rintro rfl; exact hp.elim hn (fun h1 => by omega))).trans (h.block k hk hn)⟩
theorem Fr.grown {S : List Nat} {a w w' : World} {row : Option Nat} (h : Fr S a w) (hg : w.grownBy w' row) (hr : ∀ k, row = some k → k ∈ S ∨ a.heap.size ≤ k) : Fr S a w' :=
  ⟨hg.os.trans h.os, hg.tape.trans h.tape, hg.output.trans h.output, Nat.le_trans h.size hg.size, fun k hk hn =>
    (hg.block k (by have := h.size; omega) (fun e => (hr k e.symm).elim hn (fun h1 => by omega))).trans (h.block k hk hn)⟩
theorem Fr.freeze {S : List Nat} {a w : World} (h : Fr S a w) {p : Addr} (hp : p.block ∈ S ∨ a.heap.size ≤ p.block) (n : Nat) : Fr S a (w.freeze p n) := by
  unfold World.freeze
  split
  · exact h
  · refine ⟨h.os, h.tape, h.output, by simp; exact h.size, fun k hk hn => ?_⟩
    simp only [Array.getElem?_modify]
    rw [if_neg (by rintro rfl; exact hp.elim hn (fun h1 => by omega))]
    exact h.block k hk hn
theorem Fr.cell {S : List Nat} {w w' : World} (h : Fr S w w') {p : Addr} (h1 : p.block < w.heap.size) (h2 : p.block ∉ S) : w'.cell? p = w.cell? p := World.cell?_of_block (w := w) (h.block p.block h1 h2)
theorem Fr.cell' {S : List Nat} {w w' : World} (h : Fr S w w') {p : Addr} {v : Value} (hc : w.cell? p = some v) (h2 : p.block ∉ S) : w'.cell? p = some v := (h.cell (World.block_lt_of_cell? w p hc) h2).trans hc
theorem Fr.frozen {S : List Nat} {w w' : World} (h : Fr S w w') {p : Addr} (h1 : p.block < w.heap.size) (h2 : p.block ∉ S) : w'.frozen? p = w.frozen? p := World.frozen?_of_block (w := w) (h.block p.block h1 h2)
theorem Fr.of_below {w w' : World} (h : Below w.heap.size w w') : Fr [] w w' := ⟨h.os, h.tape, h.output, h.size, fun k hk _ => h.block k hk⟩
theorem Fr.below {S : List Nat} {w w' : World} (h : Fr S w w') {B : Nat} (hB : B ≤ w.heap.size) (hs : ∀ k, k ∈ S → B ≤ k) : Below B w w' :=
  ⟨h.os, h.tape, h.output, h.size, fun k hk => h.block k (by omega) (fun e => by have := hs k e; omega)⟩
theorem Fr.below0 {w w' : World} (h : Fr [] w w') : Below w.heap.size w w' := h.below (Nat.le_refl _) (fun k hk => by cases hk)
/-- A step that turns nothing old, behind any. -/
theorem Fr.then {S : List Nat} {a b c : World} (h : Fr S a b) (k : Fr [] b c) : Fr S a c := h.trans k (fun i hi => by cases hi)

theorem lt_of_heap {w : World} {b : Nat} {o : Obj} (hb : w.heap[b]? = some o) : b < w.heap.size := (Array.getElem?_eq_some_iff.1 hb).1

theorem toList_inj {s t : ByteArray} (h : s.toList = t.toList) : s = t := by
  rw [Lib.toList_data, Lib.toList_data] at h
  exact ByteArray.ext (Array.toList_inj.1 h)

/-! ### What a slice's cells hold -/
def RdV (w : World) (A : Option Addr) (vs : List Value) : Prop := ∀ j v, vs[j]? = some v → ∃ ad, A = some ad ∧ w.cell? (ad.add j) = some v
theorem RdV.keep {w w' : World} {A : Option Addr} {vs : List Value} {S : List Nat} (h : RdV w A vs) (hf : Fr S w w') (hd : ∀ ad, A = some ad → ad.block ∉ S) : RdV w' A vs := by
  intro j v hj
  obtain ⟨ad, ha, hc⟩ := h j v hj
  refine ⟨ad, ha, hf.cell' hc ?_⟩
  rw [show (ad.add j).block = ad.block from by unfold Addr.add; split <;> rfl]
  exact hd ad ha
theorem RdV.lt {w : World} {A : Option Addr} {vs : List Value} (h : RdV w A vs) {ad : Addr} (ha : A = some ad) (h0 : vs ≠ []) : ad.block < w.heap.size := by
  obtain ⟨v, hv⟩ : ∃ v, vs[0]? = some v := by
    cases vs with
    | nil => exact absurd rfl h0
    | cons x l => exact ⟨x, rfl⟩
  obtain ⟨ad', ha', hc⟩ := h 0 v hv
  obtain rfl : ad' = ad := by rw [ha] at ha'; injection ha' with e; exact e.symm
  have := World.block_lt_of_cell? w _ hc
  rwa [show (ad'.add 0).block = ad'.block from by unfold Addr.add; split <;> rfl] at this
theorem RdV.nil (w : World) (A : Option Addr) : RdV w A [] := fun j v hj => by simp at hj
/-- A new block read whole. -/
theorem RdV.new (w : World) (cs : Array Value) (T : TypeId) {n : Nat} (hn : n = w.heap.size) {vs : List Value} (hv : vs = cs.toList) : RdV (w.alloc (.cells cs T)) (some ⟨n, 0, none⟩) vs := by
  subst hn
  subst hv
  intro j v hj
  refine ⟨_, rfl, ?_⟩
  have e : (⟨w.heap.size, 0, none⟩ : Addr).add j = ⟨w.heap.size, j, none⟩ := by unfold Addr.add; split <;> simp_all
  have hb := heap_alloc_new w (.cells cs T)
  rw [e, Lib.cell_of_heap hb]
  simpa using hj

/-- A number is within its kind. -/
def Bd (k : IntKind) (x : Int) : Prop := k.min ≤ x ∧ x ≤ k.max
theorem wf_bd {k : IntKind} {x : Int} (h : (Lit.int k x).wf = true) : Bd k x := by
  simp only [Lit.wf, Bool.and_eq_true, decide_eq_true_eq] at h
  exact h
theorem RdV.of_ints {w : World} {k : IntKind} {x : Addr} {l c : Nat} {zs : List Int} (hl : l ≤ c) (hm : c ≤ maxLen) (hz : zs.length = c) (hcell : ∀ i, i < zs.length → w.cell? (x.add i) = some (.int k (zs.getD i 0))) (hw : ∀ n, n ∈ zs → (Lit.int k n).wf = true) :
    ∃ ys : List Int, l = ys.length ∧ RdV w (some x) (ys.map (.int k)) ∧ (∀ y, y ∈ ys → Bd k y) ∧ ys.length ≤ maxLen := by
  refine ⟨zs.take l, by rw [List.length_take]; omega, ?_, fun y hy => wf_bd (hw y (List.mem_of_mem_take hy)), by rw [List.length_take]; omega⟩
  intro j v hj
  have hjl : j < l := by
    have := (List.getElem?_eq_some_iff.1 hj).1
    simp at this
    omega
  refine ⟨x, rfl, ?_⟩
  rw [hcell j (by omega)]
  simp [List.getElem?_take, hjl, List.getElem?_eq_getElem (show j < zs.length by omega)] at hj
  simp [List.getD_eq_getElem?_getD, List.getElem?_eq_getElem (show j < zs.length by omega), hj]
theorem RdV.of_strings {w : World} {x : Addr} {l c : Nat} {zs : List ByteArray} (hl : l ≤ c) (hm : c ≤ maxLen) (hz : zs.length = c) (hcell : ∀ i, i < zs.length → w.cell? (x.add i) = some (.string (zs.getD i ByteArray.empty))) (hw : ∀ n, n ∈ zs → n.size ≤ maxLen) :
    ∃ ys : List ByteArray, l = ys.length ∧ RdV w (some x) (ys.map .string) ∧ (∀ y, y ∈ ys → y.size ≤ maxLen) ∧ ys.length ≤ maxLen := by
  refine ⟨zs.take l, by rw [List.length_take]; omega, ?_, fun y hy => hw y (List.mem_of_mem_take hy), by rw [List.length_take]; omega⟩
  intro j v hj
  have hjl : j < l := by
    have := (List.getElem?_eq_some_iff.1 hj).1
    simp at this
    omega
  refine ⟨x, rfl, ?_⟩
  rw [hcell j (by omega)]
  simp [List.getElem?_take, hjl, List.getElem?_eq_getElem (show j < zs.length by omega)] at hj
  simp [List.getD_eq_getElem?_getD, List.getElem?_eq_getElem (show j < zs.length by omega), hj]
theorem Bd.u64 {x : Int} (h : Bd .u64 x) : 0 ≤ x ∧ x < 18446744073709551616 := by
  have h1 : IntKind.u64.min = 0 := rfl
  have h2 : IntKind.u64.max = 18446744073709551615 := rfl
  unfold Bd at h
  omega
theorem Bd.i64 {x : Int} (h : Bd .i64 x) : -9223372036854775808 ≤ x ∧ x ≤ 9223372036854775807 := by
  have h1 : IntKind.i64.min = -9223372036854775808 := rfl
  have h2 : IntKind.i64.max = 9223372036854775807 := rfl
  unfold Bd at h
  omega
theorem Bd.u8 {x : Int} (h : Bd .u8 x) : 0 ≤ x ∧ x < 256 := by
  have h1 : IntKind.u8.min = 0 := rfl
  have h2 : IntKind.u8.max = 255 := rfl
  unfold Bd at h
  omega

/-! ### A row of bytes that a Builder owns -/
/-- v: nothing yet (no block), or a row (block g) whose first cells are the bytes s; of its row a head may be frozen. -/
def BRow (e : TypeId) (w : World) (v : Value) (r : List Nat) (s : ByteArray) : Prop :=
  (v = .slice none 0 0 ∧ s = ⟨#[]⟩ ∧ r = []) ∨
  ∃ g cap cur fz, v = .slice (some ⟨g, 0, none⟩) s.size cap ∧ r = [g] ∧ 0 < s.size ∧ w.heap[g]? = some (.cells cur e fz) ∧ fz.2 ≤ s.size ∧ s.size ≤ cap ∧ cap ≤ maxLen ∧ cur.size = cap ∧ cur.toList.take s.size = Lib.strCells s

theorem BRow.nil (e : TypeId) (w : World) : BRow e w (.slice none 0 0) [] ⟨#[]⟩ := .inl ⟨rfl, rfl, rfl⟩
theorem BRow.keep {e : TypeId} {w w' : World} {v : Value} {r S : List Nat} {s : ByteArray} (h : BRow e w v r s) (hf : Fr S w w') (hd : ∀ k, k ∈ r → k ∉ S) : BRow e w' v r s := by
  rcases h with h | ⟨g, cap, cur, fz, hv, hr, h0, hg, rest⟩
  · exact .inl h
  · exact .inr ⟨g, cap, cur, fz, hv, hr, h0, (hf.block g (lt_of_heap hg) (hd g (by simp [hr]))).trans hg, rest⟩
theorem BRow.lt {e : TypeId} {w : World} {v : Value} {r : List Nat} {s : ByteArray} (h : BRow e w v r s) : ∀ k, k ∈ r → k < w.heap.size := by
  intro k hk
  rcases h with ⟨_, _, rfl⟩ | ⟨g, cap, cur, fz, hv, rfl, h0, hg, rest⟩
  · cases hk
  · obtain rfl : k = g := by simpa using hk
    exact lt_of_heap hg
theorem BRow.ownsF {e : TypeId} {w : World} {v : Value} {r : List Nat} {s : ByteArray} (h : BRow e w v r s) : w.ownsRowF 0 e 1 v s.size (Lib.strCells s) := by
  rcases h with ⟨rfl, rfl, rfl⟩ | ⟨g, cap, cur, fz, rfl, rfl, h0, hg, hfz, hc, hm, hs, ht⟩
  · exact World.ownsRowF_nil _ _ _ _
  · exact ⟨by rw [Lib.strCells_length]; simp, .inr ⟨g, cap, cur, fz, rfl, Nat.zero_le _, hg, by omega, hc, hm, by omega, by simpa using ht⟩⟩
theorem strCells_app (s t : ByteArray) : Lib.strCells (s ++ t) = Lib.strCells s ++ Lib.strCells t := by
  simp [Lib.strCells]
theorem app_empty (t : ByteArray) : (⟨#[]⟩ : ByteArray) ++ t = t := by
  apply ByteArray.ext
  simp

section
variable {P : Program} {w : World}
theorem run_bapp_cells (t ty e : TypeId) (i : TypeInfo) (ht : P.underlying t = some (.slice e)) (hi : P.info? e = some i) (hz : i.zero = some (.int .u8 0)) (hs : i.size = 1) (hby : i.bytes = 1)
    {v : Value} {r : List Nat} {s : ByteArray} (h : BRow e w v r s) (a : Addr) (c : Nat) (u : ByteArray) (hu0 : 0 < u.size) (hnews : ∀ j x, (Lib.strCells u)[j]? = some x → w.cell? (a.add j) = some x) (hlen : s.size + u.size ≤ 140737488355328) :
    ∃ v' w' r', (Builtin.append_ #[t, t] ty #[v, .slice (some a) u.size c]).run P w = .ok v' w' ∧ BRow e w' v' r' (s ++ u) ∧ Fr r w w' ∧ (∀ k, k ∈ r' → k ∈ r ∨ w.heap.size ≤ k) := by
  have hul : (Lib.strCells u).length = u.size := Lib.strCells_length u
  have hsz : (s ++ u).size = s.size + u.size := by simp
  rcases h with ⟨rfl, rfl, rfl⟩ | ⟨g, cap, cur, fz, rfl, rfl, h0, hg, hfz, hc, hm, hcs, htake⟩
  · obtain ⟨v', w', h1, h2, h3, h4⟩ := run_append_own (P := P) w w.heap.size t ty e i (.int .u8 0) 1 1 ht hi hz hs hby rfl (by decide) (.slice none 0 0) 0 [] (World.ownsRow_nil _ _ _ _) a u.size c (Lib.strCells u) (by omega) hnews (Lib.strCells_oneCell u) (by simp only [maxLen]; omega) (by omega) (Nat.le_refl _)
    rw [app_empty]
    rcases h2.2 with ⟨_, h5⟩ | ⟨g, cap, cur, rfl, hb, hg, hn, hm, hcs, htk⟩
    · omega
    · refine ⟨_, w', [g], h1, .inr ⟨g, cap, cur, (0, 0), by simp, rfl, hu0, hg, Nat.zero_le _, by omega, hm, by omega, by simpa using htk⟩, ?_, fun k hk => .inr (by simp at hk; omega)⟩
      exact ⟨h3.os, h3.tape, h3.output, h3.size, fun k hk _ => h3.block k hk (by simp [Value.ownBlock])⟩
  · by_cases hroom : s.size + u.size ≤ cap
    · have hr := run_append_roomF (P := P) w t ty e i ht hi g s.size cap cur fz hg (by rw [hs]; omega) a u.size c (Lib.strCells u) (by rw [hs]; omega) hnews (Lib.strCells_oneCell u) hroom (by rw [hs]; omega)
      rw [hs, Nat.mul_one] at hr
      refine ⟨_, _, [g], hr, .inr ⟨g, cap, _, fz, by rw [hsz], rfl, by omega, setRow_heap w g cur _ e _ hg, by omega, by omega, hm, ?_, ?_⟩, ?_, fun k hk => .inl hk⟩
      · simp only [List.size_toArray, List.length_append, List.length_take, List.length_drop, Array.length_toList]
        omega
      · rw [htake, strCells_app, hsz]
        simp only [List.append_assoc]
        rw [← List.append_assoc, ← hul, ← Lib.strCells_length s, ← List.length_append]
        exact List.take_left
      · exact ⟨rfl, rfl, rfl, by simp, fun k _ hk => setRow_other w g k _ (fun e => hk (by simp [e]))⟩
    · have holds : ∀ j x, (Lib.strCells s)[j]? = some x → w.cell? ((⟨g, 0, none⟩ : Addr).add j) = some x := (BRow.ownsF (.inr ⟨g, cap, cur, fz, rfl, rfl, h0, hg, hfz, hc, hm, hcs, htake⟩) : w.ownsRowF 0 e 1 (.slice (some ⟨g, 0, none⟩) s.size cap) s.size (Lib.strCells s)).cells (g := g) rfl
      have hsl : (Lib.strCells s).length = s.size := Lib.strCells_length s
      have hr := run_append_grow (P := P) w t ty e i (.int .u8 0) ht hi hz ⟨g, 0, none⟩ s.size cap (Lib.strCells s) (by rw [hs]; omega) holds a u.size c (Lib.strCells u) (by rw [hs]; omega) hnews (by omega) (by omega) (growslice_fits (by omega) (by rw [hby]; omega))
      have hge := grownCap_ge w (s.size + u.size) cap e
      have hcm2 : grownCap w (s.size + u.size) cap e ≤ maxLen := grownCap_le_maxLen w (s.size + u.size) cap e (by simp only [maxLen]; omega)
      refine ⟨_, _, [w.heap.size], hr, .inr ⟨w.heap.size, _, _, (0, 0), by rw [hsz], rfl, by omega, heap_alloc_new w.drew _, Nat.zero_le _, by omega, hcm2, ?_, ?_⟩, (Fr.refl _ w).drew.alloc _, fun k hk => .inr (by simp at hk; omega)⟩
      · have hz1 : (Value.int IntKind.u8 0).cells.size = 1 := rfl
        simp only [Array.size_append, List.size_toArray, size_zeroCells, hz1, hsl, hul]
        omega
      · simp only [Array.toList_append, List.append_assoc]
        rw [← List.append_assoc, strCells_app, hsz, ← hul, ← hsl, ← List.length_append]
        exact List.take_left

theorem run_bapp_string (t u ty e : TypeId) (i : TypeInfo) (ht : P.underlying t = some (.slice e)) (hu : P.underlying u = some .string) (hi : P.info? e = some i) (hz : i.zero = some (.int .u8 0)) (hs : i.size = 1) (hby : i.bytes = 1)
    {v : Value} {r : List Nat} {s : ByteArray} (h : BRow e w v r s) (x : ByteArray) (hlen : s.size + x.size ≤ 140737488355328) :
    ∃ v' w' r', (Builtin.append_ #[t, u] ty #[v, .string x]).run P w = .ok v' w' ∧ BRow e w' v' r' (s ++ x) ∧ Fr r w w' ∧ (∀ k, k ∈ r' → k ∈ r ∨ w.heap.size ≤ k) := by
  have hul : (Lib.strCells x).length = x.size := Lib.strCells_length x
  have hsz : (s ++ x).size = s.size + x.size := by simp
  rcases h with ⟨rfl, rfl, rfl⟩ | ⟨g, cap, cur, fz, rfl, rfl, h0, hg, hfz, hc, hm, hcs, htake⟩
  · obtain ⟨v', w', h1, h2, h3, h4⟩ := Lib.run_append_own_string (P := P) w w.heap.size t u ty e i ht hu hi hz hs hby (.slice none 0 0) 0 [] (World.ownsRow_nil _ _ _ _) x (by simp only [maxLen]; omega) (by omega) (Nat.le_refl _)
    rw [app_empty]
    have hF : Fr [] w w' := ⟨h3.os, h3.tape, h3.output, h3.size, fun k hk _ => h3.block k hk (by simp [Value.ownBlock])⟩
    rcases h2.2 with ⟨hv, h5⟩ | ⟨g, cap, cur, rfl, hb, hg, hn, hm, hcs, htk⟩
    · have hx : x = ⟨#[]⟩ := by
        apply ByteArray.ext
        have : x.data.size = 0 := by show x.size = 0; omega
        exact Array.eq_empty_of_size_eq_zero this
      exact ⟨v', w', [], h1, .inl ⟨hv, hx, rfl⟩, hF, fun k hk => by cases hk⟩
    · by_cases hx0 : x.size = 0
      · have hv := h4.2 ⟨rfl, hx0⟩
        cases hv
      · exact ⟨_, w', [g], h1, .inr ⟨g, cap, cur, (0, 0), by simp, rfl, by omega, hg, Nat.zero_le _, by omega, hm, by omega, by simpa using htk⟩, hF, fun k hk => .inr (by simp at hk; omega)⟩
  · by_cases hroom : s.size + x.size ≤ cap
    · have hr := Lib.run_append_room_stringF (P := P) w t u ty e i ht hu hi hs g s.size cap cur fz hg hfz x hroom (by omega)
      refine ⟨_, _, [g], hr, .inr ⟨g, cap, _, fz, by rw [hsz], rfl, by omega, setRow_heap w g cur _ e _ hg, by omega, by omega, hm, ?_, ?_⟩, ?_, fun k hk => .inl hk⟩
      · simp only [List.size_toArray, List.length_append, List.length_take, List.length_drop, Array.length_toList]
        omega
      · rw [htake, strCells_app, hsz]
        simp only [List.append_assoc]
        rw [← List.append_assoc, ← hul, ← Lib.strCells_length s, ← List.length_append]
        exact List.take_left
      · exact ⟨rfl, rfl, rfl, by simp, fun k _ hk => setRow_other w g k _ (fun e => hk (by simp [e]))⟩
    · have holds : ∀ j y, (Lib.strCells s)[j]? = some y → w.cell? ((⟨g, 0, none⟩ : Addr).add j) = some y := (BRow.ownsF (.inr ⟨g, cap, cur, fz, rfl, rfl, h0, hg, hfz, hc, hm, hcs, htake⟩) : w.ownsRowF 0 e 1 (.slice (some ⟨g, 0, none⟩) s.size cap) s.size (Lib.strCells s)).cells (g := g) rfl
      have hsl : (Lib.strCells s).length = s.size := Lib.strCells_length s
      have hr := Lib.run_append_grow_string (P := P) w t u ty e i (.int .u8 0) ht hu hi hz ⟨g, 0, none⟩ s.size cap (Lib.strCells s) (by rw [hs]; omega) holds x (by omega) (by omega) (growslice_fits (by omega) (by rw [hby]; omega))
      have hge := grownCap_ge w (s.size + x.size) cap e
      have hcm2 : grownCap w (s.size + x.size) cap e ≤ maxLen := grownCap_le_maxLen w (s.size + x.size) cap e (by simp only [maxLen]; omega)
      refine ⟨_, _, [w.heap.size], hr, .inr ⟨w.heap.size, _, _, (0, 0), by rw [hsz], rfl, by omega, heap_alloc_new w.drew _, Nat.zero_le _, by omega, hcm2, ?_, ?_⟩, (Fr.refl _ w).drew.alloc _, fun k hk => .inr (by simp at hk; omega)⟩
      · have hz1 : (Value.int IntKind.u8 0).cells.size = 1 := rfl
        simp only [Array.size_append, List.size_toArray, size_zeroCells, hz1, hsl, hul]
        omega
      · simp only [Array.toList_append, List.append_assoc]
        rw [← List.append_assoc, strCells_app, hsz, ← hul, ← hsl, ← List.length_append]
        exact List.take_left

variable {ops : Array Oper} {rest : List Oper} {o : Oper} {a : Act} {Q : Exit → Act → World → Prop}
/-- append(b.buf, cells...), for the walk. -/
theorem wpList_bapp_cells (hgd : o.guard = none) (sl x : Operand) (t : TypeId)
    (ho : o.op = .call { callee := .builtin .append, args := #[sl, x], argTypes := #[t, t] }) (e : TypeId) (ht : P.underlying t = some (.slice e))
    (hinfo : (P.info? e).map (fun i => (i.zero, i.size, i.bytes)) = some (some (.int .u8 0), 1, 1))
    (v : Value) (r : List Nat) (s : ByteArray) (hs : a.eval sl = v) (h : BRow e w v r s) (ad : Addr) (c n : Nat) (u : ByteArray) (hx : a.eval x = .slice (some ad) n c) (hn : n = u.size) (hu0 : 0 < u.size)
    (hnews : ∀ j y, (Lib.strCells u)[j]? = some y → w.cell? (ad.add j) = some y) (hlen : s.size + u.size ≤ 140737488355328)
    (hK : ∀ v' w' r', BRow e w' v' r' (s ++ u) → Fr r w w' → (∀ k, k ∈ r' → k ∈ r ∨ w.heap.size ≤ k) → wpList P ops Q rest (a.put o.dst v') w') : wpList P ops Q (o :: rest) a w := by
  obtain ⟨i, hi, hz, h1, h2⟩ := info_parts hinfo
  subst hn
  refine wpList_plain hgd fun K hK' => ?_
  obtain ⟨v', w', r', hr, h2, h3, h4⟩ := run_bapp_cells (P := P) t o.type e i ht hi hz h1 h2 h ad c u hu0 hnews hlen
  unfold Oper.wp execOp
  simp only [ho, resolve, invoke, builtin, Sem.run_bind, Sem.run_pure, Result.andThen_ok, List.map_toArray, List.map_cons, List.map_nil, hs, hx, hr]
  exact hK' _ _ (hK v' w' r' h2 h3 h4)
/-- append(b.buf, s...), for the walk. -/
theorem wpList_bapp_string (hgd : o.guard = none) (sl x : Operand) (t u : TypeId)
    (ho : o.op = .call { callee := .builtin .append, args := #[sl, x], argTypes := #[t, u] }) (e : TypeId) (ht : P.underlying t = some (.slice e)) (hu : P.underlying u = some .string)
    (hinfo : (P.info? e).map (fun i => (i.zero, i.size, i.bytes)) = some (some (.int .u8 0), 1, 1))
    (v : Value) (r : List Nat) (s : ByteArray) (hs : a.eval sl = v) (h : BRow e w v r s) (y : ByteArray) (hx : a.eval x = .string y) (hlen : s.size + y.size ≤ 140737488355328)
    (hK : ∀ v' w' r', BRow e w' v' r' (s ++ y) → Fr r w w' → (∀ k, k ∈ r' → k ∈ r ∨ w.heap.size ≤ k) → wpList P ops Q rest (a.put o.dst v') w') : wpList P ops Q (o :: rest) a w := by
  obtain ⟨i, hi, hz, h1, h2⟩ := info_parts hinfo
  refine wpList_plain hgd fun K hK' => ?_
  obtain ⟨v', w', r', hr, h2, h3, h4⟩ := run_bapp_string (P := P) t u o.type e i ht hu hi hz h1 h2 h y hlen
  unfold Oper.wp execOp
  simp only [ho, resolve, invoke, builtin, Sem.run_bind, Sem.run_pure, Result.andThen_ok, List.map_toArray, List.map_cons, List.map_nil, hs, hx, hr]
  exact hK' _ _ (hK v' w' r' h2 h3 h4)
end

/-! ### A Builder in block b (type T) -/
def Bld (T e : TypeId) (w : World) (b : Nat) (r : List Nat) (s : ByteArray) : Prop :=
  ∃ p v, w.heap[b]? = some (.cells #[p, v] T (0, 0)) ∧ (p = .pointer none ∨ p = .pointer (some ⟨b, 0, none⟩)) ∧ BRow e w v r s ∧ b ∉ r

theorem Bld.lt {T e : TypeId} {w : World} {b : Nat} {r : List Nat} {s : ByteArray} (h : Bld T e w b r s) : ∀ k, k ∈ b :: r → k < w.heap.size := by
  obtain ⟨p, v, hb, _, hr, _⟩ := h
  intro k hk
  rcases List.mem_cons.1 hk with rfl | hk
  · exact lt_of_heap hb
  · exact hr.lt k hk
theorem Bld.keep {T e : TypeId} {w w' : World} {b : Nat} {r S : List Nat} {s : ByteArray} (h : Bld T e w b r s) (hf : Fr S w w') (hd : ∀ k, k ∈ b :: r → k ∉ S) : Bld T e w' b r s := by
  obtain ⟨p, v, hb, hp, hr, hn⟩ := h
  exact ⟨p, v, (hf.block b (lt_of_heap hb) (hd b (by simp))).trans hb, hp, hr.keep hf (fun k hk => hd k (by simp [hk])), hn⟩
/-- A new builder. -/
theorem Bld.new (T e : TypeId) (w : World) {n : Nat} (hn : n = w.heap.size) : Bld T e (w.alloc (.cells #[.pointer none, .slice none 0 0] T)) n [] ⟨#[]⟩ := by
  subst hn
  exact ⟨_, _, heap_alloc_new w _, .inl rfl, BRow.nil _ _, by simp⟩

/-- A builder that was made since the world w0: nothing that lay in w0 has turned. -/
structure BldN (T e : TypeId) (w0 w : World) (b : Nat) (r : List Nat) (s : ByteArray) : Prop where
  bld : Bld T e w b r s
  fr : Fr [] w0 w
  new : ∀ k, k ∈ b :: r → w0.heap.size ≤ k
theorem BldN.make (T e : TypeId) {w0 w : World} (hf : Fr [] w0 w) {n : Nat} (hn : n = w.heap.size) : BldN T e w0 (w.alloc (.cells #[.pointer none, .slice none 0 0] T)) n [] ⟨#[]⟩ :=
  ⟨Bld.new T e w hn, hf.alloc _, fun k hk => by simp at hk; have := hf.size; omega⟩
theorem BldN.step {T e : TypeId} {w0 w w' : World} {b : Nat} {r r' : List Nat} {s s' : ByteArray} (h : BldN T e w0 w b r s) (h1 : Bld T e w' b r' s') (hf : Fr (b :: r) w w') (hn : ∀ k, k ∈ r' → k ∈ r ∨ w.heap.size ≤ k) : BldN T e w0 w' b r' s' :=
  ⟨h1, h.fr.trans hf (fun k hk => .inr (h.new k hk)), fun k hk => by
    rcases List.mem_cons.1 hk with rfl | hk
    · exact h.new _ (by simp)
    · rcases hn k hk with h2 | h2
      · exact h.new k (by simp [h2])
      · have := h.fr.size; omega⟩
/-- Something else was done, that turned none of its blocks. -/
theorem BldN.other {T e : TypeId} {w0 w w' : World} {b : Nat} {r S : List Nat} {s : ByteArray} (h : BldN T e w0 w b r s) (hf : Fr S w w') (hd : ∀ k, k ∈ b :: r → k ∉ S) (hS : ∀ k, k ∈ S → w0.heap.size ≤ k) : BldN T e w0 w' b r s :=
  ⟨h.bld.keep hf hd, h.fr.trans hf (fun k hk => .inr (hS k hk)), h.new⟩

end Go.Proofs.Ytembnjpflllpbaa
