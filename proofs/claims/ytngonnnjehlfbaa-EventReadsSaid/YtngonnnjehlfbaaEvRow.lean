/- Rows of events: as they are read, and as the statements of layer 15 make them right. -/
import Derived.Test.YtngonnnjehlfbaaEvent2
import Derived.Test.YtngonnnjehlfbaaFlat
import Derived.Test.YtngonnnjehlfbaaRows2
import Derived.Test.YtngonnnjehlfbaaMask
namespace Go.Proofs.Ytngonnnjehlfbaa
open Go.RowKit
set_option linter.unusedVariables false
set_option linter.unusedSimpArgs false

/-- The i-th event of a row that begins at an address. -/
structure Ev8 (w : World) (ad : Addr) (i : Nat) (e : Ev) : Prop where
  c0 : w.cell? (ad.add (i * 8)) = some (.int .i64 e.k)
  c1 : w.cell? ⟨(ad.add (i * 8)).block, (ad.add (i * 8)).off + 1, none⟩ = some (.int .i64 e.ac)
  c2 : w.cell? ⟨(ad.add (i * 8)).block, (ad.add (i * 8)).off + 2, none⟩ = some (.int .i64 e.pu)
  c3 : w.cell? ⟨(ad.add (i * 8)).block, (ad.add (i * 8)).off + 3, none⟩ = some (.int .i64 e.at')
  c4 : w.cell? ⟨(ad.add (i * 8)).block, (ad.add (i * 8)).off + 4, none⟩ = some (.int .i64 e.n)
  c5 : w.cell? ⟨(ad.add (i * 8)).block, (ad.add (i * 8)).off + 5, none⟩ = some (.string e.a)
  c6 : w.cell? ⟨(ad.add (i * 8)).block, (ad.add (i * 8)).off + 6, none⟩ = some (.string e.b)
  c7 : w.cell? ⟨(ad.add (i * 8)).block, (ad.add (i * 8)).off + 7, none⟩ = some (.string e.c)
theorem Ev8.keep {w w' : World} {ad : Addr} {i : Nat} {e : Ev} {S : List Nat} (h : Ev8 w ad i e) (hf : Fr S w w') (hd : ad.block ∉ S) : Ev8 w' ad i e := by
  have hb : (ad.add (i * 8)).block = ad.block := by unfold Addr.add; split <;> rfl
  have hd' : (ad.add (i * 8)).block ∉ S := by rw [hb]; exact hd
  exact ⟨hf.cell' h.c0 hd', hf.cell' h.c1 hd', hf.cell' h.c2 hd', hf.cell' h.c3 hd', hf.cell' h.c4 hd', hf.cell' h.c5 hd', hf.cell' h.c6 hd', hf.cell' h.c7 hd'⟩
/-- A row of events is read at an address. -/
def EvR (w : World) (A : Option Addr) (l : List Ev) : Prop := ∀ i e, l[i]? = some e → ∃ ad, A = some ad ∧ Ev8 w ad i e
theorem EvR.keep {w w' : World} {A : Option Addr} {l : List Ev} {S : List Nat} (h : EvR w A l) (hf : Fr S w w') (hd : ∀ ad, A = some ad → ad.block ∉ S) : EvR w' A l := fun i e hi => by
  obtain ⟨ad, ha, h8⟩ := h i e hi
  exact ⟨ad, ha, h8.keep hf (hd ad ha)⟩
theorem addr8_at (ad : Addr) (m j : Nat) (hj : 0 < j) : (⟨(ad.add m).block, (ad.add m).off + j, none⟩ : Addr) = ad.add (m + j) := by
  unfold Addr.add
  by_cases h : m = 0
  · subst h
    simp [show j ≠ 0 by omega]
  · simp [h, Nat.add_assoc]
theorem EvR.of_cells {w : World} {A : Option Addr} {l : List Ev} (h : ∀ i e, l[i]? = some e → ∃ ad, A = some ad ∧ ∀ j v, e.cells[j]? = some v → w.cell? (ad.add (i * 8 + j)) = some v) : EvR w A l := by
  intro i e hi
  obtain ⟨ad, ha, hc⟩ := h i e hi
  refine ⟨ad, ha, hc 0 _ rfl, ?_, ?_, ?_, ?_, ?_, ?_, ?_⟩
  all_goals
    rw [addr8_at _ _ _ (by decide)]
    exact hc _ _ rfl
theorem EvR.of_rdr {w : World} {A : Option Addr} {l : List Ev} (h : RdR w A 8 (l.map Ev.cells)) : EvR w A l := by
  refine EvR.of_cells fun i e hi => ?_
  have hm : (l.map Ev.cells)[i]? = some e.cells := by rw [List.getElem?_map, hi]; rfl
  obtain ⟨ad, ha, _⟩ := h i _ hm 0 _ rfl
  refine ⟨ad, ha, fun j v hj => ?_⟩
  obtain ⟨ad', ha', hc⟩ := h i _ hm j v hj
  rw [ha] at ha'
  injection ha' with ha'
  rw [ha']
  exact hc
theorem flat8 (l : List Ev) : ∀ (i : Nat) (e : Ev), l[i]? = some e → ∀ j, j < 8 → (l.flatMap Ev.cells)[i * 8 + j]? = e.cells[j]? := by
  induction l with
  | nil => intro i e h; simp at h
  | cons x l ih =>
    intro i e h j hj
    rw [List.flatMap_cons]
    have h8 : x.cells.length = 8 := rfl
    cases i with
    | zero =>
      simp only [List.getElem?_cons_zero, Option.some.injEq] at h
      subst h
      rw [List.getElem?_append_left (by omega)]
      congr 1
      omega
    | succ i =>
      rw [List.getElem?_append_right (by omega)]
      have := ih i e (by simpa using h) j hj
      rw [← this]
      congr 1
      omega
theorem EvR.of_flat {w : World} {A : Option Addr} {l : List Ev} (h : RdV w A (l.flatMap Ev.cells)) : EvR w A l := by
  refine EvR.of_cells fun i e hi => ?_
  obtain ⟨ad, ha, _⟩ := h (i * 8 + 0) _ (by rw [flat8 l i e hi 0 (by decide)]; rfl)
  refine ⟨ad, ha, fun j v hj => ?_⟩
  have hj8 : j < 8 := by have := (List.getElem?_eq_some_iff.1 hj).1; exact this
  obtain ⟨ad', ha', hc⟩ := h (i * 8 + j) v (by rw [flat8 l i e hi j hj8]; exact hj)
  rw [ha] at ha'
  injection ha' with ha'
  rw [ha']
  exact hc
/-- Its numbers and its texts are a machine's. -/
def Ev.bd (e : Ev) : Prop := Bd .i64 e.k ∧ Bd .i64 e.ac ∧ Bd .i64 e.pu ∧ Bd .i64 e.at' ∧ Bd .i64 e.n ∧ e.a.size ≤ maxLen ∧ e.b.size ≤ maxLen ∧ e.c.size ≤ maxLen
theorem Ev.of_row {row : List Value} (h : FRow [.int .i64, .int .i64, .int .i64, .int .i64, .int .i64, .str, .str, .str] row) : ∃ e : Ev, row = e.cells ∧ e.bd := by
  rcases row with _ | ⟨v0, _ | ⟨v1, _ | ⟨v2, _ | ⟨v3, _ | ⟨v4, _ | ⟨v5, _ | ⟨v6, _ | ⟨v7, _ | ⟨v8, row⟩⟩⟩⟩⟩⟩⟩⟩⟩
  · exact h.elim
  · exact h.2.elim
  · exact h.2.2.elim
  · exact h.2.2.2.elim
  · exact h.2.2.2.2.elim
  · exact h.2.2.2.2.2.elim
  · exact h.2.2.2.2.2.2.elim
  · exact h.2.2.2.2.2.2.2.elim
  · obtain ⟨⟨k, e0, hk⟩, ⟨m, e1, hm⟩, ⟨z, e2, hz⟩, ⟨n, e3, hn⟩, ⟨o, e4, ho⟩, ⟨p, e5, hp⟩, ⟨q, e6, hq⟩, ⟨r, e7, hr⟩, _⟩ := h
    exact ⟨⟨k, m, z, n, o, p, q, r⟩, by rw [e0, e1, e2, e3, e4, e5, e6, e7]; rfl, hk, hm, hz, hn, ho, hp, hq, hr⟩
  · exact h.2.2.2.2.2.2.2.2.elim
theorem Ev.of_rows : ∀ (l : List (List Value)), (∀ row, row ∈ l → FRow [.int .i64, .int .i64, .int .i64, .int .i64, .int .i64, .str, .str, .str] row) → ∃ es : List Ev, l = es.map Ev.cells ∧ es.length = l.length ∧ ∀ e, e ∈ es → e.bd
  | [], _ => ⟨[], rfl, rfl, fun e h => by cases h⟩
  | row :: l, h => by
    obtain ⟨e, he, hb⟩ := Ev.of_row (h row (by simp))
    obtain ⟨es, h1, h2, h3⟩ := Ev.of_rows l (fun r hr => h r (by simp [hr]))
    refine ⟨e :: es, by rw [he, h1]; rfl, by simp [h2], fun x hx => ?_⟩
    rcases List.mem_cons.1 hx with rfl | hx
    · exact hb
    · exact h3 x hx

/-- An event made right. -/
def evRight (e : Ev) : Ev := ⟨1 + e.k % 21, e.ac % 64, e.pu % 8, e.at' % 1099511627776, e.n % 1099511627776, shortB e.a 100, shortB e.b 100, shortB e.c 100⟩
def evRights (l : List Ev) : List Ev := (l.take 24).map evRight
theorem Ev.ok_of {e : Ev} (h : ((1 ≤ e.k ∧ e.k ≤ 21) ∧ (0 ≤ e.ac ∧ e.ac ≤ 99) ∧ (0 ≤ e.pu ∧ e.pu ≤ 9) ∧ (0 ≤ e.at' ∧ e.at' ≤ 1099511627776) ∧ (0 ≤ e.n ∧ e.n ≤ 1099511627776)) ∧ e.a.size ≤ 100 ∧ e.b.size ≤ 100 ∧ e.c.size ≤ 100) : e.ok = true := by
  obtain ⟨⟨⟨h1, h2⟩, ⟨h3, h4⟩, ⟨h5, h6⟩, ⟨h7, h8⟩, ⟨h9, h10⟩⟩, h11, h12, h13⟩ := h
  simp only [Ev.ok, Ev.nums, Bool.and_eq_true, decide_eq_true_eq]
  exact ⟨⟨⟨⟨⟨⟨h1, h2⟩, h3, h4⟩, h5, h6⟩, h7, h8⟩, h9, h10⟩, ⟨h11, h12⟩, h13⟩
theorem evRight_ok (e : Ev) : (evRight e).ok = true := by
  have h1 : 0 ≤ e.k % 21 ∧ e.k % 21 < 21 := by omega
  have h2 : 0 ≤ e.ac % 64 ∧ e.ac % 64 < 64 := by omega
  have h3 : 0 ≤ e.pu % 8 ∧ e.pu % 8 < 8 := by omega
  have h4 : 0 ≤ e.at' % 1099511627776 ∧ e.at' % 1099511627776 < 1099511627776 := by omega
  have h5 : 0 ≤ e.n % 1099511627776 ∧ e.n % 1099511627776 < 1099511627776 := by omega
  refine Ev.ok_of ⟨⟨⟨?_, ?_⟩, ⟨?_, ?_⟩, ⟨?_, ?_⟩, ⟨?_, ?_⟩, ⟨?_, ?_⟩⟩, shortB_size e.a 100, shortB_size e.b 100, shortB_size e.c 100⟩ <;> simp only [evRight] <;> omega
theorem evRights_ok (l : List Ev) : ∀ e, e ∈ evRights l → e.ok = true := by
  intro e h
  obtain ⟨x, _, rfl⟩ := List.mem_map.1 h
  exact evRight_ok x
theorem evRights_length (l : List Ev) : (evRights l).length ≤ 24 := by
  unfold evRights
  rw [List.length_map, List.length_take]
  omega
theorem infoEvent : (Try.prog.info? 56).map (fun i => (i.zero, i.size, i.bytes)) = some (some (.agg #[.int .i64 0, .int .i64 0, .int .i64 0, .int .i64 0, .int .i64 0, .string ⟨#[]⟩, .string ⟨#[]⟩, .string ⟨#[]⟩]), 8, 88) := by kernel_rfl
theorem rem21 (k : Int) : (k.tmod 21 + 21).tmod 21 = k % 21 := by
  have h1 : -21 < k.tmod 21 := Int.lt_tmod_of_pos _ (by decide)
  rw [Int.tmod_eq_emod_of_nonneg (by omega)]
  have h2 := Int.tmod_eq_emod (a := k) (b := 21)
  split at h2
  · omega
  · simp at h2
    omega
end Go.Proofs.Ytngonnnjehlfbaa
