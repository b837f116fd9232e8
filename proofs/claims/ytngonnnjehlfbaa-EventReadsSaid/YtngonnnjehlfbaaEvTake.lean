/- The contract of event.take: an event is read. -/
import Derived.Test.YtngonnnjehlfbaaEvent2
import Derived.Test.YtngonnnjehlfbaaPackR2
import Derived.Deep.RegionHeld3
import Derived.Laws.Tables
import Derived.KernelRfl
namespace Go.Proofs.Ytngonnnjehlfbaa
open Go.RowKit
set_option linter.unusedVariables false
set_option linter.unusedSimpArgs false

def evTake (st : Option ByteArray) : Ev × Option ByteArray :=
  let p0 := pNum st 21
  let p1 := pNum p0.2 99
  let p2 := pNum p1.2 9
  let p3 := pNum p2.2 1099511627776
  let p4 := pNum p3.2 1099511627776
  let p5 := pText p4.2 100
  let p6 := pText p5.2 100
  let p7 := pText p6.2 100
  (⟨p0.1, p1.1, p2.1, p3.1, p4.1, p5.1, p6.1, p7.1⟩, p7.2)

set_option maxHeartbeats 2000000 in
set_option maxRecDepth 100000 in
theorem take1_calls (w : World) (bx b : Nat) (st : Option ByteArray) (most : Nat) {mi : Int} (hmi : mi = most) (hm : most < 9223372036854775808) (h : RS 91 w b st) (hs : (st.getD ⟨#[]⟩).size ≤ 140737488355328) (hx : w.cell? ⟨bx, 0, none⟩ = some (.pointer (some ⟨b, 0, none⟩))) :
    Calls Try.prog 64 #[.int .i64 mi, .pointer (some ⟨bx, 0, none⟩)] w fun e w' => e = .returned (.int .i64 (pNum st most).1) ∧ RS 91 w' b (pNum st most).2 ∧ Fr [b] w w' := by
  subst hmi
  have hw := u64_wrap_nat hm
  have hle := pNum_lt st most
  have hcall := fun W h => R_Num_calls W b st (most : Int) (by omega) (by omega) h hs
  rw [Int.toNat_natCast] at hcall
  generalize pNum st most = p at *
  obtain ⟨v, st2⟩ := p
  simp only at hle hcall ⊢
  have hw2 : IntKind.i64.wrap (v : Int) = (v : Int) := by rw [IntKind.wrap_i64]; omega
  have HC := Lib.hid hcall
  have H := Lib.hid h
  clear hcall h hs hm hle
  go_enter Try.func64, Try.ntmps64
  go_wp2_with fail
  (with_reducible refine (HC.out _ H.out).mono ?_)
  rintro e w' ⟨rfl, hra, hf⟩
  go_wp2_with fail
  go_ret
  exact ⟨rfl, hra, hf⟩

theorem blk_set {w : World} {b : Nat} {cs : Array Value} {T : TypeId} (j : Nat) (v : Value) (h : w.heap[b]? = some (.cells cs T (0, 0))) : (w.setCell ⟨b, j, none⟩ v).heap[b]? = some (.cells (cs.setIfInBounds j v) T (0, 0)) := by
  rw [setCell_eq_setRow w b j cs T (0, 0) v h]
  exact setRow_heap w b cs _ T (0, 0) h
theorem evTake_size (st : Option ByteArray) : ((evTake st).2.getD ⟨#[]⟩).size ≤ (st.getD ⟨#[]⟩).size := by
  unfold evTake
  simp only
  have h0 := pNum_size st 21
  generalize pNum st 21 = p0 at *
  have h1 := pNum_size p0.2 99
  generalize pNum p0.2 99 = p1 at *
  have h2 := pNum_size p1.2 9
  generalize pNum p1.2 9 = p2 at *
  have h3 := pNum_size p2.2 1099511627776
  generalize pNum p2.2 1099511627776 = p3 at *
  have h4 := pNum_size p3.2 1099511627776
  generalize pNum p3.2 1099511627776 = p4 at *
  have h5 := pText_size p4.2 100
  generalize pText p4.2 100 = p5 at *
  have h6 := pText_size p5.2 100
  generalize pText p5.2 100 = p6 at *
  have h7 := pText_size p6.2 100
  generalize pText p6.2 100 = p7 at *
  omega

/-- What lies about while an event is read: the reader's pointer, and the place of the result. -/
structure Tk (w wi : World) (b : Nat) : Prop where
  hx : wi.heap[w.heap.size]? = some (.cells #[.pointer (some ⟨b, 0, none⟩)] 63 (0, 0))
  hR : wi.heap[w.heap.size + 1]? = some (.cells #[.int .i64 0, .int .i64 0, .int .i64 0, .int .i64 0, .int .i64 0, .string ⟨#[]⟩, .string ⟨#[]⟩, .string ⟨#[]⟩] 56 (0, 0))
  fr : Fr [b] w wi
theorem Tk.keep {w wi wj : World} {b : Nat} {S : List Nat} (h : Tk w wi b) (hf : Fr S wi wj) (h0 : w.heap.size ∉ S) (h1 : w.heap.size + 1 ∉ S) (hS : ∀ k, k ∈ S → k ∈ [b] ∨ w.heap.size ≤ k) : Tk w wj b :=
  ⟨(hf.block _ (lt_of_heap h.hx) h0).trans h.hx, (hf.block _ (lt_of_heap h.hR) h1).trans h.hR, h.fr.trans hf hS⟩
theorem Tk.call {w wi wj : World} {b : Nat} (h : Tk w wi b) (hb : b < w.heap.size) (hf : Fr [b] wi wj) : Tk w wj b :=
  h.keep hf (by simp; omega) (by simp; omega) (fun k hk => .inl hk)
theorem Tk.set {w wi : World} {b E j : Nat} {v : Value} (h : Tk w wi b) (hE : w.heap.size + 2 ≤ E) : Tk w (wi.setCell ⟨E, j, none⟩ v) b :=
  h.keep ((Fr.refl [E] wi).setCell (.inl (by simp)) v) (by simp; omega) (by simp; omega) (fun k hk => .inr (by simp at hk; omega))
theorem Tk.cell {w wi : World} {b : Nat} (h : Tk w wi b) : wi.cell? ⟨w.heap.size, 0, none⟩ = some (.pointer (some ⟨b, 0, none⟩)) := by rw [Lib.cell_of_heap h.hx]; rfl
theorem RS.set {T : TypeId} {wi : World} {b E j : Nat} {v : Value} {st : Option ByteArray} (h : RS T wi b st) (hE : b < E) : RS T (wi.setCell ⟨E, j, none⟩ v) b st :=
  h.keep ((Fr.refl [E] wi).setCell (.inl (by simp)) v) (by simp; omega)
theorem blk_keep {w w' : World} {E : Nat} {o : Obj} {S : List Nat} (h : w.heap[E]? = some o) (hf : Fr S w w') (hd : E ∉ S) : w'.heap[E]? = some o := (hf.block E (lt_of_heap h) hd).trans h
theorem infoEv8 : (Try.prog.info? 56).map (·.size) = some 8 := by kernel_rfl

set_option maxHeartbeats 4000000 in
set_option maxRecDepth 100000 in
theorem take_calls (w : World) (b : Nat) (st : Option ByteArray) (h : RS 91 w b st) (hs : (st.getD ⟨#[]⟩).size ≤ 140737488355328) :
    Calls Try.prog 61 #[.pointer (some ⟨b, 0, none⟩)] w fun e w' => e = .returned (evTake st).1.val ∧ RS 91 w' b (evTake st).2 ∧ Fr [b] w w' := by
  have hmf : ∀ (fn : Fn) (first cap : Array Value) (w : World), (Instr.makeFunc fn first cap).run Try.prog w = .ok (.func fn first cap) w := fun _ _ _ _ => rfl
  have hblt := h.lt
  unfold evTake Ev.val
  simp only
  have h0 := pNum_size st 21
  have hn0 := fun W bx hr hx => take1_calls W bx b st 21 (mi := 21) rfl (by decide) hr hs hx
  generalize pNum st 21 = p0 at *
  obtain ⟨v0, st0⟩ := p0
  simp only at h0 hn0 ⊢
  have h1 := pNum_size st0 99
  have hn1 := fun W bx hr hx => take1_calls W bx b st0 99 (mi := 99) rfl (by decide) hr (by omega) hx
  generalize pNum st0 99 = p1 at *
  obtain ⟨v1, st1⟩ := p1
  simp only at h1 hn1 ⊢
  have h2 := pNum_size st1 9
  have hn2 := fun W bx hr hx => take1_calls W bx b st1 9 (mi := 9) rfl (by decide) hr (by omega) hx
  generalize pNum st1 9 = p2 at *
  obtain ⟨v2, st2⟩ := p2
  simp only at h2 hn2 ⊢
  have h3 := pNum_size st2 1099511627776
  have hn3 := fun W bx hr hx => take1_calls W bx b st2 1099511627776 (mi := 1099511627776) rfl (by decide) hr (by omega) hx
  generalize pNum st2 1099511627776 = p3 at *
  obtain ⟨v3, st3⟩ := p3
  simp only at h3 hn3 ⊢
  have h4 := pNum_size st3 1099511627776
  have hn4 := fun W bx hr hx => take1_calls W bx b st3 1099511627776 (mi := 1099511627776) rfl (by decide) hr (by omega) hx
  generalize pNum st3 1099511627776 = p4 at *
  obtain ⟨v4, st4⟩ := p4
  simp only at h4 hn4 ⊢
  have h5 := pText_size st4 100
  have ht5 := fun W hr => R_Text_calls W b st4 100 (by decide) (by decide) hr (by omega)
  generalize pText st4 100 = p5 at *
  obtain ⟨x5, st5⟩ := p5
  simp only at h5 ht5 ⊢
  have h6 := pText_size st5 100
  have ht6 := fun W hr => R_Text_calls W b st5 100 (by decide) (by decide) hr (by omega)
  generalize pText st5 100 = p6 at *
  obtain ⟨x6, st6⟩ := p6
  simp only at h6 ht6 ⊢
  have h7 := pText_size st6 100
  have ht7 := fun W hr => R_Text_calls W b st6 100 (by decide) (by decide) hr (by omega)
  generalize pText st6 100 = p7 at *
  obtain ⟨x7, st7⟩ := p7
  simp only at h7 ht7 ⊢
  have HN0 := Lib.hid hn0
  have HN1 := Lib.hid hn1
  have HN2 := Lib.hid hn2
  have HN3 := Lib.hid hn3
  have HN4 := Lib.hid hn4
  have HT5 := Lib.hid ht5
  have HT6 := Lib.hid ht6
  have HT7 := Lib.hid ht7
  have H := Lib.hid h
  clear hn0 hn1 hn2 hn3 hn4 ht5 ht6 ht7 h0 h1 h2 h3 h4 h5 h6 h7 hs h
  go_enter Try.func61, Try.ntmps61
  go_wp2_with fail
  have hT0 : Tk w ((w.alloc (.cells #[.pointer (some ⟨b, 0, none⟩)] 63)).alloc (.cells #[.int .i64 0, .int .i64 0, .int .i64 0, .int .i64 0, .int .i64 0, .string ⟨#[]⟩, .string ⟨#[]⟩, .string ⟨#[]⟩] 56)) b := by
    refine ⟨blk_keep (heap_alloc_new w _) ((Fr.refl [] _).alloc _) (by simp), ?_, ((Fr.refl _ _).alloc _).alloc _⟩
    have := heap_alloc_new (w.alloc (.cells #[.pointer (some ⟨b, 0, none⟩)] 63)) (.cells #[.int .i64 0, .int .i64 0, .int .i64 0, .int .i64 0, .int .i64 0, .string ⟨#[]⟩, .string ⟨#[]⟩, .string ⟨#[]⟩] 56)
    simpa using this
  have hr0 := H.out.keep (((Fr.refl [] w).alloc (.cells #[.pointer (some ⟨b, 0, none⟩)] 63)).alloc (.cells #[.int .i64 0, .int .i64 0, .int .i64 0, .int .i64 0, .int .i64 0, .string ⟨#[]⟩, .string ⟨#[]⟩, .string ⟨#[]⟩] 56)) (by simp)
  generalize (w.alloc (.cells #[.pointer (some ⟨b, 0, none⟩)] 63)).alloc (.cells #[.int .i64 0, .int .i64 0, .int .i64 0, .int .i64 0, .int .i64 0, .string ⟨#[]⟩, .string ⟨#[]⟩, .string ⟨#[]⟩] 56) = W0 at hT0 hr0 ⊢
  (with_reducible refine (HN0.out _ _ hr0 hT0.cell).mono ?_)
  rintro e w1 ⟨rfl, hr1, hf1⟩
  have hT1 := hT0.call hblt hf1
  clear hT0 hr0 hf1 HN0
  go_wp2_with fail
  have hE1 := heap_alloc_new w1 (.cells #[.int .i64 v0, .int .i64 0, .int .i64 0, .int .i64 0, .int .i64 0, .string ⟨#[]⟩, .string ⟨#[]⟩, .string ⟨#[]⟩] 56)
  have hr1 := hr1.keep ((Fr.refl [] w1).alloc (.cells #[.int .i64 v0, .int .i64 0, .int .i64 0, .int .i64 0, .int .i64 0, .string ⟨#[]⟩, .string ⟨#[]⟩, .string ⟨#[]⟩] 56)) (by simp)
  have hEX : w.heap.size + 2 ≤ w1.heap.size := by have := lt_of_heap hT1.hR; omega
  have hT1 := hT1.keep ((Fr.refl [] w1).alloc (.cells #[.int .i64 v0, .int .i64 0, .int .i64 0, .int .i64 0, .int .i64 0, .string ⟨#[]⟩, .string ⟨#[]⟩, .string ⟨#[]⟩] 56)) (by simp) (by simp) (by simp)
  generalize w1.alloc (.cells #[.int .i64 v0, .int .i64 0, .int .i64 0, .int .i64 0, .int .i64 0, .string ⟨#[]⟩, .string ⟨#[]⟩, .string ⟨#[]⟩] 56) = W1 at hE1 hT1 hr1 ⊢
  generalize w1.heap.size = E at hE1 hEX ⊢
  have hbE : b ≠ E := by omega
  have hEb : E ∉ [b] := by simp; omega
  (with_reducible refine (HN1.out _ _ hr1 hT1.cell).mono ?_)
  rintro e w2 ⟨rfl, hr2, hf2⟩
  have hT2 := hT1.call hblt hf2
  have hE2 := blk_keep hE1 hf2 hEb
  clear hT1 hr1 hE1 hf2 HN1
  go_wp2_with fail
  (with_reducible refine (HN2.out _ _ hr2 hT2.cell).mono ?_)
  rintro e w3 ⟨rfl, hr3, hf3⟩
  have hT3 := hT2.call hblt hf3
  have hE3 := blk_keep hE2 hf3 hEb
  clear hT2 hr2 hE2 hf3 HN2
  have c1 : w3.cell? ⟨E, 1, none⟩ = some (.int .i64 0) := by rw [Lib.cell_of_heap hE3]; rfl
  have c2 : w3.cell? ⟨E, 2, none⟩ = some (.int .i64 0) := by rw [Lib.cell_of_heap hE3]; rfl
  have f1 : w3.frozen? ⟨E, 1, none⟩ = false := Lib.frozen_of_heap hE3 1
  have f2 : w3.frozen? ⟨E, 2, none⟩ = false := Lib.frozen_of_heap hE3 2
  go_wp2_with fail
  clear c1 c2 f1 f2
  have hE4 : ((w3.setCell ⟨E, 1, none⟩ (.int .i64 v1)).setCell ⟨E, 2, none⟩ (.int .i64 v2)).heap[E]? = some (.cells #[.int .i64 v0, .int .i64 v1, .int .i64 v2, .int .i64 0, .int .i64 0, .string ⟨#[]⟩, .string ⟨#[]⟩, .string ⟨#[]⟩] 56 (0, 0)) := blk_set 2 _ (blk_set 1 _ hE3)
  have hT4 := (hT3.set (j := 1) (v := .int .i64 v1) hEX).set (j := 2) (v := .int .i64 v2) hEX
  have hr4 := (hr3.set (E := E) (j := 1) (v := .int .i64 v1) (by omega)).set (E := E) (j := 2) (v := .int .i64 v2) (by omega)
  generalize (w3.setCell ⟨E, 1, none⟩ (.int .i64 v1)).setCell ⟨E, 2, none⟩ (.int .i64 v2) = W4 at hE4 hT4 hr4 ⊢
  clear hE3 hT3 hr3
  (with_reducible refine (HN3.out _ _ hr4 hT4.cell).mono ?_)
  rintro e w5 ⟨rfl, hr5, hf5⟩
  have hT5 := hT4.call hblt hf5
  have hE5 := blk_keep hE4 hf5 hEb
  clear hT4 hr4 hE4 hf5 HN3
  go_wp2_with fail
  (with_reducible refine (HN4.out _ _ hr5 hT5.cell).mono ?_)
  rintro e w6 ⟨rfl, hr6, hf6⟩
  have hT6 := hT5.call hblt hf6
  have hE6 := blk_keep hE5 hf6 hEb
  clear hT5 hr5 hE5 hf6 HN4
  have c1 : w6.cell? ⟨E, 3, none⟩ = some (.int .i64 0) := by rw [Lib.cell_of_heap hE6]; rfl
  have c2 : w6.cell? ⟨E, 4, none⟩ = some (.int .i64 0) := by rw [Lib.cell_of_heap hE6]; rfl
  have f1 : w6.frozen? ⟨E, 3, none⟩ = false := Lib.frozen_of_heap hE6 3
  have f2 : w6.frozen? ⟨E, 4, none⟩ = false := Lib.frozen_of_heap hE6 4
  go_wp2_with fail
  clear c1 c2 f1 f2
  have hE7 : ((w6.setCell ⟨E, 3, none⟩ (.int .i64 v3)).setCell ⟨E, 4, none⟩ (.int .i64 v4)).heap[E]? = some (.cells #[.int .i64 v0, .int .i64 v1, .int .i64 v2, .int .i64 v3, .int .i64 v4, .string ⟨#[]⟩, .string ⟨#[]⟩, .string ⟨#[]⟩] 56 (0, 0)) := blk_set 4 _ (blk_set 3 _ hE6)
  have hT7 := (hT6.set (j := 3) (v := .int .i64 v3) hEX).set (j := 4) (v := .int .i64 v4) hEX
  have hr7 := (hr6.set (E := E) (j := 3) (v := .int .i64 v3) (by omega)).set (E := E) (j := 4) (v := .int .i64 v4) (by omega)
  generalize (w6.setCell ⟨E, 3, none⟩ (.int .i64 v3)).setCell ⟨E, 4, none⟩ (.int .i64 v4) = W7 at hE7 hT7 hr7 ⊢
  clear hE6 hT6 hr6
  have hX0 : W7.cell? ⟨w.heap.size, 0, none⟩ = some (.pointer (some ⟨b, 0, none⟩)) := hT7.cell
  have hset : ∀ (W : World) (j : Nat) (v : Value), W.cell? ⟨w.heap.size, 0, none⟩ = some (.pointer (some ⟨b, 0, none⟩)) → (W.setCell ⟨E, j, none⟩ v).cell? ⟨w.heap.size, 0, none⟩ = some (.pointer (some ⟨b, 0, none⟩)) := fun W j v h => ((Fr.refl [E] W).setCell (p := ⟨E, j, none⟩) (.inl (by simp)) v).cell' h (by simp; omega)
  have HSET := Lib.hid hset
  clear hset
  have hT7d : Tk w W7.drew b := ⟨hT7.hx, hT7.hR, hT7.fr.drew⟩
  have hE7d : W7.drew.heap[E]? = some (.cells #[.int .i64 v0, .int .i64 v1, .int .i64 v2, .int .i64 v3, .int .i64 v4, .string ⟨#[]⟩, .string ⟨#[]⟩, .string ⟨#[]⟩] 56 (0, 0)) := hE7
  have hr7d : RS 91 W7.drew b st4 := hr7
  have HEX := Lib.hid hEX
  have HBE := Lib.hid hbE
  clear hT7 hE7 hr7 hEX hbE
  have HBX := Lib.hid hblt
  clear hblt
  go_region_held3 (fun w' => w'.cell? ⟨w.heap.size, 0, none⟩ = some (.pointer (some ⟨b, 0, none⟩))) (first | exact hx10 | exact HSET.out _ _ _ hx10 | exact HSET.out _ _ _ (HSET.out _ _ _ hx10) | exact HSET.out _ _ _ (HSET.out _ _ _ (HSET.out _ _ _ hx10)) | exact hx9 | exact hx8 | go_keep)
    (first
    | (go_at_call 41; (with_reducible refine (HT7.out _ hr9).mono ?_); rintro e w10 ⟨rfl, hr10, hf10⟩; (have hT10 := hT9.call HBX.out hf10); (have hE10 := blk_keep hE9 hf10 hEb); (have hx10 := hT10.cell); (have c5 : w10.cell? ⟨E, 5, none⟩ = some (.string ⟨#[]⟩) := by rw [Lib.cell_of_heap hE10]; rfl); (have c6 : w10.cell? ⟨E, 6, none⟩ = some (.string ⟨#[]⟩) := by rw [Lib.cell_of_heap hE10]; rfl); (have c7 : w10.cell? ⟨E, 7, none⟩ = some (.string ⟨#[]⟩) := by rw [Lib.cell_of_heap hE10]; rfl); (have f5 : w10.frozen? ⟨E, 5, none⟩ = false := Lib.frozen_of_heap hE10 5); (have f6 : w10.frozen? ⟨E, 6, none⟩ = false := Lib.frozen_of_heap hE10 6); (have f7 : w10.frozen? ⟨E, 7, none⟩ = false := Lib.frozen_of_heap hE10 7))
    | (go_at_call 41; (with_reducible refine (HT6.out _ hr8).mono ?_); rintro e w9 ⟨rfl, hr9, hf9⟩; (have hT9 := hT8.call HBX.out hf9); (have hE9 := blk_keep hE8 hf9 hEb); (have hx9 := hT9.cell))
    | (go_at_call 41; (with_reducible refine (HT5.out _ hr7d).mono ?_); rintro e w8 ⟨rfl, hr8, hf8⟩; (have hT8 := hT7d.call HBX.out hf8); (have hE8 := blk_keep hE7d hf8 hEb); (have hx8 := hT8.cell)))
  all_goals
    have hE11 : (((w10.setCell ⟨E, 5, none⟩ (.string x5)).setCell ⟨E, 6, none⟩ (.string x6)).setCell ⟨E, 7, none⟩ (.string x7)).heap[E]? = some (.cells #[.int .i64 v0, .int .i64 v1, .int .i64 v2, .int .i64 v3, .int .i64 v4, .string x5, .string x6, .string x7] 56 (0, 0)) := blk_set 7 _ (blk_set 6 _ (blk_set 5 _ hE10))
    have hT11 := ((hT10.set (j := 5) (v := .string x5) HEX.out).set (j := 6) (v := .string x6) HEX.out).set (j := 7) (v := .string x7) HEX.out
    have hr11 := ((hr10.set (E := E) (j := 5) (v := .string x5) (by have := HEX.out; have := HBX.out; omega)).set (E := E) (j := 6) (v := .string x6) (by have := HEX.out; have := HBX.out; omega)).set (E := E) (j := 7) (v := .string x7) (by have := HEX.out; have := HBX.out; omega)
    generalize ((w10.setCell ⟨E, 5, none⟩ (.string x5)).setCell ⟨E, 6, none⟩ (.string x6)).setCell ⟨E, 7, none⟩ (.string x7) = W11 at hE11 hT11 hr11 ⊢
    clear hx10 hx9 hx8 c5 c6 c7 f5 f6 f7 hT10 hE10 hr10 hX0 hT7d hE7d hr7d hT8 hE8 hr8 hT9 hE9 hr9 hf10 hf9 hf8 HSET HT5 HT6 HT7
    have c0 : W11.cell? ⟨E, 0, none⟩ = some (.int .i64 v0) := by rw [Lib.cell_of_heap hE11]; rfl
    have c1 : W11.cell? ⟨E, 1, none⟩ = some (.int .i64 v1) := by rw [Lib.cell_of_heap hE11]; rfl
    have c2 : W11.cell? ⟨E, 2, none⟩ = some (.int .i64 v2) := by rw [Lib.cell_of_heap hE11]; rfl
    have c3 : W11.cell? ⟨E, 3, none⟩ = some (.int .i64 v3) := by rw [Lib.cell_of_heap hE11]; rfl
    have c4 : W11.cell? ⟨E, 4, none⟩ = some (.int .i64 v4) := by rw [Lib.cell_of_heap hE11]; rfl
    have c5 : W11.cell? ⟨E, 5, none⟩ = some (.string x5) := by rw [Lib.cell_of_heap hE11]; rfl
    have c6 : W11.cell? ⟨E, 6, none⟩ = some (.string x6) := by rw [Lib.cell_of_heap hE11]; rfl
    have c7 : W11.cell? ⟨E, 7, none⟩ = some (.string x7) := by rw [Lib.cell_of_heap hE11]; rfl
    have h1c : (#[.int .i64 v0, .int .i64 v1, .int .i64 v2, .int .i64 v3, .int .i64 v4, .string x5, .string x6, .string x7] : Array Value).all (·.oneCell') = true := by simp [Value.oneCell']
    have hRR := hT11.hR
    go_wp2_with (refine wpList_store_row rfl _ _ _ rfl (w.heap.size + 1) #[.int .i64 v0, .int .i64 v1, .int .i64 v2, .int .i64 v3, .int .i64 v4, .string x5, .string x6, .string x7] rfl rfl 56 _ hRR infoEv8 rfl h1c ?_)
    have hlt := lt_of_heap hRR
    have hfin : ∀ j, (W11.setRow (w.heap.size + 1) #[.int .i64 v0, .int .i64 v1, .int .i64 v2, .int .i64 v3, .int .i64 v4, .string x5, .string x6, .string x7]).cell? ⟨w.heap.size + 1, j, none⟩ = _ := fun j => cell_setRow_same W11 (w.heap.size + 1) j _ #[.int .i64 v0, .int .i64 v1, .int .i64 v2, .int .i64 v3, .int .i64 v4, .string x5, .string x6, .string x7] _ _ hRR
    have hFr : Fr [w.heap.size + 1] W11 (W11.setRow (w.heap.size + 1) #[.int .i64 v0, .int .i64 v1, .int .i64 v2, .int .i64 v3, .int .i64 v4, .string x5, .string x6, .string x7]) := ⟨rfl, rfl, rfl, by rw [setRow_size]; exact Nat.le_refl _, fun k hk hk2 => setRow_other _ _ _ _ (by simpa using hk2)⟩
    clear c0 c1 c2 c3 c4 c5 c6 c7 hE11
    generalize W11.setRow (w.heap.size + 1) #[.int .i64 v0, .int .i64 v1, .int .i64 v2, .int .i64 v3, .int .i64 v4, .string x5, .string x6, .string x7] = W12 at hfin hFr ⊢
    have d0 := hfin 0
    have d1 := hfin 1
    have d2 := hfin 2
    have d3 := hfin 3
    have d4 := hfin 4
    have d5 := hfin 5
    have d6 := hfin 6
    have d7 := hfin 7
    refine bodyPost_ret (v := .agg #[.int .i64 v0, .int .i64 v1, .int .i64 v2, .int .i64 v3, .int .i64 v4, .string x5, .string x6, .string x7]) ?_ rfl ⟨rfl, hr11.keep hFr (by have := HBX.out; simp; omega), hT11.fr.trans hFr (fun k hk => .inr (by simp at hk; omega))⟩
    have hres : Try.f61.results = #[.cell 2 56] := by kernel_rfl
    simp only [results, hres]
    simp at d0 d1 d2 d3 d4 d5 d6 d7
    go_simp

end Go.Proofs.Ytngonnnjehlfbaa
