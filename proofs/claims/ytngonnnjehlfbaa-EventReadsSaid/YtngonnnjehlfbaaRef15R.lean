/- The contract of the document's layer 15: Read. -/
import Derived.Test.YtngonnnjehlfbaaEvRead
import Derived.Test.YtngonnnjehlfbaaRef15C
import Derived.Test.YtngonnnjehlfbaaRef03R3
namespace Go.Proofs.Ytngonnnjehlfbaa
open Go.RowKit
set_option linter.unusedVariables false
set_option linter.unusedSimpArgs false

set_option maxHeartbeats 4000000 in
set_option maxRecDepth 100000 in
theorem RRead_calls (w : World) (s : ByteArray) (hs : s.size ≤ 1099511627776) :
    Calls Try.prog 50 #[.string s] w fun e w' => ∃ v r, e = .returned (.tuple #[v, .int .i64 (evRead s).2]) ∧ SRow 56 8 w' v r (evRead s).1.length ((evRead s).1.flatMap Ev.cells) ∧ Fr [] w w' ∧ (∀ k, k ∈ r → w.heap.size ≤ k) := by
  have hq : evRead s = (match evReadL (pNum (some s) 24).1 [] (pNum (some s) 24).2 with
    | none => ([], 10)
    | some (l, st) => if pEnd st = true ∧ l.length ≠ 0 then (l, 0) else ([], 10)) := rfl
  have hle := pNum_lt (some s) 24
  have hsz := pNum_size (some s) 24
  have hcall := fun W b h => R3_NumS_calls W b (some s) 24 (by decide) (by decide) h (by simp only [Option.getD_some]; omega)
  rw [show (24 : Int).toNat = 24 from rfl] at hcall
  generalize pNum (some s) 24 = p at *
  obtain ⟨n, st0⟩ := p
  simp only [Option.getD_some] at hq hle hsz hcall
  have HQ := Lib.hid hq
  have HC := Lib.hid hcall
  clear hq hcall
  go_enter Try.func50, Try.ntmps50
  go_wp2_with fail
  have hra : RS 70 (w.alloc (.cells #[.string s, .bool false] 70)) w.heap.size (some s) := RS.new _ _ s rfl
  have hf1 : Fr [] w (w.alloc (.cells #[.string s, .bool false] 70)) := (Fr.refl _ _).alloc _
  generalize w.alloc (.cells #[.string s, .bool false] 70) = W1 at hra hf1 ⊢
  have hb : w.heap.size ≤ w.heap.size := Nat.le_refl _
  generalize hbb : w.heap.size = b at hra ⊢
  have hb : w.heap.size ≤ b := by omega
  (with_reducible refine (HC.out _ _ hra).mono ?_)
  rintro e w2 ⟨rfl, hr2, hf2⟩
  have hF2 := hf1.trans hf2 (fun k hk => .inr (by simp at hk; omega))
  have HR2 := Lib.hid hr2
  have HF2 := Lib.hid hF2
  clear hf1 hf2 hra hr2 hF2 HC hbb
  go_wp2_with fail
  go_loopw [6, 7, 9] (fun v6 v7 v9 wr => ∃ (k : Nat) (st : Option ByteArray) (acc : List Ev) (r : List Nat), v7 = .int .u64 k ∧ k ≤ n ∧ acc.length = k ∧ (st.getD ⟨#[]⟩).size ≤ 1099511627776 ∧ Hid (evReadL n [] st0 = evReadL (n - k) acc st ∧ RS 70 wr b st ∧ SRow 56 8 wr v6 r k (acc.flatMap Ev.cells) ∧ Fr [] w wr ∧ (∀ k, k ∈ r → w.heap.size ≤ k) ∧ b ∉ r)) (fun _ v7 _ _ => n - (intOf v7).toNat)
  case atStart => exact ⟨0, st0, [], [], rfl, Nat.zero_le _, rfl, by omega, rfl, HR2.out, SRow.nil _ _ _, HF2.out, by simp, by simp⟩
  case round =>
    obtain ⟨i, st, acc, r, rfl, hk, hacc, hst, H⟩ := hrel
    clear HR2 HF2
    by_cases hlk : i < n
    · have hsh := evTake_short st
      have hsz2 := evTake_size st
      obtain ⟨m, hm⟩ : ∃ m, n - i = m + 1 := ⟨n - i - 1, by omega⟩
      have hm' : n - (i + 1) = m := by omega
      have hok := fun h => evReadL_ok (n := m) (acc := acc) (st := st) h
      have hno := fun h => evReadL_no (n := m) (acc := acc) (st := st) h
      obtain ⟨H1, H2, H3, H4, H5, H6⟩ := H.out
      rw [hm] at H1
      have hek : evTake st = evTake st := rfl
      conv at hek => rhs; unfold evTake
      simp only at hek
      have h0 := pNum_size st 21
      have hl0 := pNum_lt st 21
      have hn0 := fun W h => R3_NumS_calls W b st 21 (by decide) (by decide) h (by omega)
      rw [show (21 : Int).toNat = 21 from rfl] at hn0
      generalize pNum st 21 = p at *
      obtain ⟨v0, t0⟩ := p
      simp only at h0 hn0 hl0 hek
      have hw0 : IntKind.i64.wrap (v0 : Int) = (v0 : Int) := by rw [IntKind.wrap_i64]; omega
      have h1 := pNum_size t0 99
      have hl1 := pNum_lt t0 99
      have hn1 := fun W h => R3_NumS_calls W b t0 99 (by decide) (by decide) h (by omega)
      rw [show (99 : Int).toNat = 99 from rfl] at hn1
      generalize pNum t0 99 = p at *
      obtain ⟨v1, t1⟩ := p
      simp only at h1 hn1 hl1 hek
      have hw1 : IntKind.i64.wrap (v1 : Int) = (v1 : Int) := by rw [IntKind.wrap_i64]; omega
      have h2 := pNum_size t1 9
      have hl2 := pNum_lt t1 9
      have hn2 := fun W h => R3_NumS_calls W b t1 9 (by decide) (by decide) h (by omega)
      rw [show (9 : Int).toNat = 9 from rfl] at hn2
      generalize pNum t1 9 = p at *
      obtain ⟨v2, t2⟩ := p
      simp only at h2 hn2 hl2 hek
      have hw2 : IntKind.i64.wrap (v2 : Int) = (v2 : Int) := by rw [IntKind.wrap_i64]; omega
      have h3 := pNum_size t2 1099511627776
      have hl3 := pNum_lt t2 1099511627776
      have hn3 := fun W h => R3_NumS_calls W b t2 1099511627776 (by decide) (by decide) h (by omega)
      rw [show (1099511627776 : Int).toNat = 1099511627776 from rfl] at hn3
      generalize pNum t2 1099511627776 = p at *
      obtain ⟨v3, t3⟩ := p
      simp only at h3 hn3 hl3 hek
      have hw3 : IntKind.i64.wrap (v3 : Int) = (v3 : Int) := by rw [IntKind.wrap_i64]; omega
      have h4 := pNum_size t3 1099511627776
      have hl4 := pNum_lt t3 1099511627776
      have hn4 := fun W h => R3_NumS_calls W b t3 1099511627776 (by decide) (by decide) h (by omega)
      rw [show (1099511627776 : Int).toNat = 1099511627776 from rfl] at hn4
      generalize pNum t3 1099511627776 = p at *
      obtain ⟨v4, t4⟩ := p
      simp only at h4 hn4 hl4 hek
      have hw4 : IntKind.i64.wrap (v4 : Int) = (v4 : Int) := by rw [IntKind.wrap_i64]; omega
      have h5 := pText_size t4 100
      have hn5 := fun W h => R3_Text_calls W b t4 100 (by decide) (by decide) h (by omega)
      generalize pText t4 100 = p at *
      obtain ⟨x5, t5⟩ := p
      simp only at h5 hn5 hek
      have h6 := pText_size t5 100
      have hn6 := fun W h => R3_Text_calls W b t5 100 (by decide) (by decide) h (by omega)
      generalize pText t5 100 = p at *
      obtain ⟨x6, t6⟩ := p
      simp only at h6 hn6 hek
      have h7 := pText_size t6 100
      have hn7 := fun W h => R3_Text_calls W b t6 100 (by decide) (by decide) h (by omega)
      generalize pText t6 100 = p at *
      obtain ⟨x7, t7⟩ := p
      simp only at h7 hn7 hek
      rw [hek] at hok hno hsh hsz2
      simp only at hok hno hsh hsz2
      have hck := fun W => RCheck_calls W v0 v1 v2 v3 v4 x5 x6 x7 ⟨by have := hsh.1; simp only at this ⊢; omega, by have := hsh.2.1; simp only at this ⊢; omega, by have := hsh.2.2; simp only at this ⊢; omega⟩
      generalize (Ev.mk v0 v1 v2 v3 v4 x5 x6 x7).ok = okx at *
      have hcx : ∀ (l : List Ev), (l ++ [(⟨v0, v1, v2, v3, v4, x5, x6, x7⟩ : Ev)]).flatMap Ev.cells = l.flatMap Ev.cells ++ [.int .i64 v0, .int .i64 v1, .int .i64 v2, .int .i64 v3, .int .i64 v4, .string x5, .string x6, .string x7] := fun l => by rw [List.flatMap_append, List.flatMap_cons, List.flatMap_nil, List.append_nil]; rfl
      have HN0 := Lib.hid hn0
      have HN1 := Lib.hid hn1
      have HN2 := Lib.hid hn2
      have HN3 := Lib.hid hn3
      have HN4 := Lib.hid hn4
      have HN5 := Lib.hid hn5
      have HN6 := Lib.hid hn6
      have HN7 := Lib.hid hn7
      have HCK := Lib.hid hck
      have HOK := Lib.hid hok
      have HNO := Lib.hid hno
      have HH1 := Lib.hid H1
      have HCX := Lib.hid hcx
      have H5' := Lib.hid H5
      have H6' := Lib.hid H6
      clear hn0 hn1 hn2 hn3 hn4 hn5 hn6 hn7 hck hok hno H1 H hsh hcx hek h0 h1 h2 h3 h4 h5 h6 h7 hl0 hl1 hl2 hl3 hl4 H5
      go_wp2_with fail
      (with_reducible refine (HN0.out _ H2).mono ?_)
      rintro e w3 ⟨rfl, hr3, hf3⟩
      have H3 := H3.keep hf3 (fun k hk hk2 => H6 (by simp at hk2; rw [← hk2]; exact hk))
      have H4 := H4.trans hf3 (fun k hk => .inr (by simp at hk; omega))
      clear H2 hf3 HN0
      go_wp2_with fail
      have hE := heap_alloc_new w3 (.cells #[.int .i64 v0, .int .i64 0, .int .i64 0, .int .i64 0, .int .i64 0, .string ⟨#[]⟩, .string ⟨#[]⟩, .string ⟨#[]⟩] 56)
      have hfa : Fr [] w3 (w3.alloc (.cells #[.int .i64 v0, .int .i64 0, .int .i64 0, .int .i64 0, .int .i64 0, .string ⟨#[]⟩, .string ⟨#[]⟩, .string ⟨#[]⟩] 56)) := (Fr.refl _ _).alloc _
      generalize w3.alloc (.cells #[.int .i64 v0, .int .i64 0, .int .i64 0, .int .i64 0, .int .i64 0, .string ⟨#[]⟩, .string ⟨#[]⟩, .string ⟨#[]⟩] 56) = W at hE hfa ⊢
      have hbE : b < w3.heap.size := hr3.lt
      have hr3 := hr3.keep hfa (by simp)
      have hEr : w3.heap.size ∉ r := fun hm => by have := H3.lt _ hm; omega
      have H3 := H3.keep hfa (by simp)
      have hwE : w.heap.size ≤ w3.heap.size := H4.size
      have H4 := H4.then hfa
      generalize w3.heap.size = E at hE hEr hbE hwE ⊢
      have hEb : E ∉ [b] := by simp; omega
      clear hfa
      (with_reducible refine (HN1.out _ hr3).mono ?_)
      rintro e w4 ⟨rfl, hr4, hf4⟩
      have H3 := H3.keep hf4 (fun k hk hk2 => H6 (by simp at hk2; rw [← hk2]; exact hk))
      have H4 := H4.trans hf4 (fun k hk => .inr (by simp at hk; omega))
      have hE := blk_keep hE hf4 hEb
      clear hr3 hf4 HN1
      have c1 : w4.cell? ⟨E, 1, none⟩ = some (.int .i64 0) := by rw [Lib.cell_of_heap hE]; rfl
      have f1 : w4.frozen? ⟨E, 1, none⟩ = false := Lib.frozen_of_heap hE 1
      go_wp2_with fail
      clear c1 f1
      have hE : (w4.setCell ⟨E, 1, none⟩ (.int .i64 v1)).heap[E]? = some (.cells #[.int .i64 v0, .int .i64 v1, .int .i64 0, .int .i64 0, .int .i64 0, .string ⟨#[]⟩, .string ⟨#[]⟩, .string ⟨#[]⟩] 56 (0, 0)) := blk_set 1 _ hE
      have hfs := (Fr.refl [E] w4).setCell (p := ⟨E, 1, none⟩) (.inl (by simp)) (.int .i64 v1)
      have hr3 := hr4.set (E := E) (j := 1) (v := .int .i64 v1) hbE
      have H3 := H3.keep hfs (fun k hk hk2 => hEr (by simp at hk2; rw [← hk2]; exact hk))
      have H4 := H4.trans hfs (fun k hk => .inr (by simp at hk; omega))
      clear hfs hr4
      generalize w4.setCell ⟨E, 1, none⟩ (.int .i64 v1) = W at hE hr3 H3 H4 ⊢
      (with_reducible refine (HN2.out _ hr3).mono ?_)
      rintro e w4 ⟨rfl, hr4, hf4⟩
      have H3 := H3.keep hf4 (fun k hk hk2 => H6 (by simp at hk2; rw [← hk2]; exact hk))
      have H4 := H4.trans hf4 (fun k hk => .inr (by simp at hk; omega))
      have hE := blk_keep hE hf4 hEb
      clear hr3 hf4 HN2
      have c1 : w4.cell? ⟨E, 2, none⟩ = some (.int .i64 0) := by rw [Lib.cell_of_heap hE]; rfl
      have f1 : w4.frozen? ⟨E, 2, none⟩ = false := Lib.frozen_of_heap hE 2
      go_wp2_with fail
      clear c1 f1
      have hE : (w4.setCell ⟨E, 2, none⟩ (.int .i64 v2)).heap[E]? = some (.cells #[.int .i64 v0, .int .i64 v1, .int .i64 v2, .int .i64 0, .int .i64 0, .string ⟨#[]⟩, .string ⟨#[]⟩, .string ⟨#[]⟩] 56 (0, 0)) := blk_set 2 _ hE
      have hfs := (Fr.refl [E] w4).setCell (p := ⟨E, 2, none⟩) (.inl (by simp)) (.int .i64 v2)
      have hr3 := hr4.set (E := E) (j := 2) (v := .int .i64 v2) hbE
      have H3 := H3.keep hfs (fun k hk hk2 => hEr (by simp at hk2; rw [← hk2]; exact hk))
      have H4 := H4.trans hfs (fun k hk => .inr (by simp at hk; omega))
      clear hfs hr4
      generalize w4.setCell ⟨E, 2, none⟩ (.int .i64 v2) = W at hE hr3 H3 H4 ⊢
      (with_reducible refine (HN3.out _ hr3).mono ?_)
      rintro e w4 ⟨rfl, hr4, hf4⟩
      have H3 := H3.keep hf4 (fun k hk hk2 => H6 (by simp at hk2; rw [← hk2]; exact hk))
      have H4 := H4.trans hf4 (fun k hk => .inr (by simp at hk; omega))
      have hE := blk_keep hE hf4 hEb
      clear hr3 hf4 HN3
      have c1 : w4.cell? ⟨E, 3, none⟩ = some (.int .i64 0) := by rw [Lib.cell_of_heap hE]; rfl
      have f1 : w4.frozen? ⟨E, 3, none⟩ = false := Lib.frozen_of_heap hE 3
      go_wp2_with fail
      clear c1 f1
      have hE : (w4.setCell ⟨E, 3, none⟩ (.int .i64 v3)).heap[E]? = some (.cells #[.int .i64 v0, .int .i64 v1, .int .i64 v2, .int .i64 v3, .int .i64 0, .string ⟨#[]⟩, .string ⟨#[]⟩, .string ⟨#[]⟩] 56 (0, 0)) := blk_set 3 _ hE
      have hfs := (Fr.refl [E] w4).setCell (p := ⟨E, 3, none⟩) (.inl (by simp)) (.int .i64 v3)
      have hr3 := hr4.set (E := E) (j := 3) (v := .int .i64 v3) hbE
      have H3 := H3.keep hfs (fun k hk hk2 => hEr (by simp at hk2; rw [← hk2]; exact hk))
      have H4 := H4.trans hfs (fun k hk => .inr (by simp at hk; omega))
      clear hfs hr4
      generalize w4.setCell ⟨E, 3, none⟩ (.int .i64 v3) = W at hE hr3 H3 H4 ⊢
      (with_reducible refine (HN4.out _ hr3).mono ?_)
      rintro e w4 ⟨rfl, hr4, hf4⟩
      have H3 := H3.keep hf4 (fun k hk hk2 => H6 (by simp at hk2; rw [← hk2]; exact hk))
      have H4 := H4.trans hf4 (fun k hk => .inr (by simp at hk; omega))
      have hE := blk_keep hE hf4 hEb
      clear hr3 hf4 HN4
      have c1 : w4.cell? ⟨E, 4, none⟩ = some (.int .i64 0) := by rw [Lib.cell_of_heap hE]; rfl
      have f1 : w4.frozen? ⟨E, 4, none⟩ = false := Lib.frozen_of_heap hE 4
      go_wp2_with fail
      clear c1 f1
      have hE : (w4.setCell ⟨E, 4, none⟩ (.int .i64 v4)).heap[E]? = some (.cells #[.int .i64 v0, .int .i64 v1, .int .i64 v2, .int .i64 v3, .int .i64 v4, .string ⟨#[]⟩, .string ⟨#[]⟩, .string ⟨#[]⟩] 56 (0, 0)) := blk_set 4 _ hE
      have hfs := (Fr.refl [E] w4).setCell (p := ⟨E, 4, none⟩) (.inl (by simp)) (.int .i64 v4)
      have hr3 := hr4.set (E := E) (j := 4) (v := .int .i64 v4) hbE
      have H3 := H3.keep hfs (fun k hk hk2 => hEr (by simp at hk2; rw [← hk2]; exact hk))
      have H4 := H4.trans hfs (fun k hk => .inr (by simp at hk; omega))
      clear hfs hr4
      generalize w4.setCell ⟨E, 4, none⟩ (.int .i64 v4) = W at hE hr3 H3 H4 ⊢
      (with_reducible refine (HN5.out _ hr3).mono ?_)
      rintro e w4 ⟨rfl, hr4, hf4⟩
      have H3 := H3.keep hf4 (fun k hk hk2 => H6 (by simp at hk2; rw [← hk2]; exact hk))
      have H4 := H4.trans hf4 (fun k hk => .inr (by simp at hk; omega))
      have hE := blk_keep hE hf4 hEb
      clear hr3 hf4 HN5
      have c1 : w4.cell? ⟨E, 5, none⟩ = some (.string ⟨#[]⟩) := by rw [Lib.cell_of_heap hE]; rfl
      have f1 : w4.frozen? ⟨E, 5, none⟩ = false := Lib.frozen_of_heap hE 5
      go_wp2_with fail
      clear c1 f1
      have hE : (w4.setCell ⟨E, 5, none⟩ (.string x5)).heap[E]? = some (.cells #[.int .i64 v0, .int .i64 v1, .int .i64 v2, .int .i64 v3, .int .i64 v4, .string x5, .string ⟨#[]⟩, .string ⟨#[]⟩] 56 (0, 0)) := blk_set 5 _ hE
      have hfs := (Fr.refl [E] w4).setCell (p := ⟨E, 5, none⟩) (.inl (by simp)) (.string x5)
      have hr3 := hr4.set (E := E) (j := 5) (v := .string x5) hbE
      have H3 := H3.keep hfs (fun k hk hk2 => hEr (by simp at hk2; rw [← hk2]; exact hk))
      have H4 := H4.trans hfs (fun k hk => .inr (by simp at hk; omega))
      clear hfs hr4
      generalize w4.setCell ⟨E, 5, none⟩ (.string x5) = W at hE hr3 H3 H4 ⊢
      (with_reducible refine (HN6.out _ hr3).mono ?_)
      rintro e w4 ⟨rfl, hr4, hf4⟩
      have H3 := H3.keep hf4 (fun k hk hk2 => H6 (by simp at hk2; rw [← hk2]; exact hk))
      have H4 := H4.trans hf4 (fun k hk => .inr (by simp at hk; omega))
      have hE := blk_keep hE hf4 hEb
      clear hr3 hf4 HN6
      have c1 : w4.cell? ⟨E, 6, none⟩ = some (.string ⟨#[]⟩) := by rw [Lib.cell_of_heap hE]; rfl
      have f1 : w4.frozen? ⟨E, 6, none⟩ = false := Lib.frozen_of_heap hE 6
      go_wp2_with fail
      clear c1 f1
      have hE : (w4.setCell ⟨E, 6, none⟩ (.string x6)).heap[E]? = some (.cells #[.int .i64 v0, .int .i64 v1, .int .i64 v2, .int .i64 v3, .int .i64 v4, .string x5, .string x6, .string ⟨#[]⟩] 56 (0, 0)) := blk_set 6 _ hE
      have hfs := (Fr.refl [E] w4).setCell (p := ⟨E, 6, none⟩) (.inl (by simp)) (.string x6)
      have hr3 := hr4.set (E := E) (j := 6) (v := .string x6) hbE
      have H3 := H3.keep hfs (fun k hk hk2 => hEr (by simp at hk2; rw [← hk2]; exact hk))
      have H4 := H4.trans hfs (fun k hk => .inr (by simp at hk; omega))
      clear hfs hr4
      generalize w4.setCell ⟨E, 6, none⟩ (.string x6) = W at hE hr3 H3 H4 ⊢
      (with_reducible refine (HN7.out _ hr3).mono ?_)
      rintro e w4 ⟨rfl, hr4, hf4⟩
      have H3 := H3.keep hf4 (fun k hk hk2 => H6 (by simp at hk2; rw [← hk2]; exact hk))
      have H4 := H4.trans hf4 (fun k hk => .inr (by simp at hk; omega))
      have hE := blk_keep hE hf4 hEb
      clear hr3 hf4 HN7
      have c0 : w4.cell? ⟨E, 0, none⟩ = some (.int .i64 v0) := by rw [Lib.cell_of_heap hE]; rfl
      have c1 : w4.cell? ⟨E, 1, none⟩ = some (.int .i64 v1) := by rw [Lib.cell_of_heap hE]; rfl
      have c2 : w4.cell? ⟨E, 2, none⟩ = some (.int .i64 v2) := by rw [Lib.cell_of_heap hE]; rfl
      have c3 : w4.cell? ⟨E, 3, none⟩ = some (.int .i64 v3) := by rw [Lib.cell_of_heap hE]; rfl
      have c4 : w4.cell? ⟨E, 4, none⟩ = some (.int .i64 v4) := by rw [Lib.cell_of_heap hE]; rfl
      have c5 : w4.cell? ⟨E, 5, none⟩ = some (.string x5) := by rw [Lib.cell_of_heap hE]; rfl
      have c6 : w4.cell? ⟨E, 6, none⟩ = some (.string x6) := by rw [Lib.cell_of_heap hE]; rfl
      have c7 : w4.cell? ⟨E, 7, none⟩ = some (.string ⟨#[]⟩) := by rw [Lib.cell_of_heap hE]; rfl
      have f1 : w4.frozen? ⟨E, 7, none⟩ = false := Lib.frozen_of_heap hE 7
      go_wp2_with fail
      clear f1
      have hE : (w4.setCell ⟨E, 7, none⟩ (.string x7)).heap[E]? = some (.cells #[.int .i64 v0, .int .i64 v1, .int .i64 v2, .int .i64 v3, .int .i64 v4, .string x5, .string x6, .string x7] 56 (0, 0)) := blk_set 7 _ hE
      have hfs := (Fr.refl [E] w4).setCell (p := ⟨E, 7, none⟩) (.inl (by simp)) (.string x7)
      have hr3 := hr4.set (E := E) (j := 7) (v := .string x7) hbE
      have H3 := H3.keep hfs (fun k hk hk2 => hEr (by simp at hk2; rw [← hk2]; exact hk))
      have H4 := H4.trans hfs (fun k hk => .inr (by simp at hk; omega))
      clear hfs hr4
      generalize w4.setCell ⟨E, 7, none⟩ (.string x7) = W at hE hr3 H3 H4 ⊢
      (with_reducible refine (HCK.out _).mono ?_)
      rintro e w5 ⟨rfl, hf5⟩
      have hE := blk_keep hE hf5 (by simp)
      have hr4 := hr3.keep hf5 (by simp)
      have H3 := H3.keep hf5 (by simp)
      have H4 := H4.then hf5
      clear hr3 hf5 HCK c0 c1 c2 c3 c4 c5 c6 c7
      cases okx with
      | false =>
        have hn := HNO.out (by trivial)
        have he : evRead s = ([], 10) := by rw [HQ.out, HH1.out, hn]
        clear hE hr4 H3 hn
        have HE := Lib.hid he
        clear he HNO HOK HH1
        go_wp2_with fail
        (try rw [Exit.noGoto_ret])
        go_ret2
        rw [HE.out]
        exact ⟨_, [], rfl, SRow.nil _ _ _, H4, by simp⟩
      | true =>
        have hn := HOK.out (by trivial)
        have HN := Lib.hid hn
        clear hn HNO HOK
        generalize hcs : acc.flatMap Ev.cells = cs at H3
        have HCS := Lib.hid hcs
        have HR4 := Lib.hid hr4
        have HH3 := Lib.hid H3
        have HH4 := Lib.hid H4
        clear hcs hr4 H3 H4
        have c0 : w5.cell? ⟨E, 0, none⟩ = some (.int .i64 v0) := by rw [Lib.cell_of_heap hE]; rfl
        have c1 : w5.cell? ⟨E, 1, none⟩ = some (.int .i64 v1) := by rw [Lib.cell_of_heap hE]; rfl
        have c2 : w5.cell? ⟨E, 2, none⟩ = some (.int .i64 v2) := by rw [Lib.cell_of_heap hE]; rfl
        have c3 : w5.cell? ⟨E, 3, none⟩ = some (.int .i64 v3) := by rw [Lib.cell_of_heap hE]; rfl
        have c4 : w5.cell? ⟨E, 4, none⟩ = some (.int .i64 v4) := by rw [Lib.cell_of_heap hE]; rfl
        have c5 : w5.cell? ⟨E, 5, none⟩ = some (.string x5) := by rw [Lib.cell_of_heap hE]; rfl
        have c6 : w5.cell? ⟨E, 6, none⟩ = some (.string x6) := by rw [Lib.cell_of_heap hE]; rfl
        have c7 : w5.cell? ⟨E, 7, none⟩ = some (.string x7) := by rw [Lib.cell_of_heap hE]; rfl
        have HNEW := Lib.hid hE
        clear hE
        go_wp2_with (at_builtin; refine wpList_sapp rfl _ _ 49 rfl 56 Try.underlying49 _ 8 88 infoEvent rfl (by decide) u6 r i _ rfl (HH3.out.keep ((Fr.refl [] _).alloc _) (by simp)) ⟨w5.heap.size, 0, none⟩ 1 1 [.int .i64 v0, .int .i64 v1, .int .i64 v2, .int .i64 v3, .int .i64 v4, .string x5, .string x6, .string x7] rfl rfl (by exact RdV.new _ _ 56 rfl rfl) (by simp [Value.oneCell']) (by simp only [maxLen]; omega) (by omega) ?_)
        intro v' w6 r' h6 hf6 hn6
        clear c0 c1 c2 c3 c4 c5 c6 c7
        go_wp2
        have h7 : Fr r w5 w6 := ((Fr.refl r w5).alloc _).trans hf6 (fun k hk => .inl hk)
        have hbr : b ∉ r' := fun hm => (hn6 b hm).elim H6'.out (fun h => by have := HR4.out.lt; first | omega | (simp at h; omega))
        refine ⟨⟨i + 1, t7, acc ++ [⟨v0, v1, v2, v3, v4, x5, x6, x7⟩], r', by go_num, by omega, by rw [List.length_append]; simp; omega, by omega, by rw [HH1.out, HN.out, hm'], HR4.out.keep h7 H6'.out, ?_, HH4.out.trans h7 (fun k hk => .inr (H5'.out k hk)), fun k hk => (hn6 k hk).elim (H5'.out k) (fun h => by have := HH4.out.size; first | omega | (simp at h; omega)), hbr⟩, by simp only [intOf]; omega⟩
        rw [HCX.out, HCS.out]
        exact h6
    · obtain rfl : i = n := by omega
      obtain ⟨H1, H2, H3, H4, H5, H6⟩ := H.out
      rw [Nat.sub_self] at H1
      have hq : evRead s = (if pEnd st = true ∧ acc.length ≠ 0 then (acc, 0) else ([], 10)) := by rw [HQ.out, H1]; rfl
      have hend := fun W h => R3_End_calls W b st h
      generalize pEnd st = pe at *
      have HQ2 := Lib.hid hq
      have HEND := Lib.hid hend
      generalize hcs : acc.flatMap Ev.cells = cs at H3
      have HCS := Lib.hid hcs
      have HH3 := Lib.hid H3
      have HH4 := Lib.hid H4
      have HH5 := Lib.hid H5
      clear hq hend hcs H H1 HQ H3 H4 H5 H6
      obtain ⟨A1, c1, rfl, -, -, -, -⟩ := HH3.out.reads
      go_wp2_with fail
      (with_reducible refine (HEND.out _ H2).mono ?_)
      rintro e w9 ⟨rfl, rfl⟩
      clear H2 HEND
      cases pe with
      | false =>
        go_wp2_with fail
        go_ret2
        have he : evRead s = ([], 10) := by rw [HQ2.out, if_neg (by simp)]
        rw [he]
        exact ⟨_, [], rfl, SRow.nil _ _ _, HH4.out, by simp⟩
      | true =>
        by_cases h0 : acc.length = 0
        · have hz : ((i : Int) == 0) = true := beq_iff_eq.2 (by omega)
          go_wp2_with fail
          go_ret2
          have he : evRead s = ([], 10) := by rw [HQ2.out, if_neg (by simp [h0])]
          rw [he]
          exact ⟨_, [], rfl, SRow.nil _ _ _, HH4.out, by simp⟩
        · have hz : ((i : Int) == 0) = false := beq_eq_false_iff_ne.2 (by omega)
          go_wp2_with fail
          go_ret2
          have he : evRead s = (acc, 0) := by rw [HQ2.out, if_pos ⟨by trivial, h0⟩]
          rw [he]
          simp only
          rw [hacc, HCS.out]
          exact ⟨_, r, rfl, HH3.out, HH4.out, HH5.out⟩
end Go.Proofs.Ytngonnnjehlfbaa
