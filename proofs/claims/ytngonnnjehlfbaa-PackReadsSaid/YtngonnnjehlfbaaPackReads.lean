/- The law PackReads: for any bytes and any calls the Go function returns true (its walk). -/
import Derived.Test.YtngonnnjehlfbaaShort03
import Derived.Test.YtngonnnjehlfbaaAwake03
import Derived.Test.YtngonnnjehlfbaaRef03R3
import Derived.Test.YtngonnnjehlfbaaFew03
import Derived.Test.YtngonnnjehlfbaaFlat
import Derived.Deep.RegionWith
import Derived.Deep.RegionHeld3
namespace Go.Proofs.Ytngonnnjehlfbaa
open Go.RowKit
set_option linter.unusedVariables false
set_option linter.unusedSimpArgs false

theorem addr_at (ad : Addr) (m j : Nat) (hj : 0 < j) : (⟨(ad.add m).block, (ad.add m).off + j, none⟩ : Addr) = ad.add (m + j) := by
  unfold Addr.add
  by_cases h : m = 0
  · subst h
    simp [show j ≠ 0 by omega]
  · simp [h, Nat.add_assoc]
theorem frow4 {row : List Value} (h : FRow [.int .i64, .int .u64, .int .i64, .int .i64] row) : ∃ kind most size many, row = [.int .i64 kind, .int .u64 most, .int .i64 size, .int .i64 many] ∧ Bd .i64 kind ∧ Bd .u64 most ∧ Bd .i64 size ∧ Bd .i64 many := by
  rcases row with _ | ⟨v0, _ | ⟨v1, _ | ⟨v2, _ | ⟨v3, _ | ⟨v4, row⟩⟩⟩⟩⟩
  · exact h.elim
  · exact h.2.elim
  · exact h.2.2.elim
  · exact h.2.2.2.elim
  · obtain ⟨h0, h1, h2, h3, _⟩ := h
    obtain ⟨k, e0, hk⟩ := h0
    obtain ⟨m, e1, hm⟩ := h1
    obtain ⟨z, e2, hz⟩ := h2
    obtain ⟨n, e3, hn⟩ := h3
    exact ⟨k, m, z, n, by rw [e0, e1, e2, e3], hk, hm, hz, hn⟩
  · exact h.2.2.2.2.elim
theorem SRow.max {w : World} {v : Value} {r : List Nat} {n : Nat} {xs : List Value} {e : TypeId} {sz : Nat} (h : SRow e sz w v r n xs) : n ≤ maxLen := by
  obtain ⟨A, cap, _, h1, h2, _⟩ := h.reads
  exact Nat.le_trans h1 h2
theorem pTexts_size (most : Int) : ∀ (n : Nat) (acc : List ByteArray) (st : Option ByteArray), ((pTexts most n acc st).2.getD ⟨#[]⟩).size ≤ (st.getD ⟨#[]⟩).size := by
  intro n
  induction n with
  | zero => intro acc st; exact Nat.le_refl _
  | succ n ih =>
    intro acc st
    have h := pText_size st most
    unfold pTexts
    split
    · exact Nat.zero_le _
    · next x s he =>
      rw [he] at h
      exact Nat.le_trans (ih _ _) h
theorem pRow_size (st : Option ByteArray) (many most : Int) : ((pRow st many most).2.getD ⟨#[]⟩).size ≤ (st.getD ⟨#[]⟩).size := by
  have h := pNum_size st many.toNat
  unfold pRow
  split
  · exact Nat.zero_le _
  · split
    · exact Nat.zero_le _
    · next n s he =>
      rw [he] at h
      exact Nat.le_trans (pTexts_size _ _ _ _) h
theorem row_new {f : Nat} {args : Array Value} {W : World} {b a1 b1 : Nat} {T : TypeId} {x : List ByteArray} {st : Option ByteArray}
    (h : Calls Try.prog f args W fun e w' => ∃ v r, e = .returned v ∧ SRow 9 1 w' v r x.length (x.map .string) ∧ RS T w' b st ∧ Fr [b] W w' ∧ (∀ k, k ∈ r → W.heap.size ≤ k)) (ha : a1 < W.heap.size) (hb : b1 < W.heap.size) :
    Calls Try.prog f args W fun e w' => ∃ A1 c1, e = .returned (.slice A1 x.length c1) ∧ RdV w' A1 (x.map .string) ∧ x.length ≤ maxLen ∧ (∀ ad, A1 = some ad → ad.block ≠ a1 ∧ ad.block ≠ b1) ∧ RS T w' b st ∧ Fr [b] W w' := by
  refine h.mono ?_
  rintro e w' ⟨v, r, rfl, hsr, hrs, hf, hnew⟩
  have hmx := hsr.max
  obtain ⟨A1, c1, rfl, _, _, hrd, hA1⟩ := hsr.reads
  exact ⟨A1, c1, rfl, hrd, hmx, fun ad h => (by have := hnew _ (hA1 ad h); omega), hrs, hf⟩
/-- Both readers, alike. -/
structure Two (w wr : World) (a b : Nat) (st : Option ByteArray) : Prop where
  ra : RS 91 wr a st
  rb : RS 70 wr b st
  fr : Fr [] w wr
  na : w.heap.size ≤ a
  nb : w.heap.size ≤ b
  ne : a ≠ b
  sz : (st.getD ⟨#[]⟩).size ≤ 90

set_option maxHeartbeats 2000000 in
set_option maxRecDepth 100000 in
theorem PackReads_walk (w : World) (s0 : ByteArray) (hs0 : s0.size ≤ 140737488351232) (A : Option Addr) (cap : Nat) (l : List (List Value)) (hr : RdR w A 4 l) (hrow : ∀ row, row ∈ l → FRow [.int .i64, .int .u64, .int .i64, .int .i64] row) (hll : l.length ≤ maxLen) :
    Calls Try.prog 10 #[.string s0, .slice A l.length cap] w fun e w' => e = .returned (.bool true) ∧ Fr [] w w' := by
  have h90 := shortB_size s0 90
  unfold maxLen at hll
  have HR := Lib.hid hr
  have HROW := Lib.hid hrow
  clear hr hrow
  go_enter Try.func10, Try.ntmps10
  go_wp2_with fail
  (with_reducible refine (awake03_calls _).mono ?_)
  rintro e w1 ⟨rfl, hf1⟩
  go_wp2_with fail
  (with_reducible refine (short03_calls s0 90 90 rfl _ (by omega) (by omega)).mono ?_)
  rintro e w2 ⟨rfl, rfl⟩
  generalize shortB s0 90 = s at h90 ⊢
  clear hs0
  go_wp2_with fail
  (with_reducible refine (pack_Read_calls _ s).mono ?_)
  rintro e w2 ⟨a, rfl, ha, hra, hf2⟩
  have hF2 := hf1.then hf2
  have haw : w.heap.size ≤ a := by have := hf1.size; omega
  have hal := hra.lt
  have hT : Two w (w2.alloc (.cells #[.string s, .bool false] 70)) a w2.heap.size (some s) :=
    ⟨hra.keep ((Fr.refl [] _).alloc _) (by simp), RS.new _ _ s rfl, hF2.alloc _, haw, hF2.size, by omega, h90⟩
  have HT := Lib.hid hT
  clear hf1 hf2 ha hra hF2 haw hal hT
  go_wp2_with fail
  generalize w2.alloc (.cells #[.string s, .bool false] 70) = W2 at HT ⊢
  generalize w2.heap.size = b at HT ⊢
  go_loopw [8] (fun v8 wr => ∃ (i : Nat) (st : Option ByteArray), v8 = .int .i64 i ∧ i ≤ 12 ∧ Hid (Two w wr a b st)) (fun v8 _ => 12 - (intOf v8).toNat)
  case atStart => exact ⟨0, some s, rfl, by decide, HT.out⟩
  case round =>
    clear HT
    obtain ⟨i, st, rfl, hi12, H⟩ := hrel
    by_cases hlt : i < l.length ∧ i < 12
    · obtain ⟨hl1, hl2⟩ := hlt
      obtain ⟨row, hrw⟩ : ∃ row, l[i]? = some row := ⟨_, List.getElem?_eq_getElem hl1⟩
      have hfr := HROW.out row (List.mem_of_getElem? hrw)
      obtain ⟨kind, most, size, many, rfl, hk, hm, hz, hn⟩ := frow4 hfr
      obtain ⟨ad, rfl, hc0⟩ := HR.out i _ hrw 0 _ rfl
      obtain ⟨ad', e1, hc1⟩ := HR.out i _ hrw 1 _ rfl
      injection e1 with e1
      subst e1
      obtain ⟨ad', e1, hc2⟩ := HR.out i _ hrw 2 _ rfl
      injection e1 with e1
      subst e1
      obtain ⟨ad', e1, hc3⟩ := HR.out i _ hrw 3 _ rfl
      injection e1 with e1
      subst e1
      have d0 := H.out.fr.cell' hc0 (by simp)
      have d1 := H.out.fr.cell' hc1 (by simp)
      have d2 := H.out.fr.cell' hc2 (by simp)
      have d3 := H.out.fr.cell' hc3 (by simp)
      rw [Nat.add_zero] at d0
      rw [← addr_at _ _ _ (by decide)] at d1 d2 d3
      have ⟨hk0, hk1⟩ := hk.i64
      have ⟨hm0, hm1⟩ := hm.u64
      have ⟨hz0, hz1⟩ := hz.i64
      have ⟨hn0, hn1⟩ := hn.i64
      clear hc0 hc1 hc2 hc3 hfr hrw hk hm hz hn
      obtain ⟨T, hT, hT0, hT1⟩ : ∃ T, kind.tmod 3 = T ∧ -3 < T ∧ T < 3 := ⟨_, rfl, Int.lt_tmod_of_pos _ (by decide), Int.tmod_lt_of_pos _ (by decide)⟩
      have hcases : T = 0 ∨ T = 1 ∨ T = -1 ∨ T = 2 ∨ T = -2 := by omega
      have hX : ∀ W0, W0 = wr.alloc (.cells #[.int .i64 kind, .int .u64 most, .int .i64 size, .int .i64 many] 72) → Two w W0 a b st ∧ W0.heap[wr.heap.size]? = some (.cells #[.int .i64 kind, .int .u64 most, .int .i64 size, .int .i64 many] 72 (0, 0)) ∧ a < wr.heap.size ∧ b < wr.heap.size := by
        intro W0 hW0
        subst hW0
        have hf : Fr [] wr (wr.alloc (.cells #[.int .i64 kind, .int .u64 most, .int .i64 size, .int .i64 many] 72)) := (Fr.refl _ _).alloc _
        exact ⟨⟨H.out.ra.keep hf (by simp), H.out.rb.keep hf (by simp), H.out.fr.then hf, H.out.na, H.out.nb, H.out.ne, H.out.sz⟩, heap_alloc_new _ _, H.out.ra.lt, H.out.rb.lt⟩
      have HX := Lib.hid hX
      clear hX H hT0 hT1
      rcases hcases with rfl | rfl | rfl | rfl | rfl
      · go_wp2_with fail
        have hX1 := HX.out _ rfl
        generalize wr.alloc (.cells #[.int .i64 kind, .int .u64 most, .int .i64 size, .int .i64 many] 72) = W0 at hX1 ⊢
        obtain ⟨h2, hcell, hal, hbl⟩ := hX1
        have x2 : W0.cell? ⟨wr.heap.size, 1, none⟩ = some (.int .u64 most) := by rw [Lib.cell_of_heap hcell]; rfl
        have ra0 : RS 91 W0.drew a st := h2.ra
        have rb0 : RS 70 W0.drew b st := h2.rb
        have hsz : (st.getD ⟨#[]⟩).size ≤ 140737488355328 := by have := h2.sz; omega
        have hna : wr.heap.size ≠ a := by omega
        have hnb : wr.heap.size ≠ b := by omega
        have hab := h2.ne
        have hF0 : Fr [] w W0.drew := h2.fr.drew
        have hwa := h2.na
        have hwb := h2.nb
        have hs90 := h2.sz
        clear h2 hcell HX d0 d1 d2 d3
        generalize wr.heap.size = B at *
        go_region_held3 (fun w' => w'.cell? ⟨B, 1, none⟩ = some (.int .u64 most)) (first | exact x2' | exact x2 | go_keep) (first
          | (go_at_call 38; refine (R_Num_calls _ a st most hm0 hm1 (by assumption) hsz).mono ?_; rintro e w' ⟨rfl, hra', hfa'⟩; (have x2' : w'.cell? ⟨B, 1, none⟩ = some (.int .u64 most) := hfa'.cell' (by first | assumption | exact x2) (by simpa using hna)); (have rb' := RS.keep (T := 70) (b := b) (by assumption) hfa' (by simpa using hab.symm)); (have hF' := Fr.trans (S := []) (a := w) (by assumption) hfa' (fun k hk => .inr (by simp at hk; omega))))
          | (go_at_call 45; refine (R3_NumS_calls _ b st most hm0 hm1 (by assumption) hsz).mono ?_; rintro e w' ⟨rfl, hrb', hfb'⟩; (have x2' : w'.cell? ⟨B, 1, none⟩ = some (.int .u64 most) := hfb'.cell' (by first | assumption | exact x2) (by simpa using hnb)); (have ra' := RS.keep (T := 91) (b := a) (by assumption) hfb' (by simpa using hab)); (have hF' := Fr.trans (S := []) (a := w) (by assumption) hfb' (fun k hk => .inr (by simp at hk; omega)))))
        all_goals
          clear x2 ra0 rb0 hF0
          generalize hp : pNum st most.toNat = p at *
          obtain ⟨x, st2⟩ := p
          have hs2 := pNum_size st most.toNat
          rw [hp] at hs2
          have hA : RS 91 w' a st2 := by assumption
          have hB : RS 70 w' b st2 := by assumption
          have hG : Two w w' a b st2 := ⟨hA, hB, hF', hwa, hwb, hab, by simp only at hs2; omega⟩
          have HG := Lib.hid hG
          clear hG hs2 hp
          have k0 := hB.cell0
          have k1 := hB.cell1
          cases st2
          all_goals
            simp only [Option.getD_none, Option.getD_some, Option.isNone_none, Option.isNone_some] at k0 k1
            go_wp2_with fail
            go_quiet (first
              | (go_at_call 39; exact Calls.quiet_of_same ((R_Good_calls _ a _ (by exact hA)).mono fun e w9 hh => ⟨hh.1, hh.2.symm⟩))
              | (go_at_call 46; exact Calls.quiet_of_same ((R_End_calls _ a _ (by exact hA)).mono fun e w9 hh => ⟨hh.1, hh.2.symm⟩))
              | (go_at_call 47; exact Calls.quiet_of_same ((R3_End_calls _ b _ (by exact hB)).mono fun e w9 hh => ⟨hh.1, hh.2.symm⟩))
              | (go_at_call 40; exact Calls.quiet_of_same ((R_Rest_calls _ a _ (by exact hA)).mono fun e w9 hh => ⟨hh.1, hh.2.symm⟩)))
            all_goals
              go_wp2_with fail
              refine ⟨⟨i + 1, _, by go_num, by omega, HG.out.ra, HG.out.rb, HG.out.fr.drewN _, HG.out.na, HG.out.nb, HG.out.ne, HG.out.sz⟩, by simp only [intOf]; omega⟩
      · go_wp2_with fail
        have hX1 := HX.out _ rfl
        generalize wr.alloc (.cells #[.int .i64 kind, .int .u64 most, .int .i64 size, .int .i64 many] 72) = W0 at hX1 ⊢
        obtain ⟨h2, hcell, hal, hbl⟩ := hX1
        have x2 : W0.cell? ⟨wr.heap.size, 2, none⟩ = some (.int .i64 size) := by rw [Lib.cell_of_heap hcell]; rfl
        have ra0 : RS 91 W0.drew a st := h2.ra
        have rb0 : RS 70 W0.drew b st := h2.rb
        have hsz : (st.getD ⟨#[]⟩).size ≤ 140737488355328 := by have := h2.sz; omega
        have hna : wr.heap.size ≠ a := by omega
        have hnb : wr.heap.size ≠ b := by omega
        have hab := h2.ne
        have hF0 : Fr [] w W0.drew := h2.fr.drew
        have hwa := h2.na
        have hwb := h2.nb
        have hs90 := h2.sz
        clear h2 hcell HX d0 d1 d2 d3
        generalize wr.heap.size = B at *
        go_region_held3 (fun w' => w'.cell? ⟨B, 2, none⟩ = some (.int .i64 size)) (first | exact x2' | exact x2 | go_keep) (first
          | (go_at_call 41; refine (R_Text_calls _ a st size hz0 hz1 (by assumption) hsz).mono ?_; rintro e w' ⟨rfl, hra', hfa'⟩; (have x2' : w'.cell? ⟨B, 2, none⟩ = some (.int .i64 size) := hfa'.cell' (by first | assumption | exact x2) (by simpa using hna)); (have rb' := RS.keep (T := 70) (b := b) (by assumption) hfa' (by simpa using hab.symm)); (have hF' := Fr.trans (S := []) (a := w) (by assumption) hfa' (fun k hk => .inr (by simp at hk; omega))))
          | (go_at_call 42; refine (R3_Text_calls _ b st size hz0 hz1 (by assumption) hsz).mono ?_; rintro e w' ⟨rfl, hrb', hfb'⟩; (have x2' : w'.cell? ⟨B, 2, none⟩ = some (.int .i64 size) := hfb'.cell' (by first | assumption | exact x2) (by simpa using hnb)); (have ra' := RS.keep (T := 91) (b := a) (by assumption) hfb' (by simpa using hab)); (have hF' := Fr.trans (S := []) (a := w) (by assumption) hfb' (fun k hk => .inr (by simp at hk; omega)))))
        all_goals
          clear x2 ra0 rb0 hF0
          generalize hp : pText st size = p at *
          obtain ⟨x, st2⟩ := p
          have hs2 := pText_size st size
          rw [hp] at hs2
          have hA : RS 91 w' a st2 := by assumption
          have hB : RS 70 w' b st2 := by assumption
          have hG : Two w w' a b st2 := ⟨hA, hB, hF', hwa, hwb, hab, by simp only at hs2; omega⟩
          have HG := Lib.hid hG
          clear hG hs2 hp
          have k0 := hB.cell0
          have k1 := hB.cell1
          cases st2
          all_goals
            simp only [Option.getD_none, Option.getD_some, Option.isNone_none, Option.isNone_some] at k0 k1
            go_wp2_with fail
            go_quiet (first
              | (go_at_call 39; exact Calls.quiet_of_same ((R_Good_calls _ a _ (by exact hA)).mono fun e w9 hh => ⟨hh.1, hh.2.symm⟩))
              | (go_at_call 46; exact Calls.quiet_of_same ((R_End_calls _ a _ (by exact hA)).mono fun e w9 hh => ⟨hh.1, hh.2.symm⟩))
              | (go_at_call 47; exact Calls.quiet_of_same ((R3_End_calls _ b _ (by exact hB)).mono fun e w9 hh => ⟨hh.1, hh.2.symm⟩))
              | (go_at_call 40; exact Calls.quiet_of_same ((R_Rest_calls _ a _ (by exact hA)).mono fun e w9 hh => ⟨hh.1, hh.2.symm⟩)))
            all_goals
              go_wp2_with fail
              refine ⟨⟨i + 1, _, by go_num, by omega, HG.out.ra, HG.out.rb, HG.out.fr.drewN _, HG.out.na, HG.out.nb, HG.out.ne, HG.out.sz⟩, by simp only [intOf]; omega⟩
      · go_wp2_with fail
        have hX1 := HX.out _ rfl
        generalize wr.alloc (.cells #[.int .i64 kind, .int .u64 most, .int .i64 size, .int .i64 many] 72) = W0 at hX1 ⊢
        obtain ⟨h2, hcell, hal, hbl⟩ := hX1
        have x2 : W0.cell? ⟨wr.heap.size, 2, none⟩ = some (.int .i64 size) := by rw [Lib.cell_of_heap hcell]; rfl
        have ra0 : RS 91 W0.drew a st := h2.ra
        have rb0 : RS 70 W0.drew b st := h2.rb
        have hsz : (st.getD ⟨#[]⟩).size ≤ 140737488355328 := by have := h2.sz; omega
        have hna : wr.heap.size ≠ a := by omega
        have hnb : wr.heap.size ≠ b := by omega
        have hab := h2.ne
        have hF0 : Fr [] w W0.drew := h2.fr.drew
        have hwa := h2.na
        have hwb := h2.nb
        have hs90 := h2.sz
        clear h2 hcell HX d0 d1 d2 d3
        generalize wr.heap.size = B at *
        go_region_held3 (fun w' => w'.cell? ⟨B, 2, none⟩ = some (.int .i64 size)) (first | exact x2' | exact x2 | go_keep) (first
          | (go_at_call 41; refine (R_Text_calls _ a st size hz0 hz1 (by assumption) hsz).mono ?_; rintro e w' ⟨rfl, hra', hfa'⟩; (have x2' : w'.cell? ⟨B, 2, none⟩ = some (.int .i64 size) := hfa'.cell' (by first | assumption | exact x2) (by simpa using hna)); (have rb' := RS.keep (T := 70) (b := b) (by assumption) hfa' (by simpa using hab.symm)); (have hF' := Fr.trans (S := []) (a := w) (by assumption) hfa' (fun k hk => .inr (by simp at hk; omega))))
          | (go_at_call 42; refine (R3_Text_calls _ b st size hz0 hz1 (by assumption) hsz).mono ?_; rintro e w' ⟨rfl, hrb', hfb'⟩; (have x2' : w'.cell? ⟨B, 2, none⟩ = some (.int .i64 size) := hfb'.cell' (by first | assumption | exact x2) (by simpa using hnb)); (have ra' := RS.keep (T := 91) (b := a) (by assumption) hfb' (by simpa using hab)); (have hF' := Fr.trans (S := []) (a := w) (by assumption) hfb' (fun k hk => .inr (by simp at hk; omega)))))
        all_goals
          clear x2 ra0 rb0 hF0
          generalize hp : pText st size = p at *
          obtain ⟨x, st2⟩ := p
          have hs2 := pText_size st size
          rw [hp] at hs2
          have hA : RS 91 w' a st2 := by assumption
          have hB : RS 70 w' b st2 := by assumption
          have hG : Two w w' a b st2 := ⟨hA, hB, hF', hwa, hwb, hab, by simp only at hs2; omega⟩
          have HG := Lib.hid hG
          clear hG hs2 hp
          have k0 := hB.cell0
          have k1 := hB.cell1
          cases st2
          all_goals
            simp only [Option.getD_none, Option.getD_some, Option.isNone_none, Option.isNone_some] at k0 k1
            go_wp2_with fail
            go_quiet (first
              | (go_at_call 39; exact Calls.quiet_of_same ((R_Good_calls _ a _ (by exact hA)).mono fun e w9 hh => ⟨hh.1, hh.2.symm⟩))
              | (go_at_call 46; exact Calls.quiet_of_same ((R_End_calls _ a _ (by exact hA)).mono fun e w9 hh => ⟨hh.1, hh.2.symm⟩))
              | (go_at_call 47; exact Calls.quiet_of_same ((R3_End_calls _ b _ (by exact hB)).mono fun e w9 hh => ⟨hh.1, hh.2.symm⟩))
              | (go_at_call 40; exact Calls.quiet_of_same ((R_Rest_calls _ a _ (by exact hA)).mono fun e w9 hh => ⟨hh.1, hh.2.symm⟩)))
            all_goals
              go_wp2_with fail
              refine ⟨⟨i + 1, _, by go_num, by omega, HG.out.ra, HG.out.rb, HG.out.fr.drewN _, HG.out.na, HG.out.nb, HG.out.ne, HG.out.sz⟩, by simp only [intOf]; omega⟩
      · go_wp2_with fail
        have hX1 := HX.out _ rfl
        generalize wr.alloc (.cells #[.int .i64 kind, .int .u64 most, .int .i64 size, .int .i64 many] 72) = W0 at hX1 ⊢
        obtain ⟨h2, hcell, hal, hbl⟩ := hX1
        have x2 : W0.cell? ⟨wr.heap.size, 2, none⟩ = some (.int .i64 size) := by rw [Lib.cell_of_heap hcell]; rfl
        have x3 : W0.cell? ⟨wr.heap.size, 3, none⟩ = some (.int .i64 many) := by rw [Lib.cell_of_heap hcell]; rfl
        have ra0 : RS 91 W0.drew a st := h2.ra
        have rb0 : RS 70 W0.drew b st := h2.rb
        have hsz : (st.getD ⟨#[]⟩).size ≤ 1099511627776 := by have := h2.sz; omega
        have hna : wr.heap.size ≠ a := by omega
        have hnb : wr.heap.size ≠ b := by omega
        have hab := h2.ne
        have hF0 : Fr [] w W0.drew := h2.fr.drew
        have hwa := h2.na
        have hwb := h2.nb
        have hs90 := h2.sz
        have hs2 := pRow_size st many size
        generalize hp : pRow st many size = p at *
        obtain ⟨x, st2⟩ := p
        simp only at hs2
        have HRA := Lib.hid (fun (W : World) (st' : Option ByteArray) (ha : RS 91 W a st) (hb : RS 70 W b st') => row_new (by have h := R_Row_calls W a st many size hn0 hn1 hz0 hz1 ha hsz; rw [hp] at h; exact h) ha.lt hb.lt)
        have HRB := Lib.hid (fun (W : World) (st' : Option ByteArray) (hb : RS 70 W b st) (ha : RS 91 W a st') => row_new (by have h := R3_Row_calls W b st many size hn0 hn1 hz0 hz1 hb hsz; rw [hp] at h; exact h) ha.lt hb.lt)
        have HSM := Lib.hid (fun (W : World) (A B : Option Addr) (c d : Nat) (h1 : RdV W A (x.map .string)) (h2 : RdV W B (x.map .string)) (h3 : x.length ≤ maxLen) => by have h := Same03_calls W A B c d x x h1 h2 h3 h3; rw [show sameB x x = true from decide_eq_true rfl] at h; exact h)
        clear h2 hcell HX d0 d1 d2 d3 hp hsz hn0 hn1 hz0 hz1 hm0 hm1 hk0 hk1
        generalize wr.heap.size = B at *
        go_region_held3 (fun w' => w'.cell? ⟨B, 2, none⟩ = some (.int .i64 size) ∧ w'.cell? ⟨B, 3, none⟩ = some (.int .i64 many)) (first | exact ⟨x2'', x3''⟩ | exact ⟨x2', x3'⟩ | exact ⟨x2, x3⟩ | go_keep) (first
          | (go_at_call 43; refine (HRA.out _ _ (by assumption) (by assumption)).mono ?_; rintro e w' ⟨A1, c1, rfl, hrd, hxl, hA1, hra', hfa'⟩; (have x2' : w'.cell? ⟨B, 2, none⟩ = some (.int .i64 size) := hfa'.cell' (by first | assumption | exact x2) (by simpa using hna)); (have x3' : w'.cell? ⟨B, 3, none⟩ = some (.int .i64 many) := hfa'.cell' (by first | assumption | exact x3) (by simpa using hna)); (have rb' := RS.keep (T := 70) (b := b) (by assumption) hfa' (by simpa using hab.symm)); (have hF' := Fr.trans (S := []) (a := w) (by assumption) hfa' (fun k hk => .inr (by simp at hk; omega))); try (have hkp := RdV.keep hrdb hfa' (fun ad h => by have := hB1 ad h; simp; omega)))
          | (go_at_call 44; refine (HRB.out _ _ (by assumption) (by assumption)).mono ?_; rintro e w' ⟨B1, c1, rfl, hrdb, hxlb, hB1, hrb', hfb'⟩; (have x2' : w'.cell? ⟨B, 2, none⟩ = some (.int .i64 size) := hfb'.cell' (by first | assumption | exact x2) (by simpa using hnb)); (have x3' : w'.cell? ⟨B, 3, none⟩ = some (.int .i64 many) := hfb'.cell' (by first | assumption | exact x3) (by simpa using hnb)); (have ra' := RS.keep (T := 91) (b := a) (by assumption) hfb' (by simpa using hab)); (have hF' := Fr.trans (S := []) (a := w) (by assumption) hfb' (fun k hk => .inr (by simp at hk; omega))); try (have hkp := RdV.keep hrd hfb' (fun ad h => by have := hA1 ad h; simp; omega)))
          | (go_at_call 24; refine (HSM.out _ _ _ _ _ (by assumption) (by assumption) (by assumption)).mono ?_; rintro e w9 ⟨rfl, hfs⟩; (have x2'' : w9.cell? ⟨B, 2, none⟩ = some (.int .i64 size) := hfs.cell' x2' (by simp)); (have x3'' : w9.cell? ⟨B, 3, none⟩ = some (.int .i64 many) := hfs.cell' x3' (by simp))))
        all_goals
          clear x2 x3 ra0 rb0 hF0 HRA HRB HSM
          have hA : RS 91 w9 a st2 := RS.keep (w := w') (by assumption) hfs (by simp)
          have hB : RS 70 w9 b st2 := RS.keep (w := w') (by assumption) hfs (by simp)
          have hG : Two w w9 a b st2 := ⟨hA, hB, hF'.then hfs, hwa, hwb, hab, by omega⟩
          have HG := Lib.hid hG
          clear hG hs2
          have k0 := hB.cell0
          have k1 := hB.cell1
          cases st2
          all_goals
            simp only [Option.getD_none, Option.getD_some, Option.isNone_none, Option.isNone_some] at k0 k1
            go_wp2_with fail
            go_quiet (first
              | (go_at_call 39; exact Calls.quiet_of_same ((R_Good_calls _ a _ (by exact hA)).mono fun e w9 hh => ⟨hh.1, hh.2.symm⟩))
              | (go_at_call 46; exact Calls.quiet_of_same ((R_End_calls _ a _ (by exact hA)).mono fun e w9 hh => ⟨hh.1, hh.2.symm⟩))
              | (go_at_call 47; exact Calls.quiet_of_same ((R3_End_calls _ b _ (by exact hB)).mono fun e w9 hh => ⟨hh.1, hh.2.symm⟩))
              | (go_at_call 40; exact Calls.quiet_of_same ((R_Rest_calls _ a _ (by exact hA)).mono fun e w9 hh => ⟨hh.1, hh.2.symm⟩)))
            all_goals
              go_wp2_with fail
              refine ⟨⟨i + 1, _, by go_num, by omega, HG.out.ra, HG.out.rb, HG.out.fr.drewN _, HG.out.na, HG.out.nb, HG.out.ne, HG.out.sz⟩, by simp only [intOf]; omega⟩
      · go_wp2_with fail
        have hX1 := HX.out _ rfl
        generalize wr.alloc (.cells #[.int .i64 kind, .int .u64 most, .int .i64 size, .int .i64 many] 72) = W0 at hX1 ⊢
        obtain ⟨h2, hcell, hal, hbl⟩ := hX1
        have x2 : W0.cell? ⟨wr.heap.size, 2, none⟩ = some (.int .i64 size) := by rw [Lib.cell_of_heap hcell]; rfl
        have x3 : W0.cell? ⟨wr.heap.size, 3, none⟩ = some (.int .i64 many) := by rw [Lib.cell_of_heap hcell]; rfl
        have ra0 : RS 91 W0.drew a st := h2.ra
        have rb0 : RS 70 W0.drew b st := h2.rb
        have hsz : (st.getD ⟨#[]⟩).size ≤ 1099511627776 := by have := h2.sz; omega
        have hna : wr.heap.size ≠ a := by omega
        have hnb : wr.heap.size ≠ b := by omega
        have hab := h2.ne
        have hF0 : Fr [] w W0.drew := h2.fr.drew
        have hwa := h2.na
        have hwb := h2.nb
        have hs90 := h2.sz
        have hs2 := pRow_size st many size
        generalize hp : pRow st many size = p at *
        obtain ⟨x, st2⟩ := p
        simp only at hs2
        have HRA := Lib.hid (fun (W : World) (st' : Option ByteArray) (ha : RS 91 W a st) (hb : RS 70 W b st') => row_new (by have h := R_Row_calls W a st many size hn0 hn1 hz0 hz1 ha hsz; rw [hp] at h; exact h) ha.lt hb.lt)
        have HRB := Lib.hid (fun (W : World) (st' : Option ByteArray) (hb : RS 70 W b st) (ha : RS 91 W a st') => row_new (by have h := R3_Row_calls W b st many size hn0 hn1 hz0 hz1 hb hsz; rw [hp] at h; exact h) ha.lt hb.lt)
        have HSM := Lib.hid (fun (W : World) (A B : Option Addr) (c d : Nat) (h1 : RdV W A (x.map .string)) (h2 : RdV W B (x.map .string)) (h3 : x.length ≤ maxLen) => by have h := Same03_calls W A B c d x x h1 h2 h3 h3; rw [show sameB x x = true from decide_eq_true rfl] at h; exact h)
        clear h2 hcell HX d0 d1 d2 d3 hp hsz hn0 hn1 hz0 hz1 hm0 hm1 hk0 hk1
        generalize wr.heap.size = B at *
        go_region_held3 (fun w' => w'.cell? ⟨B, 2, none⟩ = some (.int .i64 size) ∧ w'.cell? ⟨B, 3, none⟩ = some (.int .i64 many)) (first | exact ⟨x2'', x3''⟩ | exact ⟨x2', x3'⟩ | exact ⟨x2, x3⟩ | go_keep) (first
          | (go_at_call 43; refine (HRA.out _ _ (by assumption) (by assumption)).mono ?_; rintro e w' ⟨A1, c1, rfl, hrd, hxl, hA1, hra', hfa'⟩; (have x2' : w'.cell? ⟨B, 2, none⟩ = some (.int .i64 size) := hfa'.cell' (by first | assumption | exact x2) (by simpa using hna)); (have x3' : w'.cell? ⟨B, 3, none⟩ = some (.int .i64 many) := hfa'.cell' (by first | assumption | exact x3) (by simpa using hna)); (have rb' := RS.keep (T := 70) (b := b) (by assumption) hfa' (by simpa using hab.symm)); (have hF' := Fr.trans (S := []) (a := w) (by assumption) hfa' (fun k hk => .inr (by simp at hk; omega))); try (have hkp := RdV.keep hrdb hfa' (fun ad h => by have := hB1 ad h; simp; omega)))
          | (go_at_call 44; refine (HRB.out _ _ (by assumption) (by assumption)).mono ?_; rintro e w' ⟨B1, c1, rfl, hrdb, hxlb, hB1, hrb', hfb'⟩; (have x2' : w'.cell? ⟨B, 2, none⟩ = some (.int .i64 size) := hfb'.cell' (by first | assumption | exact x2) (by simpa using hnb)); (have x3' : w'.cell? ⟨B, 3, none⟩ = some (.int .i64 many) := hfb'.cell' (by first | assumption | exact x3) (by simpa using hnb)); (have ra' := RS.keep (T := 91) (b := a) (by assumption) hfb' (by simpa using hab)); (have hF' := Fr.trans (S := []) (a := w) (by assumption) hfb' (fun k hk => .inr (by simp at hk; omega))); try (have hkp := RdV.keep hrd hfb' (fun ad h => by have := hA1 ad h; simp; omega)))
          | (go_at_call 24; refine (HSM.out _ _ _ _ _ (by assumption) (by assumption) (by assumption)).mono ?_; rintro e w9 ⟨rfl, hfs⟩; (have x2'' : w9.cell? ⟨B, 2, none⟩ = some (.int .i64 size) := hfs.cell' x2' (by simp)); (have x3'' : w9.cell? ⟨B, 3, none⟩ = some (.int .i64 many) := hfs.cell' x3' (by simp))))
        all_goals
          clear x2 x3 ra0 rb0 hF0 HRA HRB HSM
          have hA : RS 91 w9 a st2 := RS.keep (w := w') (by assumption) hfs (by simp)
          have hB : RS 70 w9 b st2 := RS.keep (w := w') (by assumption) hfs (by simp)
          have hG : Two w w9 a b st2 := ⟨hA, hB, hF'.then hfs, hwa, hwb, hab, by omega⟩
          have HG := Lib.hid hG
          clear hG hs2
          have k0 := hB.cell0
          have k1 := hB.cell1
          cases st2
          all_goals
            simp only [Option.getD_none, Option.getD_some, Option.isNone_none, Option.isNone_some] at k0 k1
            go_wp2_with fail
            go_quiet (first
              | (go_at_call 39; exact Calls.quiet_of_same ((R_Good_calls _ a _ (by exact hA)).mono fun e w9 hh => ⟨hh.1, hh.2.symm⟩))
              | (go_at_call 46; exact Calls.quiet_of_same ((R_End_calls _ a _ (by exact hA)).mono fun e w9 hh => ⟨hh.1, hh.2.symm⟩))
              | (go_at_call 47; exact Calls.quiet_of_same ((R3_End_calls _ b _ (by exact hB)).mono fun e w9 hh => ⟨hh.1, hh.2.symm⟩))
              | (go_at_call 40; exact Calls.quiet_of_same ((R_Rest_calls _ a _ (by exact hA)).mono fun e w9 hh => ⟨hh.1, hh.2.symm⟩)))
            all_goals
              go_wp2_with fail
              refine ⟨⟨i + 1, _, by go_num, by omega, HG.out.ra, HG.out.rb, HG.out.fr.drewN _, HG.out.na, HG.out.nb, HG.out.ne, HG.out.sz⟩, by simp only [intOf]; omega⟩
    · have hF := H.out.fr
      by_cases hl1 : i < l.length
      all_goals
        have h8 : ¬ (i < 12 ∧ i < l.length) := fun h => hlt ⟨h.2, h.1⟩
        clear hlt
        go_wp2_with fail
        go_ret
        exact ⟨rfl, hF⟩

end Go.Proofs.Ytngonnnjehlfbaa
