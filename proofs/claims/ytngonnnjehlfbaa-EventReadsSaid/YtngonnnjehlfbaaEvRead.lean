/- The contract of event.Read: a batch is read. -/
import Derived.Test.YtngonnnjehlfbaaEvTake
import Derived.Test.YtngonnnjehlfbaaEvRow
namespace Go.Proofs.Ytngonnnjehlfbaa
open Go.RowKit
set_option linter.unusedVariables false
set_option linter.unusedSimpArgs false

theorem pText_fst (st : Option ByteArray) (most : Int) : (pText st most).1.size ≤ most.toNat := by
  have h := pNum_lt st most.toNat
  unfold pText
  split
  · exact Nat.zero_le _
  · split
    · exact Nat.zero_le _
    · next n s he =>
      rw [he] at h
      split
      · exact Nat.zero_le _
      · simp only [ByteArray.size_extract]
        simp only at h
        omega
theorem evTake_short (st : Option ByteArray) : (evTake st).1.short 100 := ⟨pText_fst _ 100, pText_fst _ 100, pText_fst _ 100⟩
def evReadL : Nat → List Ev → Option ByteArray → Option (List Ev × Option ByteArray)
  | 0, acc, st => some (acc, st)
  | n + 1, acc, st => if (evTake st).1.ok = true then evReadL n (acc ++ [(evTake st).1]) (evTake st).2 else none
def evRead (s : ByteArray) : List Ev × Int :=
  match evReadL (pNum (some s) 24).1 [] (pNum (some s) 24).2 with
  | none => ([], 10)
  | some (l, st) => if pEnd st = true ∧ l.length ≠ 0 then (l, 0) else ([], 10)
theorem evReadL_ok {n : Nat} {acc : List Ev} {st : Option ByteArray} (h : (evTake st).1.ok = true) : evReadL (n + 1) acc st = evReadL n (acc ++ [(evTake st).1]) (evTake st).2 := by rw [evReadL, if_pos h]
theorem evReadL_no {n : Nat} {acc : List Ev} {st : Option ByteArray} (h : (evTake st).1.ok = false) : evReadL (n + 1) acc st = none := by rw [evReadL, if_neg (by rw [h]; decide)]

set_option maxHeartbeats 4000000 in
set_option maxRecDepth 100000 in
theorem ERead_calls (w : World) (s : ByteArray) (hs : s.size ≤ 1099511627776) :
    Calls Try.prog 49 #[.string s] w fun e w' => ∃ v r, e = .returned (.tuple #[v, .int .i64 (evRead s).2]) ∧ SRow 56 8 w' v r (evRead s).1.length ((evRead s).1.flatMap Ev.cells) ∧ Fr [] w w' ∧ (∀ k, k ∈ r → w.heap.size ≤ k) := by
  have hq : evRead s = (match evReadL (pNum (some s) 24).1 [] (pNum (some s) 24).2 with
    | none => ([], 10)
    | some (l, st) => if pEnd st = true ∧ l.length ≠ 0 then (l, 0) else ([], 10)) := rfl
  have hle := pNum_lt (some s) 24
  have hsz := pNum_size (some s) 24
  have hcall := fun W b h => R_Num_calls W b (some s) 24 (by decide) (by decide) h (by simp only [Option.getD_some]; omega)
  rw [show (24 : Int).toNat = 24 from rfl] at hcall
  generalize pNum (some s) 24 = p at *
  obtain ⟨n, st0⟩ := p
  simp only [Option.getD_some] at hq hle hsz hcall
  have HQ := Lib.hid hq
  have HC := Lib.hid hcall
  clear hq hcall
  go_enter Try.func49, Try.ntmps49
  go_wp2_with fail
  (with_reducible refine (pack_Read_calls _ s).mono ?_)
  rintro e w1 ⟨b, rfl, hb, hra, hf1⟩
  go_wp2_with fail
  (with_reducible refine (HC.out _ _ hra).mono ?_)
  rintro e w2 ⟨rfl, hr2, hf2⟩
  have hF2 := hf1.trans hf2 (fun k hk => .inr (by simp at hk; omega))
  have HR2 := Lib.hid hr2
  have HF2 := Lib.hid hF2
  clear hf1 hf2 hra hr2 hF2 HC
  go_wp2_with fail
  go_loopw [5, 11] (fun v5 v11 wr => ∃ (k : Nat) (st : Option ByteArray) (acc : List Ev) (r : List Nat), v11 = .int .u64 k ∧ k ≤ n ∧ acc.length = k ∧ (st.getD ⟨#[]⟩).size ≤ 1099511627776 ∧ Hid (evReadL n [] st0 = evReadL (n - k) acc st ∧ RS 91 wr b st ∧ SRow 56 8 wr v5 r k (acc.flatMap Ev.cells) ∧ Fr [] w wr ∧ (∀ k, k ∈ r → w.heap.size ≤ k) ∧ b ∉ r)) (fun _ v11 _ => n - (intOf v11).toNat)
  case atStart => exact ⟨0, st0, [], [], rfl, Nat.zero_le _, rfl, by omega, rfl, HR2.out, SRow.nil _ _ _, HF2.out, by simp, by simp⟩
  case round =>
    obtain ⟨i, st, acc, r, rfl, hk, hacc, hst, H⟩ := hrel
    clear HR2 HF2
    by_cases hlk : i < n
    · have htk := fun W h => take_calls W b st h (by omega)
      have hsh := evTake_short st
      have hsz2 := evTake_size st
      obtain ⟨m, hm⟩ : ∃ m, n - i = m + 1 := ⟨n - i - 1, by omega⟩
      have hm' : n - (i + 1) = m := by omega
      have hok := fun h => evReadL_ok (n := m) (acc := acc) (st := st) h
      have hno := fun h => evReadL_no (n := m) (acc := acc) (st := st) h
      obtain ⟨H1, H2, H3, H4, H5, H6⟩ := H.out
      rw [hm] at H1
      generalize evTake st = p at *
      obtain ⟨x, st2⟩ := p
      simp only at htk hsh hsz2 hok hno
      have hck := fun W => Check_calls W x ⟨by have := hsh.1; omega, by have := hsh.2.1; omega, by have := hsh.2.2; omega⟩
      unfold Ev.val at hck htk
      generalize x.ok = okx at *
      obtain ⟨xk, xac, xpu, xat, xn, xa, xb, xc⟩ := x
      simp only at htk hck
      have hcx : ∀ (l : List Ev), (l ++ [(⟨xk, xac, xpu, xat, xn, xa, xb, xc⟩ : Ev)]).flatMap Ev.cells = l.flatMap Ev.cells ++ [.int .i64 xk, .int .i64 xac, .int .i64 xpu, .int .i64 xat, .int .i64 xn, .string xa, .string xb, .string xc] := fun l => by rw [List.flatMap_append, List.flatMap_cons, List.flatMap_nil, List.append_nil]; rfl
      have HTK := Lib.hid htk
      have HCK := Lib.hid hck
      have HOK := Lib.hid hok
      have HNO := Lib.hid hno
      have HH1 := Lib.hid H1
      have HCX := Lib.hid hcx
      clear htk hck hok hno H1 H hsh hcx
      have H3' := Lib.hid H3
      have H4' := Lib.hid H4
      have H5' := Lib.hid H5
      have H6' := Lib.hid H6
      go_wp2_with fail
      (with_reducible refine (HTK.out _ H2).mono ?_)
      rintro e w3 ⟨rfl, hr3, hf3⟩
      have H3 := H3.keep hf3 (fun k hk hk2 => H6 (by simp at hk2; rw [← hk2]; exact hk))
      have H4 := H4.trans hf3 (fun k hk => .inr (by simp at hk; omega))
      clear H2 hf3 H3' H4' HTK
      go_wp2_with fail
      have hnew := heap_alloc_new w3 (.cells #[.int .i64 xk, .int .i64 xac, .int .i64 xpu, .int .i64 xat, .int .i64 xn, .string xa, .string xb, .string xc] 56)
      have hfa : Fr [] w3 (w3.alloc (.cells #[.int .i64 xk, .int .i64 xac, .int .i64 xpu, .int .i64 xat, .int .i64 xn, .string xa, .string xb, .string xc] 56)) := (Fr.refl _ _).alloc _
      generalize w3.alloc (.cells #[.int .i64 xk, .int .i64 xac, .int .i64 xpu, .int .i64 xat, .int .i64 xn, .string xa, .string xb, .string xc] 56) = W at hnew hfa ⊢
      have hB := lt_of_heap hnew
      have hBr : w3.heap.size ∉ r := fun hm => by have := H3.lt _ hm; omega
      (with_reducible refine (HCK.out _).mono ?_)
      rintro e w4 ⟨rfl, hf4⟩
      have hnew := (hf4.block _ hB (by simp)).trans hnew
      have hfw := hfa.then hf4
      have hr4 := hr3.keep hfw (by simp)
      have H3 := H3.keep hfw (by simp)
      have H4 := H4.then hfw
      clear hr3 hfa hf4 HCK
      cases okx with
      | false =>
        have hn := HNO.out (by trivial)
        have he : evRead s = ([], 10) := by rw [HQ.out, HH1.out, hn]
        clear hnew hr4 H3 hn
        have HE := Lib.hid he
        clear he HNO HOK HH1
        go_wp2_with fail
        (try rw [Exit.noGoto_ret])
        go_ret2
        rw [HE.out]
        exact ⟨_, [], rfl, SRow.nil _ _ _, H4, by simp⟩
      | true =>
        have hn := HOK.out (by trivial)
        have HN := Lib.hid hn
        generalize w3.heap.size = B at hnew hB hBr ⊢
        have hlt4 := hfw.size
        clear hn HNO HOK
        generalize hcs : acc.flatMap Ev.cells = cs at H3
        have HCS := Lib.hid hcs
        have HR4 := Lib.hid hr4
        have HH3 := Lib.hid H3
        have HH4 := Lib.hid H4
        clear hcs hr4 H3 H4
        have c0 : w4.cell? ⟨B, 0, none⟩ = some (.int .i64 xk) := by rw [Lib.cell_of_heap hnew]; rfl
        have c1 : w4.cell? ⟨B, 1, none⟩ = some (.int .i64 xac) := by rw [Lib.cell_of_heap hnew]; rfl
        have c2 : w4.cell? ⟨B, 2, none⟩ = some (.int .i64 xpu) := by rw [Lib.cell_of_heap hnew]; rfl
        have c3 : w4.cell? ⟨B, 3, none⟩ = some (.int .i64 xat) := by rw [Lib.cell_of_heap hnew]; rfl
        have c4 : w4.cell? ⟨B, 4, none⟩ = some (.int .i64 xn) := by rw [Lib.cell_of_heap hnew]; rfl
        have c5 : w4.cell? ⟨B, 5, none⟩ = some (.string xa) := by rw [Lib.cell_of_heap hnew]; rfl
        have c6 : w4.cell? ⟨B, 6, none⟩ = some (.string xb) := by rw [Lib.cell_of_heap hnew]; rfl
        have c7 : w4.cell? ⟨B, 7, none⟩ = some (.string xc) := by rw [Lib.cell_of_heap hnew]; rfl
        have HNEW := Lib.hid hnew
        clear hnew
        go_wp2_with (at_builtin; refine wpList_sapp rfl _ _ 49 rfl 56 Try.underlying49 _ 8 88 infoEvent rfl (by decide) u5 r i _ rfl (HH3.out.keep ((Fr.refl [] _).alloc _) (by simp)) ⟨w4.heap.size, 0, none⟩ 1 1 [.int .i64 xk, .int .i64 xac, .int .i64 xpu, .int .i64 xat, .int .i64 xn, .string xa, .string xb, .string xc] rfl rfl (by exact RdV.new _ _ 56 rfl rfl) (by simp [Value.oneCell']) (by simp only [maxLen]; omega) (by omega) ?_)
        intro v' w5 r' h6 hf5 hn5
        clear c0 c1 c2 c3 c4 c5 c6 c7
        go_wp2
        have h7 : Fr r w4 w5 := ((Fr.refl r w4).alloc _).trans hf5 (fun k hk => .inl hk)
        have hbr : b ∉ r' := fun hm => (hn5 b hm).elim H6'.out (fun h => by have := HR4.out.lt; first | omega | (simp at h; omega))
        refine ⟨⟨i + 1, st2, acc ++ [⟨xk, xac, xpu, xat, xn, xa, xb, xc⟩], r', by go_num, by omega, by rw [List.length_append]; simp; omega, by omega, by rw [HH1.out, HN.out, hm'], HR4.out.keep h7 H6'.out, ?_, HH4.out.trans h7 (fun k hk => .inr (H5'.out k hk)), fun k hk => (hn5 k hk).elim (H5'.out k) (fun h => by have := HH4.out.size; first | omega | (simp at h; omega)), hbr⟩, by simp only [intOf]; omega⟩
        rw [HCX.out, HCS.out]
        exact h6
    · obtain rfl : i = n := by omega
      obtain ⟨H1, H2, H3, H4, H5, H6⟩ := H.out
      rw [Nat.sub_self] at H1
      have hq : evRead s = (if pEnd st = true ∧ acc.length ≠ 0 then (acc, 0) else ([], 10)) := by rw [HQ.out, H1]; rfl
      have hend := fun W h => R_End_calls W b st h
      generalize pEnd st = pe at *
      have HQ2 := Lib.hid hq
      have HEND := Lib.hid hend
      generalize hcs : acc.flatMap Ev.cells = cs at H3
      have HCS := Lib.hid hcs
      have HH3 := Lib.hid H3
      have HH4 := Lib.hid H4
      have HH5 := Lib.hid H5
      clear hq hend hcs H H1 HQ H3 H4 H5 H6
      obtain ⟨A1, c1, rfl, -, -, -, -⟩ := HH3.out.reads
      go_wp2_with fail
      (with_reducible refine (HEND.out _ H2).mono ?_)
      rintro e w9 ⟨rfl, rfl⟩
      clear H2 HEND
      cases pe with
      | false =>
        go_wp2_with fail
        go_ret2
        have he : evRead s = ([], 10) := by rw [HQ2.out, if_neg (by simp)]
        rw [he]
        exact ⟨_, [], rfl, SRow.nil _ _ _, HH4.out, by simp⟩
      | true =>
        by_cases h0 : acc.length = 0
        · have hz : ((i : Int) == 0) = true := beq_iff_eq.2 (by omega)
          go_wp2_with fail
          go_ret2
          have he : evRead s = ([], 10) := by rw [HQ2.out, if_neg (by simp [h0])]
          rw [he]
          exact ⟨_, [], rfl, SRow.nil _ _ _, HH4.out, by simp⟩
        · have hz : ((i : Int) == 0) = false := beq_eq_false_iff_ne.2 (by omega)
          go_wp2_with fail
          go_ret2
          have he : evRead s = (acc, 0) := by rw [HQ2.out, if_pos ⟨by trivial, h0⟩]
          rw [he]
          simp only
          rw [hacc, HCS.out]
          exact ⟨_, r, rfl, HH3.out, HH4.out, HH5.out⟩
end Go.Proofs.Ytngonnnjehlfbaa
