/- Contracts of pack's reader: Good, Rest, End, take and number. -/
import Derived.Test.YtembnjpflllpbaaProg
import Derived.Test.YtembnjpflllpbaaRows2
import Derived.Test.YtembnjpflllpbaaPackPure3
import Derived.Laws.Bits64b
namespace Go.Proofs.Ytembnjpflllpbaa
open Go.RowKit
set_option linter.unusedVariables false
set_option linter.unusedSimpArgs false

/-- A reader in block b (type T): what is left; none: nothing is good any more. -/
def RS (T : TypeId) (w : World) (b : Nat) (st : Option ByteArray) : Prop :=
  w.heap[b]? = some (.cells #[.string (st.getD ⟨#[]⟩), .bool st.isNone] T (0, 0))
theorem RS.keep {T : TypeId} {w w' : World} {b : Nat} {st : Option ByteArray} {S : List Nat} (h : RS T w b st) (hf : Fr S w w') (hb : b ∉ S) : RS T w' b st := (hf.block b (lt_of_heap h) hb).trans h
theorem RS.lt {T : TypeId} {w : World} {b : Nat} {st : Option ByteArray} (h : RS T w b st) : b < w.heap.size := lt_of_heap h
theorem RS.cell0 {T : TypeId} {w : World} {b : Nat} {st : Option ByteArray} (h : RS T w b st) : w.cell? ⟨b, 0, none⟩ = some (.string (st.getD ⟨#[]⟩)) := by rw [Lib.cell_of_heap h]; rfl
theorem RS.cell1 {T : TypeId} {w : World} {b : Nat} {st : Option ByteArray} (h : RS T w b st) : w.cell? ⟨b, 1, none⟩ = some (.bool st.isNone) := by rw [Lib.cell_of_heap h]; rfl
theorem RS.frozen {T : TypeId} {w : World} {b : Nat} {st : Option ByteArray} (h : RS T w b st) (j : Nat) : w.frozen? ⟨b, j, none⟩ = false := Lib.frozen_of_heap h j
theorem RS.new (T : TypeId) (w : World) (s : ByteArray) {n : Nat} (hn : n = w.heap.size) : RS T (w.alloc (.cells #[.string s, .bool false] T)) n (some s) := by
  subst hn
  exact heap_alloc_new w _
/-- The text is cut. -/
theorem RS.put {T : TypeId} {w : World} {b : Nat} {s : ByteArray} (h : RS T w b (some s)) (t : ByteArray) : RS T (w.setCell ⟨b, 0, none⟩ (.string t)) b (some t) := by
  have h' : w.heap[b]? = some (.cells #[.string s, .bool false] T (0, 0)) := h
  simp [RS, World.setCell, Array.getElem?_modify, h']
/-- All is over. -/
theorem RS.fail {T : TypeId} {w : World} {b : Nat} {st : Option ByteArray} (h : RS T w b st) : RS T ((w.setCell ⟨b, 0, none⟩ (.string ⟨#[]⟩)).setCell ⟨b, 1, none⟩ (.bool true)) b none := by
  have h' : w.heap[b]? = some (.cells #[.string (st.getD ⟨#[]⟩), .bool st.isNone] T (0, 0)) := h
  simp [RS, World.setCell, Array.getElem?_modify, h']

set_option maxHeartbeats 400000 in
set_option maxRecDepth 100000 in
theorem R_Good_calls (w : World) (b : Nat) (st : Option ByteArray) (h : RS 113 w b st) :
    Calls Try.prog 71 #[.pointer (some ⟨b, 0, none⟩)] w fun e w' => e = .returned (.bool st.isSome) ∧ w = w' := by
  have c1 := h.cell1
  go_enter Try.func71, Try.ntmps71
  go_wp2
  go_ret
  exact ⟨rfl, rfl⟩

set_option maxHeartbeats 400000 in
set_option maxRecDepth 100000 in
theorem R_Rest_calls (w : World) (b : Nat) (st : Option ByteArray) (h : RS 113 w b st) :
    Calls Try.prog 69 #[.pointer (some ⟨b, 0, none⟩)] w fun e w' => e = .returned (.string (st.getD ⟨#[]⟩)) ∧ w = w' := by
  have c0 := h.cell0
  cases st with
  | none =>
    go_enter Try.func69, Try.ntmps69
    go_wp2_with fail
    refine (R_Good_calls _ b _ h).mono ?_
    rintro e w' ⟨rfl, rfl⟩
    go_wp2
    go_ret
    exact ⟨rfl, rfl⟩
  | some s =>
    go_enter Try.func69, Try.ntmps69
    go_wp2_with fail
    refine (R_Good_calls _ b _ h).mono ?_
    rintro e w' ⟨rfl, rfl⟩
    go_wp2
    go_ret
    exact ⟨rfl, rfl⟩

/-- Was all read, and nothing is left? -/
def pEnd (st : Option ByteArray) : Bool := match st with
  | none => false
  | some s => s.size == 0
set_option maxHeartbeats 400000 in
set_option maxRecDepth 100000 in
theorem R_End_calls (w : World) (b : Nat) (st : Option ByteArray) (h : RS 113 w b st) :
    Calls Try.prog 53 #[.pointer (some ⟨b, 0, none⟩)] w fun e w' => e = .returned (.bool (pEnd st)) ∧ w = w' := by
  have c0 := h.cell0
  cases st with
  | none =>
    go_enter Try.func53, Try.ntmps53
    go_wp2_with fail
    refine (R_Good_calls _ b _ h).mono ?_
    rintro e w' ⟨rfl, rfl⟩
    go_wp2
    go_ret
    exact ⟨rfl, rfl⟩
  | some s =>
    go_enter Try.func53, Try.ntmps53
    go_wp2_with fail
    refine (R_Good_calls _ b _ h).mono ?_
    rintro e w' ⟨rfl, rfl⟩
    have hE : s.toList.isEmpty = pEnd (some s) := by
      have hl : s.toList.length = s.size := by rw [Lib.toList_data, Array.length_toList]; rfl
      unfold pEnd
      cases hx : s.toList with
      | nil => rw [hx] at hl; simp at hl; simp [← hl]
      | cons a l => rw [hx] at hl; simp at hl; simp [← hl]
    have HE := Lib.hid hE
    clear hE
    go_wp2
    go_ret
    exact ⟨by rw [← HE.out]; rfl, rfl⟩

/-- So many bytes, if they may be taken. -/
def pTake (st : Option ByteArray) (n : Nat) (may : Bool) : (ByteArray × Bool) × Option ByteArray := match st with
  | none => ((⟨#[]⟩, false), none)
  | some s => if may = false ∨ s.size < n then ((⟨#[]⟩, false), none) else ((s.extract 0 n, true), some (rest s n))
set_option maxHeartbeats 1000000 in
set_option maxRecDepth 100000 in
theorem R_take_calls (w : World) (b : Nat) (st : Option ByteArray) (n : Nat) {ni : Int} (hni : ni = n) (may : Bool) (h : RS 113 w b st) (hn : n < 18446744073709551616) (hs : (st.getD ⟨#[]⟩).size ≤ 140737488355328) :
    Calls Try.prog 70 #[.pointer (some ⟨b, 0, none⟩), .int .u64 ni, .bool may] w fun e w' => e = .returned (.tuple #[.string (pTake st n may).1.1, .bool (pTake st n may).1.2]) ∧ RS 113 w' b (pTake st n may).2 ∧ Fr [b] w w' := by
  subst hni
  have c0 := h.cell0
  have f0 := h.frozen 0
  have f1 := h.frozen 1
  have c1 := h.cell1
  cases st with
  | none =>
    go_enter Try.func70, Try.ntmps70
    go_wp2_with fail
    refine (R_Good_calls _ b _ h).mono ?_
    rintro e w' ⟨rfl, rfl⟩
    go_wp2
    go_ret2
    exact ⟨rfl, h, Fr.refl _ _⟩
  | some s =>
    simp only [Option.getD_some, Option.isNone_some] at c0 c1 hs
    cases may with
    | false =>
      go_enter Try.func70, Try.ntmps70
      go_wp2_with fail
      refine (R_Good_calls _ b _ h).mono ?_
      rintro e w' ⟨rfl, rfl⟩
      go_wp2
      go_ret2
      exact ⟨rfl, h.fail, ((Fr.refl _ _).setCell (by simp) _).setCell (by simp) _⟩
    | true =>
      by_cases hlt : s.size < n
      · have e1 : pTake (some s) n true = ((⟨#[]⟩, false), none) := by simp [pTake, hlt]
        have E1 := Lib.hid e1
        clear e1
        go_enter Try.func70, Try.ntmps70
        go_wp2_with fail
        refine (R_Good_calls _ b _ h).mono ?_
        rintro e w' ⟨rfl, rfl⟩
        go_wp2
        go_ret2
        rw [E1.out]
        exact ⟨rfl, h.fail, ((Fr.refl _ _).setCell (by simp) _).setCell (by simp) _⟩
      · have e1 : pTake (some s) n true = ((s.extract 0 n, true), some (rest s n)) := by simp [pTake, hlt]
        have E1 := Lib.hid e1
        clear e1
        go_enter Try.func70, Try.ntmps70
        go_wp2_with fail
        refine (R_Good_calls _ b _ h).mono ?_
        rintro e w' ⟨rfl, rfl⟩
        go_wp2
        go_ret2
        rw [E1.out]
        exact ⟨rfl, h.put _, (Fr.refl _ _).setCell (by simp) _⟩

/-- What 'number' hands back. -/
def NumOK (s : ByteArray) (e : Ending) : Prop :=
  ∃ (n : Nat) (k : Nat), e = .returned (.tuple #[.int .u64 n, .int .i64 k]) ∧ n < 18446744073709551616 ∧ k ≤ 10 ∧ k ≤ s.size ∧ ((numAt 0 0 s.data.toList = none ∧ k = 0) ∨ (numAt 0 0 s.data.toList = some (n, k) ∧ 0 < k))

theorem or_step {acc i c : Nat} (ha : acc < 128 ^ i) (h10 : i < 10) (hc : c < 256) (h9 : i = 9 → c ≤ 1) :
    bits BinOp.or IntKind.u64 (acc : Int) (IntKind.u64.wrap (IntKind.u64.wrap (bits BinOp.and IntKind.u8 (c : Int) 127) * 2 ^ (7 * i))) = ((acc + c % 128 * 128 ^ i : Nat) : Int) ∧ acc + c % 128 * 128 ^ i < 18446744073709551616 ∧ acc + c % 128 * 128 ^ i < 128 ^ (i + 1) := by
  have e0 : (2 : Nat) ^ (7 * i) = 128 ^ i := by rw [Nat.pow_mul]
  have e1 : bits BinOp.and IntKind.u8 (c : Int) 127 = ((c % 128 : Nat) : Int) := by
    rw [u8_and (c : Int) 127 (by omega) (by omega) (by omega) (by omega)]
    rw [show (127 : Int).toNat = 127 from rfl, nat_mask7, Int.toNat_natCast]
  have hlt : acc + c % 128 * 128 ^ i < 128 ^ (i + 1) := by
    have : c % 128 * 128 ^ i + 128 ^ i ≤ 128 * 128 ^ i := by
      rw [← Nat.succ_mul]
      exact Nat.mul_le_mul_right _ (Nat.mod_lt _ (by decide))
    rw [Nat.pow_succ, Nat.mul_comm _ 128]
    omega
  have h64 : (18446744073709551616 : Nat) = 2 * 128 ^ 9 := by decide
  have hlt2 : acc + c % 128 * 128 ^ i < 18446744073709551616 := by
    rcases Nat.lt_or_ge i 9 with h | h
    · have : 128 ^ (i + 1) ≤ 128 ^ 9 := Nat.pow_le_pow_right (by decide) (by omega)
      omega
    · have hi : i = 9 := by omega
      subst hi
      have h1 := h9 rfl
      have h2 : c % 128 * 128 ^ 9 ≤ 1 * 128 ^ 9 := Nat.mul_le_mul_right _ (by omega)
      omega
  refine ⟨?_, hlt2, hlt⟩
  rw [e1]
  have e2 : IntKind.u64.wrap ((c % 128 : Nat) : Int) = ((c % 128 : Nat) : Int) := by rw [IntKind.wrap_u64]; omega
  rw [e2]
  have e3 : ((c % 128 : Nat) : Int) * 2 ^ (7 * i) = ((c % 128 * 128 ^ i : Nat) : Int) := by
    rw [Int.natCast_mul, ← e0, Int.natCast_pow]
    rfl
  rw [e3]
  have e4 : IntKind.u64.wrap ((c % 128 * 128 ^ i : Nat) : Int) = ((c % 128 * 128 ^ i : Nat) : Int) := by rw [IntKind.wrap_u64]; omega
  rw [e4, u64_or_nat _ _ (by omega) (by omega)]
  congr 1
  rw [Nat.or_comm, nat_join (7 * i) _ _ (by rw [e0]; exact Nat.mul_mod_left _ _) (by rw [e0]; exact ha), Nat.add_comm]

set_option maxHeartbeats 2000000 in
set_option maxRecDepth 100000 in
theorem number_calls (w : World) (s : ByteArray) (hs : s.size ≤ 140737488355328) :
    Calls Try.prog 68 #[.string s] w fun e w' => NumOK s e ∧ w = w' := by
  obtain ⟨m, hm, hm1, hm2, hm3⟩ : ∃ m : Nat, (if (10 : Int) < (s.size : Int) then (10 : Int) else (s.size : Int)) = (m : Int) ∧ m ≤ 10 ∧ m ≤ s.size ∧ (m = 10 ∨ m = s.size) := by
    by_cases h : s.size > 10
    · exact ⟨10, by rw [if_pos (by omega)]; rfl, by omega, by omega, .inl rfl⟩
    · exact ⟨s.size, by rw [if_neg (by omega)], by omega, by omega, .inr rfl⟩
  have HM := Lib.hid hm3
  clear hm3
  go_enter Try.func68, Try.ntmps68
  go_wp2_with fail
  go_step3
  go_wp2_with fail
  go_step3
  go_wp2_with fail
  clear hm
  go_loop [2, 3, 9] (fun v2 v3 v9 => ∃ (acc i : Nat), v2 = .int .u64 acc ∧ v3 = .int .i64 0 ∧ v9 = .int .i64 i ∧ i ≤ m ∧ acc < 18446744073709551616 ∧ Hid (acc < 128 ^ i ∧ numAt 0 0 s.data.toList = numAt i acc (s.data.toList.drop i))) (fun _ _ v9 => m - (intOf v9).toNat)
  case atStart => exact ⟨0, 0, rfl, rfl, rfl, Nat.zero_le _, by decide, by decide, by simp⟩
  case round =>
    obtain ⟨acc, i, rfl, rfl, rfl, hi, hacc, H⟩ := hrel
    by_cases hlt : i < m
    · have hi' : i < s.size := by omega
      have hdr : s.data.toList.drop i = s[i] :: s.data.toList.drop (i + 1) := by
        rw [List.drop_eq_getElem_cons (by rw [toL_length]; exact hi')]
        rfl
      generalize hbb : s[i] = c at hdr
      have hc := c.toNat_lt
      have HD := Lib.hid hdr
      clear hdr
      have hi10 : i < 10 := by omega
      have hc256 : c.toNat < 256 := by omega
      by_cases h9 : i = 9 ∧ 1 < c.toNat
      · have b9 : ((i : Int) == 9) = true := by simp; omega
        have hc1 := h9.2
        have hfin : numAt 0 0 s.data.toList = none := by
          rw [H.out.2, HD.out, numAt, if_neg (by omega), if_pos h9]
        have HF := Lib.hid hfin
        clear hfin h9
        go_wp2
        (try rw [Exit.noGoto_ret])
        go_ret2
        exact ⟨⟨acc, 0, rfl, hacc, by omega, by omega, .inl ⟨HF.out, rfl⟩⟩, rfl⟩
      · obtain ⟨hor, hb1, hb2⟩ := or_step H.out.1 hi10 hc256 (by intro h; omega)
        have hnext : numAt 0 0 s.data.toList = (if 128 ≤ c.toNat then numAt (i + 1) (acc + c.toNat % 128 * 128 ^ i) (s.data.toList.drop (i + 1)) else if c.toNat = 0 ∧ 0 < i then none else some (acc + c.toNat % 128 * 128 ^ i, i + 1)) := by
          rw [H.out.2, HD.out, numAt, if_neg (by omega), if_neg h9]
        have HN := Lib.hid hnext
        have HB := Lib.hid hb2
        clear hnext hb2 H HD hacc
        generalize hacc' : acc + c.toNat % 128 * 128 ^ i = acc' at hor hb1
        have HA := Lib.hid hacc'
        clear hacc'
        have H9 := Lib.hid h9
        clear h9
        have hor9 : i = 9 → bits BinOp.or IntKind.u64 (acc : Int) (IntKind.u64.wrap (IntKind.u64.wrap (bits BinOp.and IntKind.u8 (c.toNat : Int) 127) * 9223372036854775808)) = (acc' : Int) := by
          intro h
          rw [h] at hor
          exact hor
        have HOR9 := Lib.hid hor9
        clear hor9
        by_cases hbig : 128 ≤ c.toNat
        · have b9 : ((i : Int) == 9) = false := by have := H9.out; simp; omega
          go_wp2
          refine ⟨⟨acc', i + 1, rfl, rfl, by go_num, by omega, hb1, by rw [← HA.out]; exact HB.out, ?_⟩, by simp only [intOf]; omega⟩
          rw [HN.out, if_pos hbig, HA.out]
        · by_cases h0 : c.toNat = 0 ∧ 0 < i
          · have hfin : numAt 0 0 s.data.toList = none := by rw [HN.out, if_neg hbig, if_pos h0]
            have HF := Lib.hid hfin
            have hz : ¬ 0 < c.toNat := by omega
            have hc1 : ¬ 1 < c.toNat := by omega
            have hi0 := h0.2
            clear hfin h0 hbig
            by_cases e9 : i = 9
            · subst e9
              clear hor
              go_wp2
              (try rw [Exit.noGoto_ret])
              go_ret2
              exact ⟨⟨acc', 0, congrArg (fun x => Ending.returned (Value.tuple #[.int .u64 x, .int .i64 0])) (HOR9.out trivial), hb1, by omega, by omega, .inl ⟨HF.out, rfl⟩⟩, rfl⟩
            · have b9 : ((i : Int) == 9) = false := by simp; omega
              have b0 : ((i : Int) == 0) = false := by simp; omega
              clear e9
              go_wp2
              (try rw [Exit.noGoto_ret])
              go_ret2
              exact ⟨⟨acc', 0, rfl, hb1, by omega, by omega, .inl ⟨HF.out, rfl⟩⟩, rfl⟩
          · have hfin : numAt 0 0 s.data.toList = some (acc', i + 1) := by rw [HN.out, if_neg hbig, if_neg h0, HA.out]
            have HF := Lib.hid hfin
            have H0 := Lib.hid h0
            clear hfin h0
            by_cases e9 : i = 9
            · subst e9
              have hc1 : ¬ 1 < c.toNat := by have := H9.out; omega
              have hz : 0 < c.toNat := by have := H0.out; omega
              clear hor
              go_wp2
              (try rw [Exit.noGoto_ret])
              go_ret2
              exact ⟨⟨acc', 10, congrArg (fun x => Ending.returned (Value.tuple #[.int .u64 x, .int .i64 10])) (HOR9.out trivial), hb1, by omega, by omega, .inr ⟨HF.out, by omega⟩⟩, rfl⟩
            · have b9 : ((i : Int) == 9) = false := by simp; omega
              clear e9
              by_cases hz : 0 < c.toNat
              · go_wp2
                (try rw [Exit.noGoto_ret])
                go_ret2
                exact ⟨⟨acc', i + 1, rfl, hb1, by omega, by omega, .inr ⟨HF.out, by omega⟩⟩, rfl⟩
              · have b0 : ((i : Int) == 0) = true := by have := H0.out; simp; omega
                go_wp2
                (try rw [Exit.noGoto_ret])
                go_ret2

                exact ⟨⟨acc', i + 1, rfl, hb1, by omega, by omega, .inr ⟨HF.out, by omega⟩⟩, rfl⟩
    · obtain rfl : i = m := by omega
      have hfin : numAt 0 0 s.data.toList = none := by
        rw [H.out.2]
        rcases HM.out with h | h
        · subst h
          cases s.data.toList.drop 10 with
          | nil => rfl
          | cons b l => rw [numAt, if_pos (Nat.le_refl _)]
        · rw [List.drop_of_length_le (by rw [toL_length]; omega)]
          rfl
      have HF := Lib.hid hfin
      clear hfin
      go_wp2
      (try rw [Exit.noGoto_ret])
      go_ret2
      exact ⟨⟨acc, 0, rfl, hacc, by omega, by omega, .inl ⟨HF.out, rfl⟩⟩, rfl⟩

end Go.Proofs.Ytembnjpflllpbaa
