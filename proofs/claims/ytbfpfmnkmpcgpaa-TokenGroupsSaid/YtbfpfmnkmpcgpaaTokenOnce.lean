/- The law TokenOnce: for any text, place and byte the Go function returns true (its walk). -/
import Derived.Test.YtbfpfmnkmpcgpaaTokenBack
import Derived.Test.YtbfpfmnkmpcgpaaArr
namespace Go.Proofs.Ytbfpfmnkmpcgpaa
open Go.RowKit
set_option linter.unusedVariables false
set_option linter.unusedSimpArgs false

theorem tmod_bd1 (a : Int) (n : Nat) : -(n : Int) ≤ a.tmod ((n : Int) + 1) ∧ a.tmod ((n : Int) + 1) ≤ n := by
  have h1 := Int.tmod_lt_of_pos a (show (0 : Int) < (n : Int) + 1 by omega)
  have h2 := Int.lt_tmod_of_pos a (show (0 : Int) < (n : Int) + 1 by omega)
  omega
theorem conv_one (W : World) (c : Int) (h0 : 0 ≤ c) (h1 : c < 256) : (convert 30 9 (.slice (some ⟨W.heap.size, 0, none⟩) 1 1)).run Try.prog (W.alloc (.cells #[.int .u8 c] 5)) = .ok (.string (bOf c)) (W.alloc (.cells #[.int .u8 c] 5)) := by
  refine run_toString Try.underlying30 Try.underlying5 Try.underlying9 (bOf_size c).symm (RdV.new _ _ _ rfl ?_) (by rintro ad ⟨⟩; rfl)
  have : ((UInt8.ofNat c.toNat).toNat : Int) = c := by
    rw [UInt8.toNat_ofNat']
    omega
  simp only [Lib.strCells, bOf, List.map_cons, List.map_nil, this]
theorem and_one (q : Int) (hq : -9223372036854775808 ≤ q ∧ q ≤ 9223372036854775807) : bits .and .i64 q 1 = q % 2 := by
  have h1 : BitVec.ofInt 64 q &&& BitVec.ofInt 64 1 = BitVec.ofInt 64 (q % 2) := by
    apply BitVec.eq_of_toNat_eq
    rw [BitVec.toNat_and]
    have e1 : (BitVec.ofInt 64 1).toNat = 2 ^ 1 - 1 := rfl
    rw [e1, Nat.and_two_pow_sub_one_eq_mod, BitVec.toNat_ofInt, BitVec.toNat_ofInt]
    omega
  show IntKind.i64.wrap ((BitVec.ofInt 64 q &&& BitVec.ofInt 64 1).toNat : Int) = _
  rw [h1, BitVec.toNat_ofInt, IntKind.wrap_i64]
  omega
/-- What is decoded of a text, held against the text's own. -/
theorem once_facts (s T : ByteArray) : (decB T = none ∧ (T.toList == (encB s).toList) = false) ∨ ∃ t, decB T = some t ∧ encB t = T ∧ ∃ B : Bool, (t.toList == s.toList) = B ∧ (T.toList == (encB s).toList) = B := by
  cases h : decB T with
  | none =>
    refine .inl ⟨rfl, beq_eq_false_iff_ne.2 fun e => ?_⟩
    have := toList_inj e
    rw [this, decB_enc] at h
    cases h
  | some t =>
    refine .inr ⟨t, rfl, encB_dec h, ?_⟩
    by_cases e : t = s
    · subst e
      exact ⟨true, by simp, by rw [encB_dec h]; simp⟩
    · refine ⟨false, beq_eq_false_iff_ne.2 fun e2 => e (toList_inj e2), beq_eq_false_iff_ne.2 fun e2 => e ?_⟩
      have e3 := toList_inj e2
      rw [e3, decB_enc] at h
      injection h with h
      exact h.symm

set_option maxHeartbeats 8000000 in
set_option maxRecDepth 100000 in
theorem TokenOnce_walk (w : World) (s : ByteArray) (hs : s.size ≤ 140737488351232) (a : Int) (ha : Bd .i64 a) (q0 q1 : Int) (hq0 : Bd .i64 q0) (hq1 : Bd .i64 q1) :
    Calls Try.prog 5 #[.string s, .int .i64 a, .agg #[.int .i64 q0, .int .i64 q1]] w fun e w' => e = .returned (.bool true) ∧ Fr [] w w' := by
  have hsh := fun W => short08_calls s 40 40 rfl W (by omega) (by decide)
  have h40 := shortB_size s 40
  generalize shortB s 40 = x at hsh h40
  have hz := encB_size x
  have hE := fun W => Encode_calls W x (by omega)
  have HON := Lib.hid (once_facts x)
  generalize encB x = d at hz hE HON
  obtain ⟨n, hn⟩ : ∃ n, d.size = n := ⟨_, rfl⟩
  have hn64 : n ≤ 64 := by omega
  obtain ⟨hT0, hT1⟩ := tmod_bd1 a n
  generalize hTT : a.tmod ((n : Int) + 1) = T0 at hT0 hT1
  obtain ⟨k, hk, hkn⟩ : ∃ k : Nat, (T0 + n + 1) % ((n : Int) + 1) = k ∧ k ≤ n := ⟨((T0 + n + 1) % ((n : Int) + 1)).toNat, by have := Int.emod_nonneg (T0 + n + 1) (show (n : Int) + 1 ≠ 0 by omega); omega, by have := Int.emod_lt_of_pos (T0 + n + 1) (show (0 : Int) < (n : Int) + 1 by omega); omega⟩
  have hab := ha.i64
  have hq0b := hq0.i64
  have hq1b := hq1.i64
  have hand := and_one q1 hq1b
  obtain ⟨c, hc, hc0, hc1⟩ : ∃ c : Int, q0 % 256 = c ∧ 0 ≤ c ∧ c < 256 := ⟨_, rfl, by omega, by omega⟩
  have hcv := fun (W : World) => conv_one W c hc0 hc1
  have hbs := bOf_size c
  have HE := Lib.hid hE
  clear hE hz ha hq0 hq1 hs
  have HFIN : Hid (∀ (T : ByteArray), T.size ≤ n + 1 → (∀ W, Calls Try.prog 11 #[.string T] W fun e w' => e = .returned (.tuple #[.string ((decB T).getD ⟨#[]⟩), .bool (decB T).isSome]) ∧ Fr [] W w') ∧ ((decB T = none ∧ (T.toList == d.toList) = false) ∨ ∃ t, decB T = some t ∧ (∀ W, Calls Try.prog 10 #[.string t] W fun e w' => e = .returned (.string T) ∧ Fr [] W w') ∧ ∃ B : Bool, (t.toList == x.toList) = B ∧ (T.toList == d.toList) = B)) := Lib.hid (fun T hT => by
    refine ⟨fun W => Decode_calls W T (by omega), ?_⟩
    rcases HON.out T with h | ⟨t, h1, h2, h3⟩
    · exact .inl h
    · refine .inr ⟨t, h1, fun W => ?_, h3⟩
      have h4 := encB_size t
      rw [h2] at h4
      have := Encode_calls W t (by omega)
      rw [h2] at this
      exact this)
  clear HON
  go_enter Try.func5, Try.ntmps5
  go_wp2_with fail
  have hf0 : Fr [] w (w.alloc (.cells #[.int .i64 q0, .int .i64 q1] 29)) := (Fr.refl _ _).alloc _
  have hb0 := heap_alloc_new w (.cells #[.int .i64 q0, .int .i64 q1] 29)
  generalize w.alloc (.cells #[.int .i64 q0, .int .i64 q1] 29) = W0 at hf0 hb0 ⊢
  generalize w.heap.size = Q at hb0 ⊢
  have HB0 := Lib.hid (And.intro hf0 hb0)
  clear hf0 hb0
  (with_reducible refine (awake08_calls _).mono ?_)
  rintro e w1 ⟨rfl, hf1⟩
  have HB1 : Hid (Fr [] w w1 ∧ w1.heap[Q]? = some (.cells #[.int .i64 q0, .int .i64 q1] 29 (0, 0))) := Lib.hid ⟨HB0.out.1.then hf1, (hf1.block Q (lt_of_heap HB0.out.2) (by simp)).trans HB0.out.2⟩
  clear hf1 HB0
  go_wp2_with fail
  (with_reducible refine (hsh _).mono ?_)
  rintro e w2 ⟨rfl, rfl⟩
  clear hsh
  go_wp2_with fail
  (with_reducible refine (HE.out _).mono ?_)
  rintro e w3 ⟨rfl, hf3⟩
  have HB3 : Hid (Fr [] w w3 ∧ w3.heap[Q]? = some (.cells #[.int .i64 q0, .int .i64 q1] 29 (0, 0))) := Lib.hid ⟨HB1.out.1.then hf3, (hf3.block Q (lt_of_heap HB1.out.2) (by simp)).trans HB1.out.2⟩
  clear hf3 HB1 HE
  have c0 : w3.cell? ⟨Q, 0, none⟩ = some (.int .i64 q0) := by rw [Lib.cell_of_heap HB3.out.2]; rfl
  go_wp2_with fail
  rw [hk]
  have H4 : Hid (Fr [] w (w3.alloc (.cells #[.int .u8 c] 5)) ∧ (w3.alloc (.cells #[.int .u8 c] 5)).heap[Q]? = some (.cells #[.int .i64 q0, .int .i64 q1] 29 (0, 0))) := Lib.hid ⟨HB3.out.1.alloc _, (((Fr.refl [] w3).alloc _).block Q (lt_of_heap HB3.out.2) (by simp)).trans HB3.out.2⟩
  clear hk hTT hT0 hT1 c0 hcv HB3
  generalize w3.alloc (.cells #[.int .u8 c] 5) = W4 at H4 ⊢
  have p0 : (0 : Int) ≤ (k : Int) := by omega
  have p1 : (k : Int) ≤ (n : Int) := by omega
  have he0 : (d.extract 0 k).size = k := by rw [ByteArray.size_extract]; omega
  have he1 : (d.extract k n).size = n - k := by rw [ByteArray.size_extract]; omega
  go_quiet (fail)
  have H5 : Hid (Fr [] w (W4.drewN nq) ∧ (W4.drewN nq).heap[Q]? = some (.cells #[.int .i64 q0, .int .i64 q1] 29 (0, 0))) := Lib.hid ⟨H4.out.1.drewN _, H4.out.2⟩
  clear H4
  generalize W4.drewN nq = W5 at H5 ⊢
  have c1 : W5.cell? ⟨Q, 1, none⟩ = some (.int .i64 q1) := by rw [Lib.cell_of_heap H5.out.2]; rfl
  have HSA : Hid ((d.extract 0 k ++ bOf c ++ d.extract k n).size ≤ n + 1) := Lib.hid (by rw [ByteArray.size_append, ByteArray.size_append]; omega)
  by_cases hbit : q1 % 2 = 1 ∧ k < n
  · obtain ⟨hb1, hb2⟩ := hbit
    have hbb : ((q1 % 2 : Int) == 1) = true := beq_iff_eq.2 hb1
    have p2 : (k : Int) < (n : Int) := by omega
    have p3 : (0 : Int) ≤ (k : Int) + 1 := by omega
    have p4 : (k : Int) + 1 ≤ (n : Int) := by omega
    have p5 : ((k : Int) + 1).toNat = k + 1 := by omega
    have p6 : IntKind.i64.wrap ((k : Int) + 1) = (k : Int) + 1 := by rw [IntKind.wrap_i64]; omega
    have he2 : (d.extract (k + 1) n).size = n - (k + 1) := by rw [ByteArray.size_extract]; omega
    have HSZ : Hid ((d.extract 0 k ++ bOf c ++ d.extract (k + 1) n).size ≤ n + 1) := Lib.hid (by rw [ByteArray.size_append, ByteArray.size_append]; omega)
    clear hb1
    go_wp2_with fail
    go_quiet (fail)
    clear hbb hand c1 p3 p4 p5 p6 he0 he1 he2 hbs
    have H6 : Hid (Fr [] w (W5.drewN nq) ∧ True) := Lib.hid ⟨H5.out.1.drewN _, trivial⟩
    obtain ⟨hdec, hcase⟩ := HFIN.out _ HSZ.out
    have HDEC := Lib.hid hdec
    clear hdec
    generalize (d.extract 0 k ++ bOf c ++ d.extract (k + 1) n) = T at HDEC hcase HSZ ⊢
    rcases hcase with ⟨hnone, hne⟩ | ⟨t, hsome, henc, B, hB1, hB2⟩
    · rw [hnone] at HDEC
      clear hnone
      go_wp2_with fail
      (with_reducible refine (HDEC.out _).mono ?_)
      rintro e w5 ⟨rfl, hf5⟩
      have HF5 := Lib.hid (H6.out.1.then hf5)
      clear hf5
      go_wp2_with fail
      go_ret
      exact ⟨rfl, HF5.out⟩
    · rw [hsome] at HDEC
      have HENC := Lib.hid henc
      clear hsome henc
      go_wp2_with fail
      (with_reducible refine (HDEC.out _).mono ?_)
      rintro e w5 ⟨rfl, hf5⟩
      have HF5 := Lib.hid (H6.out.1.then hf5)
      clear hf5
      cases B
      all_goals
        simp only [Option.getD_some, Option.isSome_some]
        go_wp2_with fail
        (with_reducible refine (HENC.out _).mono ?_)
        rintro e w7 ⟨rfl, hf7⟩
        have HF7 := Lib.hid (HF5.out.then hf7)
        clear hf7
        go_wp2_with fail
        go_ret
        exact ⟨rfl, HF7.out⟩
  · have hcond : ((q1 % 2 : Int) == 1) = false ∨ ¬ (k : Int) < (n : Int) := by
      by_cases hb1 : q1 % 2 = 1
      · exact .inr (fun h => hbit ⟨hb1, by omega⟩)
      · exact .inl (beq_eq_false_iff_ne.2 hb1)
    have HSZ := HSA
    have H6 : Hid (Fr [] w W5 ∧ True) := Lib.hid ⟨H5.out.1, trivial⟩
    clear hbit he0 he1 hbs
    obtain ⟨hdec, hcase⟩ := HFIN.out _ HSZ.out
    have HDEC := Lib.hid hdec
    clear hdec
    generalize (d.extract 0 k ++ bOf c ++ d.extract k n) = T at HDEC hcase HSZ HSA ⊢
    rcases hcond with hbb | hbb
    all_goals
      rcases hcase with ⟨hnone, hne⟩ | ⟨t, hsome, henc, B, hB1, hB2⟩
      · rw [hnone] at HDEC
        clear hnone
        by_cases hp : (q1 % 2 : Int) = 1
        all_goals
          (try (have hbq : ((q1 % 2 : Int) == 1) = true := beq_iff_eq.2 hp))
          (try (have hbq : ((q1 % 2 : Int) == 1) = false := beq_eq_false_iff_ne.2 hp))
          clear hp
          go_wp2_with fail
          (with_reducible refine (HDEC.out _).mono ?_)
          rintro e w5 ⟨rfl, hf5⟩
          have HF5 := Lib.hid (H6.out.1.then hf5)
          clear hf5
          go_wp2_with fail
          go_ret
          exact ⟨rfl, HF5.out⟩
      · rw [hsome] at HDEC
        have HENC := Lib.hid henc
        clear hsome henc
        by_cases hp : (q1 % 2 : Int) = 1
        all_goals
          (try (have hbq : ((q1 % 2 : Int) == 1) = true := beq_iff_eq.2 hp))
          (try (have hbq : ((q1 % 2 : Int) == 1) = false := beq_eq_false_iff_ne.2 hp))
          clear hp
          go_wp2_with fail
          (with_reducible refine (HDEC.out _).mono ?_)
          rintro e w5 ⟨rfl, hf5⟩
          have HF5 := Lib.hid (H6.out.1.then hf5)
          clear hf5
          cases B
          all_goals
            simp only [Option.getD_some, Option.isSome_some]
            go_wp2_with fail
            (with_reducible refine (HENC.out _).mono ?_)
            rintro e w7 ⟨rfl, hf7⟩
            have HF7 := Lib.hid (HF5.out.then hf7)
            clear hf7
            go_wp2_with fail
            go_ret
            exact ⟨rfl, HF7.out⟩
end Go.Proofs.Ytbfpfmnkmpcgpaa
