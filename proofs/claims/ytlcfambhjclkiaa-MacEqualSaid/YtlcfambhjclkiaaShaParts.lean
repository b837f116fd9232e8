/- The law ShaParts: for any text and places the Go function returns true (its walk). -/
import Derived.Test.YtlcfambhjclkiaaShaHex
import Derived.Test.YtlcfambhjclkiaaShort06
namespace Go.Proofs.Ytlcfambhjclkiaa
open Go.RowKit
set_option linter.unusedVariables false
set_option linter.unusedSimpArgs false
attribute [local go_sem] mildAt mildUpon

theorem tmod_bd (a : Int) (n : Nat) : -(n : Int) ≤ a.tmod ((n : Int) + 1) ∧ a.tmod ((n : Int) + 1) ≤ n := by
  have h1 := Int.tmod_lt_of_pos a (show (0 : Int) < (n : Int) + 1 by omega)
  have h2 := Int.lt_tmod_of_pos a (show (0 : Int) < (n : Int) + 1 by omega)
  omega
set_option maxHeartbeats 4000000 in
set_option maxRecDepth 100000 in
theorem ShaParts_walk (w : World) (s : ByteArray) (hs : s.size ≤ 140737488351232) (a : Int) (ha : Bd .i64 a) (b : Int) (hb : Bd .i64 b) :
    Calls Try.prog 5 #[.string s, .int .i64 a, .int .i64 b] w fun e w' => e = .returned (.bool true) ∧ Fr [] w w' := by
  have hsh := fun W => short06_calls s 300 300 rfl W (by omega) (by decide)
  have h300 := shortB_size s 300
  generalize shortB s 300 = x at hsh h300
  obtain ⟨n, hn⟩ : ∃ n, x.size = n := ⟨_, rfl⟩
  have hTa := tmod_bd a n
  have hTb := tmod_bd b n
  generalize hTa' : a.tmod ((n : Int) + 1) = Ta at hTa
  generalize hTb' : b.tmod ((n : Int) + 1) = Tb at hTb
  obtain ⟨i, hi, hin⟩ : ∃ i : Nat, (Ta + n + 1) % ((n : Int) + 1) = i ∧ i ≤ n := ⟨((Ta + n + 1) % ((n : Int) + 1)).toNat, by have := Int.emod_nonneg (Ta + n + 1) (show (n : Int) + 1 ≠ 0 by omega); omega, by have := Int.emod_lt_of_pos (Ta + n + 1) (show (0 : Int) < (n : Int) + 1 by omega); omega⟩
  obtain ⟨k, hk, hkn⟩ : ∃ k : Nat, (Tb + n + 1) % ((n : Int) + 1) = k ∧ k ≤ n := ⟨((Tb + n + 1) % ((n : Int) + 1)).toNat, by have := Int.emod_nonneg (Tb + n + 1) (show (n : Int) + 1 ≠ 0 by omega); omega, by have := Int.emod_lt_of_pos (Tb + n + 1) (show (0 : Int) < (n : Int) + 1 by omega); omega⟩
  obtain ⟨lo, hg, hlo, hhg, hle, hgn⟩ : ∃ lo hg : Nat, min (i : Int) k = lo ∧ max (i : Int) k = hg ∧ lo ≤ hg ∧ hg ≤ n := by
    by_cases h : i ≤ k
    · exact ⟨i, k, by omega, by omega, h, hkn⟩
    · exact ⟨k, i, by omega, by omega, by omega, hin⟩
  have hcat : x.extract 0 lo ++ (x.extract lo hg ++ x.extract hg n) = x := by
    apply ByteArray.ext
    have e : x.data.size = n := hn
    simp only [ByteArray.data_append, ByteArray.data_extract]
    rw [Array.extract_append_extract, Nat.min_eq_left hle, Nat.max_eq_right hgn, Array.extract_append_extract, Nat.min_eq_left (Nat.zero_le _), Nat.max_eq_right (by omega), ← e, Array.extract_size]
  have hs3 : ∀ (W : World) (b : Nat), W.heap[b]? = some (.cells #[.string (x.extract 0 lo), .string (x.extract lo hg), .string (x.extract hg n)] 9 (0, 0)) → Calls Try.prog 16 #[.slice (some ⟨b, 0, none⟩) 3 3] W fun e w' => e = .returned (.string (shaSum x)) ∧ Fr [] W w' := fun W b h => by
    have := Sum3 W b _ _ _ h (by simp only [ByteArray.size_extract]; omega)
    rw [hcat] at this
    exact this
  have hs2 : ∀ (W : World) (b : Nat), W.heap[b]? = some (.cells #[.string ⟨#[]⟩, .string x] 9 (0, 0)) → Calls Try.prog 16 #[.slice (some ⟨b, 0, none⟩) 2 2] W fun e w' => e = .returned (.string (shaSum x)) ∧ Fr [] W w' := fun W b h => by
    have := Sum2 W b _ _ h (by show 0 + _ ≤ _; omega)
    rw [nil_bapp] at this
    exact this
  have hs1 : ∀ (W : World) (b : Nat), W.heap[b]? = some (.cells #[.string x] 9 (0, 0)) → Calls Try.prog 16 #[.slice (some ⟨b, 0, none⟩) 1 1] W fun e w' => e = .returned (.string (shaSum x)) ∧ Fr [] W w' := fun W b h => Sum1 W b _ h (by omega)
  have hs0 : ∀ (W : World) (b : Nat), W.heap[b]? = some (.cells #[.string ⟨#[]⟩] 9 (0, 0)) → Calls Try.prog 16 #[.slice (some ⟨b, 0, none⟩) 1 1] W fun e w' => e = .returned (.string (shaSum ⟨#[]⟩)) ∧ Fr [] W w' := fun W b h => Sum1 W b _ h (Nat.zero_le _)
  have hsn := Sum0
  generalize shaSum x = d at hs3 hs2 hs1
  generalize shaSum ⟨#[]⟩ = d0 at hs0 hsn
  have HS := Lib.hid (And.intro hs3 (And.intro hs2 (And.intro hs1 (And.intro hs0 hsn))))
  clear hs3 hs2 hs1 hs0 hsn hcat
  have hlo0 : (0 : Int) ≤ (lo : Int) := by omega
  have hle' : (lo : Int) ≤ (hg : Int) := by omega
  have hgn' : (hg : Int) ≤ (n : Int) := by omega
  have hln : lo ≤ n := by omega
  have hln' : (lo : Int) ≤ (n : Int) := by omega
  have hg0 : (0 : Int) ≤ (hg : Int) := by omega
  have hab := ha.i64
  have hbb := hb.i64
  clear ha hb
  go_enter Try.func5, Try.ntmps5
  go_wp2_with fail
  (with_reducible refine (awake06_calls _).mono ?_)
  rintro e w1 ⟨rfl, hf1⟩
  have HF1 := Lib.hid hf1
  clear hf1
  go_wp2_with fail
  (with_reducible refine (hsh _).mono ?_)
  rintro e w2 ⟨rfl, rfl⟩
  clear hsh
  go_wp2_with fail
  refine wp_region_mild 35 (by kernel_rfl) (by kernel_rfl) ?_
  simp only [List.take_succ_cons, List.take_zero, List.drop_succ_cons, List.drop_zero, List.take_nil, List.drop_nil]
  repeat (first
    | (apply mild_det1; (· rfl); (· intro W hW u hu K hK; obtain ⟨b, rfl, hb⟩ := hu; go_simp; with_reducible exact mild_call (HS.out.1 W b hb) hK); simp only [Act.put, List.setIfInBounds_toArray, List.set_cons_succ, List.set_cons_zero, Nat.reduceAdd])
    | (apply mild_det1; (· rfl); (· intro W hW u hu K hK; obtain ⟨b, rfl, hb⟩ := hu; go_simp; with_reducible exact mild_call (HS.out.2.1 W b hb) hK); simp only [Act.put, List.setIfInBounds_toArray, List.set_cons_succ, List.set_cons_zero, Nat.reduceAdd])
    | (apply mild_det1; (· rfl); (· intro W hW u hu K hK; obtain ⟨b, rfl, hb⟩ := hu; go_simp; with_reducible exact mild_call (HS.out.2.2.1 W b hb) hK); simp only [Act.put, List.setIfInBounds_toArray, List.set_cons_succ, List.set_cons_zero, Nat.reduceAdd])
    | (apply mild_det1; (· rfl); (· intro W hW u hu K hK; obtain ⟨b, rfl, hb⟩ := hu; go_simp; with_reducible exact mild_call (HS.out.2.2.2.1 W b hb) hK); simp only [Act.put, List.setIfInBounds_toArray, List.set_cons_succ, List.set_cons_zero, Nat.reduceAdd])
    | (apply mild_det0; (· rfl); (· intro W hW K hK; go_simp; with_reducible exact mild_call (HS.out.2.2.2.2 W) hK); simp only [Act.put, List.setIfInBounds_toArray, List.set_cons_succ, List.set_cons_zero, Nat.reduceAdd])
    | (apply mild_det0; (· rfl); (· intro W hW K hK; go_simp; exact hK _ (Fr.refl _ _)); simp only [Act.put, List.setIfInBounds_toArray, List.set_cons_succ, List.set_cons_zero, Nat.reduceAdd])
    | (apply mild_slice; (· rfl); (· intro W hW K hK; go_simp; exact hK _ _ ((Fr.refl _ _).alloc _) ⟨_, rfl, heap_alloc_new _ _⟩); simp only [Act.put, List.setIfInBounds_toArray, List.set_cons_succ, List.set_cons_zero, Nat.reduceAdd]))
  refine mild_nil ?_
  intro W2 hW2
  have HF2 : Hid (Fr [] w W2) := Lib.hid (HF1.out.drew.then hW2)
  clear hW2
  simp only [subAll]
  intros
  simp only [Act.put, List.setIfInBounds_toArray, List.set_cons_succ, List.set_cons_zero]
  go_wp2_with fail
  go_ret
  exact ⟨rfl, HF2.out⟩
end Go.Proofs.Ytlcfambhjclkiaa
