/- Contracts of the document's layer 8: Code, IsCode. -/
import Derived.Test.YtbfpfmnkmpcgpaaDoorCode
import Derived.Test.YtbfpfmnkmpcgpaaDoorBBD
namespace Go.Proofs.YtbfpfmnkmpcgpaaDoor
open Go.RowKit
set_option linter.unusedVariables false
set_option linter.unusedSimpArgs false

theorem tens_iff : ∀ n, n < 256 → tens.contains (UInt8.ofNat n) = decide (48 ≤ n ∧ n ≤ 57) := by decide +kernel
theorem tens_of (c : UInt8) : tens.contains c = decide (48 ≤ c.toNat ∧ c.toNat ≤ 57) := by
  have := tens_iff c.toNat c.toNat_lt
  rwa [show UInt8.ofNat c.toNat = c from by simp] at this
set_option maxRecDepth 100000 in
theorem RIsCode_calls (w : World) (s : ByteArray) (hs : s.size ≤ 1000000) :
    Calls Tryd.prog 22 #[.string s] w fun e w' => e = .returned (.bool (isCodeB s)) ∧ Fr [] w w' := by
  have hno : ∀ k (hk : k < s.size), ¬ (48 ≤ (s[k]).toNat ∧ (s[k]).toNat ≤ 57) → isCodeB s = false := by
    intro k hk h
    have h1 : s.data.toList.all (tens.contains ·) = false := by
      cases ha : s.data.toList.all (tens.contains ·) with
      | false => rfl
      | true =>
        have := List.all_eq_true.1 ha (s[k]) (Array.getElem_mem_toList _)
        rw [tens_of, decide_eq_true_eq] at this
        exact absurd this h
    unfold isCodeB
    rw [h1, Bool.and_false]
  have hyes : (∀ k (hk : k < s.size), 48 ≤ (s[k]).toNat ∧ (s[k]).toNat ≤ 57) → isCodeB s = (s.size == 6) := by
    intro h
    have h1 : s.data.toList.all (tens.contains ·) = true := by
      rw [List.all_eq_true]
      intro c hc
      obtain ⟨k, hk, rfl⟩ := List.getElem_of_mem hc
      rw [tens_of, decide_eq_true_eq]
      exact h k (by rw [Array.length_toList] at hk; exact hk)
    unfold isCodeB
    rw [h1, Bool.and_true]
  have h6 : ((s.size : Int) == 6) = (s.size == 6) := by
    by_cases h : s.size = 6
    · rw [h]; rfl
    · rw [beq_eq_false_iff_ne.2 h]; exact beq_eq_false_iff_ne.2 (by omega)
  have HN := Lib.hid hno
  have HY := Lib.hid hyes
  clear hno hyes
  generalize isCodeB s = B at HN HY ⊢
  generalize hS : (s.size == 6) = S6 at HY h6
  clear hS
  go_enter Tryd.func22, Tryd.ntmps22
  go_wp2_with fail
  go_loop [3] (fun v3 => ∃ i : Nat, v3 = .int .i64 i ∧ i ≤ s.size ∧ Hid (∀ k (hk : k < s.size), k < i → 48 ≤ (s[k]).toNat ∧ (s[k]).toNat ≤ 57)) (fun v3 => s.size - (intOf v3).toNat)
  case atStart => exact ⟨0, rfl, Nat.zero_le _, Lib.hid (fun k hk h => absurd h (by omega))⟩
  case round =>
    obtain ⟨i, rfl, hi, H⟩ := hrel
    by_cases hlt : i < s.size
    · have hi0 : (0 : Int) ≤ (i : Int) := by omega
      have hi1 : (i : Int) < (s.size : Int) := by omega
      by_cases h48 : (s[i]).toNat < 48
      · have hB := HN.out i hlt (by omega)
        subst hB
        have h48' : ((s[i]).toNat : Int) < 48 := by omega
        go_wp2_with fail
        go_ret
        exact ⟨rfl, Fr.refl _ _⟩
      · have h48' : ¬ ((s[i]).toNat : Int) < 48 := by omega
        by_cases h57 : 57 < (s[i]).toNat
        · have hB := HN.out i hlt (by omega)
          subst hB
          have h57' : (57 : Int) < ((s[i]).toNat : Int) := by omega
          go_wp2_with fail
          go_ret
          exact ⟨rfl, Fr.refl _ _⟩
        · have h57' : ¬ (57 : Int) < ((s[i]).toNat : Int) := by omega
          have H2 : Hid (∀ k (hk : k < s.size), k < i + 1 → 48 ≤ (s[k]).toNat ∧ (s[k]).toNat ≤ 57) := Lib.hid (fun k hk h => by
            by_cases hki : k = i
            · subst hki; exact ⟨by omega, by omega⟩
            · exact H.out k hk (by omega))
          go_wp2_with fail
          exact ⟨⟨i + 1, by go_num, by omega, H2⟩, by simp only [intOf]; omega⟩
    · obtain rfl : i = s.size := by omega
      have hB := HY.out (fun k hk => H.out k hk hk)
      subst hB
      go_wp2_with fail
      go_ret
      exact ⟨rfl, Fr.refl _ _⟩

/-- The code's row: its last j digits are there. -/
def codeF (r j : Nat) : List UInt8 := List.replicate (6 - j) 0 ++ (codeL r).drop (6 - j)
theorem codeF_set (r j : Nat) (h : j < 6) : (codeF r j).set (5 - j) (UInt8.ofNat (48 + r / 10 ^ j % 10)) = codeF r (j + 1) := by
  have e : j = 0 ∨ j = 1 ∨ j = 2 ∨ j = 3 ∨ j = 4 ∨ j = 5 := by omega
  rcases e with rfl | rfl | rfl | rfl | rfl | rfl <;> simp [codeF, codeL, List.replicate]
theorem codeF_get (r j : Nat) (h : j < 6) : (codeF r j)[5 - j]? = some 0 := by
  have e : j = 0 ∨ j = 1 ∨ j = 2 ∨ j = 3 ∨ j = 4 ∨ j = 5 := by omega
  rcases e with rfl | rfl | rfl | rfl | rfl | rfl <;> rfl
set_option maxRecDepth 100000 in
theorem RCode_calls (w : World) (a : Nat) (ha : a < 18446744073709551616) :
    Calls Tryd.prog 11 #[.int .u64 a] w fun e w' => e = .returned (.string (codeB (a % 1000000))) ∧ Fr [] w w' := by
  obtain ⟨r, hr, hri⟩ : ∃ r : Nat, a % 1000000 = r ∧ (a : Int).tmod 1000000 = (r : Int) := ⟨_, rfl, by rw [Int.tmod_eq_emod_of_nonneg (by omega)]; simp⟩
  have hri2 : (a : Int) % 1000000 = (r : Int) := by rw [← hri, Int.tmod_eq_emod_of_nonneg (by omega)]
  have hr6 : r < 1000000 := by omega
  rw [hr]
  have hz := run_zeros w 6 (mi := 6) rfl (by omega)
  have h0 := BBN.make (Fr.refl [] w) 6
  generalize hW : w.alloc (.cells (Lib.strCells (zerosB 6)).toArray 5) = W1 at hz h0
  have H0 := Lib.hid h0
  have HR := Lib.hid hr6
  clear h0 hW hr hr6 ha
  generalize w.heap.size = g at hz H0
  go_enter Tryd.func11, Tryd.ntmps11
  go_wp2_with fail
  clear hz hri hri2
  go_loopw [3, 5] (fun v3 v5 wr => ∃ j : Nat, j ≤ 6 ∧ v5 = .int .i64 (5 - (j : Int)) ∧ v3 = .int .u64 ((r / 10 ^ j : Nat) : Int) ∧ Hid (BBN w wr g (codeF r j))) (fun _ v5 _ => (intOf v5 + 1).toNat)
  case atStart => exact ⟨0, by omega, rfl, by simp, Lib.hid (H0.out)⟩
  case round =>
    clear H0
    obtain ⟨j, hj, rfl, rfl, H⟩ := hrel
    by_cases hlt : j < 6
    · obtain ⟨e, he, hei⟩ : ∃ e : Nat, 5 - j = e ∧ (5 : Int) - (j : Int) = (e : Int) := ⟨_, rfl, by omega⟩
      obtain ⟨q, hq⟩ : ∃ q, r / 10 ^ j = q := ⟨_, rfl⟩
      have hq10 : r / 10 ^ (j + 1) = q / 10 := by rw [Nat.pow_succ, ← Nat.div_div_eq_div_mul, hq]
      have hqb : q < 1000000 := by rw [← hq]; exact Nat.lt_of_le_of_lt (Nat.div_le_self _ _) HR.out
      obtain ⟨d, hd⟩ : ∃ d, UInt8.ofNat (48 + q % 10) = d := ⟨_, rfl⟩
      have hdn : (d.toNat : Int) = 48 + (q : Int) % 10 := by rw [← hd, UInt8.toNat_ofNat']; omega
      have hst := codeF_set r j hlt
      have hgt := codeF_get r j hlt
      rw [he] at hst hgt
      rw [hq, hd] at hst
      have hc0 := H.out.bb.cellL hgt
      have hf0 := H.out.bb.frozenL e
      have h2 := H.out.set e d
      rw [hst] at h2
      have H2 := Lib.hid h2
      have hw : IntKind.u8.wrap (48 + (q : Int) % 10) = (d.toNat : Int) := by rw [IntKind.wrap_u8, hdn]; omega
      have HQ := Lib.hid hq10
      have he5 : (e : Int) ≤ 5 := by omega
      have he0 : (0 : Int) ≤ (e : Int) := by omega
      have HE := Lib.hid (show (e : Int) - 1 = 5 - ((j + 1 : Nat) : Int) by omega)
      rw [hq, hei]
      clear hq10 hst hgt h2 hd hq he hei H
      go_wp2_with fail
      exact ⟨⟨j + 1, by omega, by rw [← HE.out], by rw [HQ.out]; go_num, by first | exact H2 | (rw [← hdn]; exact H2)⟩, by simp only [intOf]; omega⟩
    · obtain rfl : j = 6 := by omega
      have htx := fun c => H.out.text (n := 6) (c := c) rfl
      have HF := Lib.hid H.out.fr
      clear H
      go_wp2_with fail
      go_ret
      exact ⟨rfl, HF.out⟩
end Go.Proofs.YtbfpfmnkmpcgpaaDoor
