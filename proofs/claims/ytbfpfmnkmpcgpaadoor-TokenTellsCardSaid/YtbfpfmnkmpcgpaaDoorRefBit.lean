/- Contracts of the document's layer 8: bit, Encode, Token. -/
import Derived.Test.YtbfpfmnkmpcgpaaDoorTokBit
import Derived.Test.YtbfpfmnkmpcgpaaDoorClean
import Derived.Test.YtbfpfmnkmpcgpaaDoorSRow1
import Derived.Deep.RegionHeld3
namespace Go.Proofs.YtbfpfmnkmpcgpaaDoor
open Go.RowKit
set_option linter.unusedVariables false
set_option linter.unusedSimpArgs false

theorem take_nxt (s : ByteArray) (k : Nat) (h : k < s.size) : s.data.toList.take (k + 1) = s.data.toList.take k ++ [s[k]] := by
  rw [List.take_succ_eq_append_getElem (by rw [Array.length_toList]; exact h)]
  rfl
theorem strCells_snoc (l : List UInt8) (c : UInt8) : Lib.strCells (bL l) ++ [.int .u8 (c.toNat : Int)] = Lib.strCells (bL (l ++ [c])) := by
  simp [Lib.strCells, bL]
theorem and_1 (q : Nat) (hq : q ≤ 9223372036854775807) : bits .and .i64 (q : Int) 1 = ((q % 2 : Nat) : Int) := by
  have h1 : BitVec.ofInt 64 (q : Int) &&& BitVec.ofInt 64 1 = BitVec.ofInt 64 ((q : Int) % 2) := by
    apply BitVec.eq_of_toNat_eq
    rw [BitVec.toNat_and]
    have e1 : (BitVec.ofInt 64 1).toNat = 2 ^ 1 - 1 := rfl
    rw [e1, Nat.and_two_pow_sub_one_eq_mod, BitVec.toNat_ofInt, BitVec.toNat_ofInt]
    omega
  show IntKind.i64.wrap ((BitVec.ofInt 64 (q : Int) &&& BitVec.ofInt 64 1).toNat : Int) = _
  rw [h1, BitVec.toNat_ofInt, IntKind.wrap_i64]
  omega
theorem bitN_off (s : ByteArray) (i : Nat) (h : s.size ≤ i / 8) : bitN s i = 0 := by
  unfold bitN bitL
  rw [List.getD_eq_getElem?_getD, List.getElem?_eq_none (by rw [Array.length_toList]; exact h)]
  simp
theorem bitN_on (s : ByteArray) (i : Nat) (h : i / 8 < s.size) : bitN s i = (s[i / 8]).toNat / 2 ^ (7 - i % 8) % 2 := by
  unfold bitN bitL
  rw [List.getD_eq_getElem?_getD, List.getElem?_eq_getElem (by rw [Array.length_toList]; exact h)]
  rfl
set_option maxRecDepth 100000 in
theorem bit_calls (w : World) (s : ByteArray) (i : Nat) (hs : s.size ≤ 1000000) (hi : i ≤ 10000000) {ii : Int} (hii : ii = i) :
    Calls Tryd.prog 43 #[.string s, .int .i64 ii] w fun e w' => e = .returned (.int .i64 (bitN s i)) ∧ Fr [] w w' := by
  subst hii
  obtain ⟨q, hq, hqi⟩ : ∃ q : Nat, i / 8 = q ∧ (i : Int).tdiv 8 = (q : Int) := ⟨_, rfl, by rw [Int.tdiv_eq_ediv_of_nonneg (by omega)]; omega⟩
  have hqi2 : (i : Int) / 8 = (q : Int) := by omega
  by_cases hlt : q < s.size
  · obtain ⟨ρ, hρ, hρi⟩ : ∃ ρ : Nat, i % 8 = ρ ∧ (i : Int).tmod 8 = (ρ : Int) := ⟨_, rfl, by rw [Int.tmod_eq_emod_of_nonneg (by omega)]; omega⟩
    have hρi2 : (i : Int) % 8 = (ρ : Int) := by omega
    have hb := bitN_on s i (by omega)
    simp only [hq, hρ] at hb
    have hρ8 : ρ < 8 := by omega
    have hb7 : (7 : Int) - (ρ : Int) = ((7 - ρ : Nat) : Int) := by omega
    have hk7 : 7 - ρ < 8 := by omega
    generalize 7 - ρ = k at hb hb7 hk7
    have hand := and_1 ((s[q]).toNat / 2 ^ k) (by have := (s[q]).toNat_lt; have := Nat.div_le_self (s[q]).toNat (2 ^ k); omega)
    rw [← hb, show (((s[q]).toNat / 2 ^ k : Nat) : Int) = ((s[q]).toNat : Int) / 2 ^ k by simp] at hand
    have hq0 : (0 : Int) ≤ (q : Int) := by omega
    have hq1 : (q : Int) < (s.size : Int) := by omega
    have hk0 : ¬ (k : Int) < 0 := by omega
    have hqb : (q : Int) ≤ 10000000 := by omega
    have hcl : ((s[q]).toNat : Int) ≤ 255 := by have := (s[q]).toNat_lt; omega
    clear hb
    clear hs hi
    go_enter Tryd.func43, Tryd.ntmps43
    go_wp2_with fail
    go_ret
    exact ⟨rfl, Fr.refl _ _⟩
  · rw [bitN_off s i (by omega)]
    have hq0 : (0 : Int) ≤ (q : Int) := by omega
    have hqb : (q : Int) ≤ 10000000 := by omega
    have hqs : (s.size : Int) ≤ (q : Int) := by omega
    clear hs hi
    go_enter Tryd.func43, Tryd.ntmps43
    go_wp2_with fail
    go_ret
    exact ⟨rfl, Fr.refl _ _⟩
end Go.Proofs.YtbfpfmnkmpcgpaaDoor
