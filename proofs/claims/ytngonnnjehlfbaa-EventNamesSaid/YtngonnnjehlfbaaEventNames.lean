/- The law EventNames: for any two kinds the Go function returns true (its walk). -/
import Derived.Test.YtngonnnjehlfbaaEvName
import Derived.Test.YtngonnnjehlfbaaMask
namespace Go.Proofs.Ytngonnnjehlfbaa
open Go.RowKit
set_option linter.unusedVariables false
set_option linter.unusedSimpArgs false

theorem names_all : ((List.range 32).all fun x => (evName (x : Int)).data.toList.isEmpty == !(decide (1 ≤ x) && decide (x ≤ 21))) = true := by kernel_rfl
theorem names_two : ((List.range 32).all fun x => (List.range 32).all fun y => !(decide (1 ≤ x) && decide (x ≤ 21)) || (((evName (x : Int)).data.toList == (evName (y : Int)).data.toList) == decide (x = y))) = true := by kernel_rfl
theorem names_empty {x : Nat} (h : x < 32) : (evName (x : Int)).toList.isEmpty = !(decide (1 ≤ x) && decide (x ≤ 21)) := by
  have := List.all_eq_true.1 names_all x (List.mem_range.2 h)
  rw [Lib.toList_data]
  simpa using this
theorem names_eq {x y : Nat} (h : x < 32) (hy : y < 32) (h1 : 1 ≤ x) (h2 : x ≤ 21) : ((evName (x : Int)).toList == (evName (y : Int)).toList) = decide (x = y) := by
  have := List.all_eq_true.1 (List.all_eq_true.1 names_two x (List.mem_range.2 h)) y (List.mem_range.2 hy)
  rw [Lib.toList_data, Lib.toList_data]
  rw [decide_eq_true h1, decide_eq_true h2] at this
  simpa using this

set_option maxHeartbeats 2000000 in
set_option maxRecDepth 100000 in
theorem EventNames_walk (w : World) (a : Int) (ha : Bd .i64 a) (b : Int) (hb : Bd .i64 b) :
    Calls Try.prog 6 #[.int .i64 a, .int .i64 b] w fun e w' => e = .returned (.bool true) ∧ Fr [] w w' := by
  obtain ⟨x, hx, hx32⟩ : ∃ k : Nat, bits BinOp.and IntKind.i64 a 31 = (k : Int) ∧ k < 32 := ⟨(a % 32).toNat, by rw [i64_and31]; omega, by omega⟩
  obtain ⟨y, hy, hy32⟩ : ∃ k : Nat, bits BinOp.and IntKind.i64 b 31 = (k : Int) ∧ k < 32 := ⟨(b % 32).toNat, by rw [i64_and31]; omega, by omega⟩
  have hnx := fun W => Name_calls W x (by omega) (by omega)
  have hny := fun W => Name_calls W y (by omega) (by omega)
  have he := names_empty hx32
  have hq := fun h1 h2 => names_eq (y := y) hx32 hy32 h1 h2
  generalize evName x = nx at *
  generalize evName y = ny at *
  have HNX := Lib.hid hnx
  have HNY := Lib.hid hny
  have HQ := Lib.hid hq
  have HE := Lib.hid he
  clear hnx hny hq he
  go_enter Try.func6, Try.ntmps6
  go_wp2_with fail
  (with_reducible refine (awake15_calls _).mono ?_)
  rintro e w1 ⟨rfl, hf1⟩
  by_cases h1 : 1 ≤ x
  · by_cases h2 : x ≤ 21
    · have hq := HQ.out h1 h2
      have he := HE.out
      rw [decide_eq_true h1, decide_eq_true h2] at he
      have hd1 : decide ((1 : Int) ≤ (x : Int)) = true := decide_eq_true (by omega)
      have hd2 : decide ((x : Int) ≤ 21) = true := decide_eq_true (by omega)
      have hxy : decide (x = y) = decide ((x : Int) = (y : Int)) := by congr 1; exact propext (by omega)
      rw [hxy] at hq
      have HQ2 := Lib.hid hq
      clear hq hxy HQ HE
      go_wp2_with fail
      (with_reducible refine (HNX.out _).mono ?_)
      rintro e w2 ⟨rfl, hf2⟩
      go_wp2_with fail
      (with_reducible refine (HNX.out _).mono ?_)
      rintro e w3 ⟨rfl, hf3⟩
      go_wp2_with fail
      (with_reducible refine (HNY.out _).mono ?_)
      rintro e w4 ⟨rfl, hf4⟩
      have hF := ((hf1.then hf2).then hf3).then hf4
      have hq := HQ2.out
      clear hf1 hf2 hf3 hf4
      go_wp2_with fail
      go_ret
      exact ⟨by by_cases hxy : (x : Int) = (y : Int) <;> simp [hxy], hF⟩
    · have he := HE.out
      rw [decide_eq_true h1, decide_eq_false h2] at he
      have hd1 : decide ((1 : Int) ≤ (x : Int)) = true := decide_eq_true (by omega)
      have hd2 : decide ((x : Int) ≤ 21) = false := decide_eq_false (by omega)
      clear HQ HE
      go_wp2_with fail
      (with_reducible refine (HNX.out _).mono ?_)
      rintro e w2 ⟨rfl, hf2⟩
      go_wp2_with fail
      go_ret
      exact ⟨rfl, hf1.then hf2⟩
  · have he := HE.out
    rw [decide_eq_false h1] at he
    have hd1 : decide ((1 : Int) ≤ (x : Int)) = false := decide_eq_false (by omega)
    clear HQ HE
    go_wp2_with fail
    (with_reducible refine (HNX.out _).mono ?_)
    rintro e w2 ⟨rfl, hf2⟩
    go_wp2_with fail
    go_ret
    exact ⟨rfl, hf1.then hf2⟩
end Go.Proofs.Ytngonnnjehlfbaa
