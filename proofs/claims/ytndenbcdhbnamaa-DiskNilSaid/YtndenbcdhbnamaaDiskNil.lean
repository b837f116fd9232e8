/- The law DiskNil: for any number and any text the Go function returns true (its walk). -/
import Derived.Test.YtndenbcdhbnamaaDisk7
import Derived.Test.YtndenbcdhbnamaaShort02
namespace Go.Proofs.Ytndenbcdhbnamaa
open Go.RowKit
set_option linter.unusedVariables false
set_option linter.unusedSimpArgs false

set_option maxHeartbeats 400000 in
set_option maxRecDepth 100000 in
theorem may_nil (w : World) (a n : Int) :
    Calls Try.prog 27 #[.pointer none, .int .i64 a, .int .i64 n] w fun e w' => e = .returned (.bool false) ∧ w = w' := by
  go_enter Try.func27, Try.ntmps27
  go_wp2
  go_ret
  exact ⟨rfl, rfl⟩

set_option maxHeartbeats 400000 in
set_option maxRecDepth 100000 in
theorem Size_nil (w : World) :
    Calls Try.prog 26 #[.pointer none] w fun e w' => e = .returned (.int .i64 0) ∧ w = w' := by
  go_enter Try.func26, Try.ntmps26
  go_wp2
  go_ret
  exact ⟨rfl, rfl⟩

set_option maxHeartbeats 400000 in
set_option maxRecDepth 100000 in
theorem Write_nil (w : World) (a : Int) (s : ByteArray) :
    Calls Try.prog 12 #[.pointer none, .int .i64 a, .string s] w fun e w' => e = .returned (.int .i64 1) ∧ w = w' := by
  go_enter Try.func12, Try.ntmps12
  go_wp2_with fail
  (with_reducible refine (may_nil _ _ _).mono ?_)
  rintro e w1 ⟨rfl, rfl⟩
  go_wp2_with fail
  go_ret
  exact ⟨rfl, rfl⟩

set_option maxHeartbeats 400000 in
set_option maxRecDepth 100000 in
theorem Read_nil (w : World) (a n : Int) :
    Calls Try.prog 15 #[.pointer none, .int .i64 a, .int .i64 n] w fun e w' => e = .returned (.tuple #[.string ⟨#[]⟩, .int .i64 1]) ∧ w = w' := by
  go_enter Try.func15, Try.ntmps15
  go_wp2_with fail
  (with_reducible refine (may_nil _ _ _).mono ?_)
  rintro e w1 ⟨rfl, rfl⟩
  go_wp2_with fail
  go_ret2
  exact ⟨rfl, rfl⟩

set_option maxHeartbeats 400000 in
set_option maxRecDepth 100000 in
theorem Sync_nil (w : World) :
    Calls Try.prog 16 #[.pointer none] w fun e w' => e = .returned (.int .i64 1) ∧ w = w' := by
  go_enter Try.func16, Try.ntmps16
  go_wp2
  go_ret
  exact ⟨rfl, rfl⟩

set_option maxHeartbeats 400000 in
set_option maxRecDepth 100000 in
theorem Pending_nil (w : World) :
    Calls Try.prog 13 #[.pointer none] w fun e w' => e = .returned (.int .i64 0) ∧ w = w' := by
  go_enter Try.func13, Try.ntmps13
  go_wp2
  go_ret
  exact ⟨rfl, rfl⟩

set_option maxHeartbeats 400000 in
set_option maxRecDepth 100000 in
theorem Crash_nil (w : World) (k : Int) :
    Calls Try.prog 14 #[.pointer none, .int .i64 k] w fun e w' => e = .returned (.int .i64 0) ∧ Fr [] w w' := by
  go_enter Try.func14, Try.ntmps14
  go_wp2
  go_ret
  exact ⟨rfl, ((Fr.refl _ _).alloc _).alloc _⟩

set_option maxHeartbeats 400000 in
set_option maxRecDepth 100000 in
theorem Broken_nil (w : World) :
    Calls Try.prog 18 #[.pointer none] w fun e w' => e = .returned (.bool false) ∧ w = w' := by
  go_enter Try.func18, Try.ntmps18
  go_wp2
  go_ret
  exact ⟨rfl, rfl⟩

set_option maxHeartbeats 400000 in
set_option maxRecDepth 100000 in
theorem Break_nil (w : World) (k : Int) :
    Calls Try.prog 17 #[.pointer none, .int .i64 k] w fun e w' => e = .returned (.tuple #[]) ∧ w = w' := by
  go_enter Try.func17, Try.ntmps17
  go_wp2
  go_end0
  exact ⟨rfl, rfl⟩

set_option maxHeartbeats 400000 in
set_option maxRecDepth 100000 in
theorem New_none (w : World) (n : Int) (h : n < 1 ∨ 131072 < n) :
    Calls Try.prog 10 #[.int .i64 n] w fun e w' => e = .returned (.pointer none) ∧ w = w' := by
  rcases h with h | h
  all_goals
    go_enter Try.func10, Try.ntmps10
    go_wp2
    go_ret
    exact ⟨rfl, rfl⟩

set_option maxHeartbeats 2000000 in
set_option maxRecDepth 100000 in
theorem DiskNil_walk (w : World) (n : Int) (hn : Bd .i64 n) (s0 : ByteArray) (hs0 : s0.size ≤ 140737488351232) :
    Calls Try.prog 8 #[.int .i64 n, .string s0] w fun e w' => e = .returned (.bool true) ∧ Fr [] w w' := by
  have ⟨hn0, hn1⟩ := hn.i64
  clear hn
  by_cases h1 : 1 ≤ n ∧ n ≤ 131072
  · obtain ⟨h1, h2⟩ := h1
    obtain ⟨m, hm, hm1⟩ : ∃ m : Nat, bits BinOp.and IntKind.i64 n 4095 = (m : Int) ∧ m < 4096 := by
      obtain ⟨k, rfl⟩ := Int.eq_ofNat_of_zero_le (show 0 ≤ n by omega)
      exact ⟨k % 4096, i64_mask k 12 (by omega) (by decide), Nat.mod_lt _ (by decide)⟩
    have h3 : (1 : Int) ≤ 1 + (m : Int) := by omega
    have h4 : 1 + (m : Int) ≤ 131072 := by omega
    go_enter Try.func8, Try.ntmps8
    go_wp2_with fail
    (with_reducible refine (short02_calls s0 12 12 rfl _ (by omega) (by omega)).mono ?_)
    rintro e w1 ⟨rfl, rfl⟩
    generalize shortB s0 12 = s
    go_wp2_with fail
    (with_reducible refine (NewN_calls w _ (Fr.refl _ _) (1 + m) (by omega) (by omega) (by omega)).mono ?_)
    rintro e w2 ⟨b, ps, pn, rfl, hD⟩
    have hF := hD.fr
    clear hD
    go_wp2_with fail
    (with_reducible refine (Break_nil _ _).mono ?_)
    rintro e w3 ⟨rfl, rfl⟩
    go_wp2_with fail
    (with_reducible refine (Read_nil _ _ _).mono ?_)
    rintro e w3 ⟨rfl, rfl⟩
    go_wp2_with fail
    (with_reducible refine (awake02_calls _).mono ?_)
    rintro e w3 ⟨rfl, hf3⟩
    have hF3 := hF.then hf3
    clear hF hf3
    go_wp2_with fail
    (with_reducible refine (Size_nil _).mono ?_)
    rintro e w3 ⟨rfl, rfl⟩
    go_wp2_with fail
    (with_reducible refine (Write_nil _ _ _).mono ?_)
    rintro e w3 ⟨rfl, rfl⟩
    go_wp2_with fail
    (with_reducible refine (Sync_nil _).mono ?_)
    rintro e w3 ⟨rfl, rfl⟩
    go_wp2_with fail
    (with_reducible refine (Pending_nil _).mono ?_)
    rintro e w3 ⟨rfl, rfl⟩
    go_wp2_with fail
    (with_reducible refine (Crash_nil _ _).mono ?_)
    rintro e w4 ⟨rfl, hf4⟩
    have hF4 := hF3.then hf4
    clear hF3 hf4
    go_wp2_with fail
    (with_reducible refine (Broken_nil _).mono ?_)
    rintro e w3 ⟨rfl, rfl⟩
    go_wp2_with fail
    go_ret
    exact ⟨rfl, hF4⟩
  · have h3 : n < 1 ∨ 131072 < n := by omega
    rcases h3 with h3 | h3
    all_goals
      have h4 := h3
      (try have h5 : decide (n ≤ 131072) = false := decide_eq_false (by omega))
      go_enter Try.func8, Try.ntmps8
      go_wp2_with fail
      (with_reducible refine (short02_calls s0 12 12 rfl _ (by omega) (by omega)).mono ?_)
      rintro e w1 ⟨rfl, rfl⟩
      generalize shortB s0 12 = s
      go_wp2_with fail
      (with_reducible refine (New_none _ _ (by omega)).mono ?_)
      rintro e w2 ⟨rfl, rfl⟩
      have hF := Fr.refl [] w
      go_wp2_with fail
      (with_reducible refine (Break_nil _ _).mono ?_)
      rintro e w3 ⟨rfl, rfl⟩
      go_wp2_with fail
      (with_reducible refine (Read_nil _ _ _).mono ?_)
      rintro e w3 ⟨rfl, rfl⟩
      go_wp2_with fail
      (with_reducible refine (awake02_calls _).mono ?_)
      rintro e w3 ⟨rfl, hf3⟩
      have hF3 := hF.then hf3
      clear hF hf3
      go_wp2_with fail
      (with_reducible refine (Size_nil _).mono ?_)
      rintro e w3 ⟨rfl, rfl⟩
      go_wp2_with fail
      (with_reducible refine (Write_nil _ _ _).mono ?_)
      rintro e w3 ⟨rfl, rfl⟩
      go_wp2_with fail
      (with_reducible refine (Sync_nil _).mono ?_)
      rintro e w3 ⟨rfl, rfl⟩
      go_wp2_with fail
      (with_reducible refine (Pending_nil _).mono ?_)
      rintro e w3 ⟨rfl, rfl⟩
      go_wp2_with fail
      (with_reducible refine (Crash_nil _ _).mono ?_)
      rintro e w4 ⟨rfl, hf4⟩
      have hF4 := hF3.then hf4
      clear hF3 hf4
      go_wp2_with fail
      (with_reducible refine (Broken_nil _).mono ?_)
      rintro e w3 ⟨rfl, rfl⟩
      go_wp2_with fail
      go_ret
      exact ⟨rfl, hF4⟩
end Go.Proofs.Ytndenbcdhbnamaa
