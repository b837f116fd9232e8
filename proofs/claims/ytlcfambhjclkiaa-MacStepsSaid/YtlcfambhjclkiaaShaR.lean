/- Contracts of layer 6 (sha): a number turned to the right. -/
import Derived.Test.YtlcfambhjclkiaaProg
import Derived.Test.YtlcfambhjclkiaaBld
import Derived.Test.YtlcfambhjclkiaaShaPure
import Derived.Laws.BitsAllLaws
import Derived.Lib.Hide
import Derived.Outline
namespace Go.Proofs.Ytlcfambhjclkiaa
open Go.RowKit
set_option linter.unusedVariables false
set_option linter.unusedSimpArgs false

theorem shaR_lt {x k : Nat} (hx : x < 4294967296) : shaR x k < 4294967296 :=
  Nat.or_lt_two_pow (n := 32) (Nat.mod_lt _ (by decide)) (Nat.lt_of_le_of_lt (Nat.div_le_self _ _) hx)
theorem or32 {a b c : Nat} {x y : Int} (hx : x = a) (hy : y = b) (ha : a < 4294967296) (hb : b < 4294967296) (hc : a ||| b = c) : bits .or .u32 x y = (c : Int) := by
  subst hx hy hc
  exact u32_or_nat a b ha hb
set_option maxHeartbeats 1000000 in
set_option maxRecDepth 100000 in
theorem rot2_calls (w : World) (x : Nat) (hx : x < 4294967296) :
    Calls Try.prog 57 #[.int .u32 x, .int .i64 (-2)] w fun e w' => e = .returned (.int .u32 (shaR x 2 : Nat)) ∧ w = w' := by
  have h1 : bits .and .u64 (IntKind.u64.wrap (-2)) 31 = 30 := by decide +kernel
  have h2 : bits .or .u32 (((x : Int) * 1073741824) % 4294967296) ((x : Int) / 4) = (shaR x 2 : Nat) := or32 (a := x * 1073741824 % 4294967296) (b := x / 4) (by simp) (by simp) (Nat.mod_lt _ (by decide)) (by omega) rfl
  generalize shaR x 2 = y at *
  go_enter Try.func57, Try.ntmps57
  go_wp2
  go_ret
  exact ⟨rfl, rfl⟩
set_option maxHeartbeats 1000000 in
set_option maxRecDepth 100000 in
theorem right2_calls (w : World) (x : Nat) {xi : Int} (hxi : xi = x) (hx : x < 4294967296) :
    Calls Try.prog 48 #[.int .u32 xi, .int .i64 2] w fun e w' => e = .returned (.int .u32 (shaR x 2 : Nat)) ∧ w = w' := by
  subst hxi
  go_enter Try.func48, Try.ntmps48
  go_wp2_with fail
  (with_reducible refine (rot2_calls _ x hx).mono ?_)
  rintro e w1 ⟨rfl, rfl⟩
  go_wp2_with fail
  go_ret
  exact ⟨rfl, rfl⟩
set_option maxHeartbeats 1000000 in
set_option maxRecDepth 100000 in
theorem rot6_calls (w : World) (x : Nat) (hx : x < 4294967296) :
    Calls Try.prog 57 #[.int .u32 x, .int .i64 (-6)] w fun e w' => e = .returned (.int .u32 (shaR x 6 : Nat)) ∧ w = w' := by
  have h1 : bits .and .u64 (IntKind.u64.wrap (-6)) 31 = 26 := by decide +kernel
  have h2 : bits .or .u32 (((x : Int) * 67108864) % 4294967296) ((x : Int) / 64) = (shaR x 6 : Nat) := or32 (a := x * 67108864 % 4294967296) (b := x / 64) (by simp) (by simp) (Nat.mod_lt _ (by decide)) (by omega) rfl
  generalize shaR x 6 = y at *
  go_enter Try.func57, Try.ntmps57
  go_wp2
  go_ret
  exact ⟨rfl, rfl⟩
set_option maxHeartbeats 1000000 in
set_option maxRecDepth 100000 in
theorem right6_calls (w : World) (x : Nat) {xi : Int} (hxi : xi = x) (hx : x < 4294967296) :
    Calls Try.prog 48 #[.int .u32 xi, .int .i64 6] w fun e w' => e = .returned (.int .u32 (shaR x 6 : Nat)) ∧ w = w' := by
  subst hxi
  go_enter Try.func48, Try.ntmps48
  go_wp2_with fail
  (with_reducible refine (rot6_calls _ x hx).mono ?_)
  rintro e w1 ⟨rfl, rfl⟩
  go_wp2_with fail
  go_ret
  exact ⟨rfl, rfl⟩
set_option maxHeartbeats 1000000 in
set_option maxRecDepth 100000 in
theorem rot7_calls (w : World) (x : Nat) (hx : x < 4294967296) :
    Calls Try.prog 57 #[.int .u32 x, .int .i64 (-7)] w fun e w' => e = .returned (.int .u32 (shaR x 7 : Nat)) ∧ w = w' := by
  have h1 : bits .and .u64 (IntKind.u64.wrap (-7)) 31 = 25 := by decide +kernel
  have h2 : bits .or .u32 (((x : Int) * 33554432) % 4294967296) ((x : Int) / 128) = (shaR x 7 : Nat) := or32 (a := x * 33554432 % 4294967296) (b := x / 128) (by simp) (by simp) (Nat.mod_lt _ (by decide)) (by omega) rfl
  generalize shaR x 7 = y at *
  go_enter Try.func57, Try.ntmps57
  go_wp2
  go_ret
  exact ⟨rfl, rfl⟩
set_option maxHeartbeats 1000000 in
set_option maxRecDepth 100000 in
theorem right7_calls (w : World) (x : Nat) {xi : Int} (hxi : xi = x) (hx : x < 4294967296) :
    Calls Try.prog 48 #[.int .u32 xi, .int .i64 7] w fun e w' => e = .returned (.int .u32 (shaR x 7 : Nat)) ∧ w = w' := by
  subst hxi
  go_enter Try.func48, Try.ntmps48
  go_wp2_with fail
  (with_reducible refine (rot7_calls _ x hx).mono ?_)
  rintro e w1 ⟨rfl, rfl⟩
  go_wp2_with fail
  go_ret
  exact ⟨rfl, rfl⟩
set_option maxHeartbeats 1000000 in
set_option maxRecDepth 100000 in
theorem rot11_calls (w : World) (x : Nat) (hx : x < 4294967296) :
    Calls Try.prog 57 #[.int .u32 x, .int .i64 (-11)] w fun e w' => e = .returned (.int .u32 (shaR x 11 : Nat)) ∧ w = w' := by
  have h1 : bits .and .u64 (IntKind.u64.wrap (-11)) 31 = 21 := by decide +kernel
  have h2 : bits .or .u32 (((x : Int) * 2097152) % 4294967296) ((x : Int) / 2048) = (shaR x 11 : Nat) := or32 (a := x * 2097152 % 4294967296) (b := x / 2048) (by simp) (by simp) (Nat.mod_lt _ (by decide)) (by omega) rfl
  generalize shaR x 11 = y at *
  go_enter Try.func57, Try.ntmps57
  go_wp2
  go_ret
  exact ⟨rfl, rfl⟩
set_option maxHeartbeats 1000000 in
set_option maxRecDepth 100000 in
theorem right11_calls (w : World) (x : Nat) {xi : Int} (hxi : xi = x) (hx : x < 4294967296) :
    Calls Try.prog 48 #[.int .u32 xi, .int .i64 11] w fun e w' => e = .returned (.int .u32 (shaR x 11 : Nat)) ∧ w = w' := by
  subst hxi
  go_enter Try.func48, Try.ntmps48
  go_wp2_with fail
  (with_reducible refine (rot11_calls _ x hx).mono ?_)
  rintro e w1 ⟨rfl, rfl⟩
  go_wp2_with fail
  go_ret
  exact ⟨rfl, rfl⟩
set_option maxHeartbeats 1000000 in
set_option maxRecDepth 100000 in
theorem rot13_calls (w : World) (x : Nat) (hx : x < 4294967296) :
    Calls Try.prog 57 #[.int .u32 x, .int .i64 (-13)] w fun e w' => e = .returned (.int .u32 (shaR x 13 : Nat)) ∧ w = w' := by
  have h1 : bits .and .u64 (IntKind.u64.wrap (-13)) 31 = 19 := by decide +kernel
  have h2 : bits .or .u32 (((x : Int) * 524288) % 4294967296) ((x : Int) / 8192) = (shaR x 13 : Nat) := or32 (a := x * 524288 % 4294967296) (b := x / 8192) (by simp) (by simp) (Nat.mod_lt _ (by decide)) (by omega) rfl
  generalize shaR x 13 = y at *
  go_enter Try.func57, Try.ntmps57
  go_wp2
  go_ret
  exact ⟨rfl, rfl⟩
set_option maxHeartbeats 1000000 in
set_option maxRecDepth 100000 in
theorem right13_calls (w : World) (x : Nat) {xi : Int} (hxi : xi = x) (hx : x < 4294967296) :
    Calls Try.prog 48 #[.int .u32 xi, .int .i64 13] w fun e w' => e = .returned (.int .u32 (shaR x 13 : Nat)) ∧ w = w' := by
  subst hxi
  go_enter Try.func48, Try.ntmps48
  go_wp2_with fail
  (with_reducible refine (rot13_calls _ x hx).mono ?_)
  rintro e w1 ⟨rfl, rfl⟩
  go_wp2_with fail
  go_ret
  exact ⟨rfl, rfl⟩
set_option maxHeartbeats 1000000 in
set_option maxRecDepth 100000 in
theorem rot17_calls (w : World) (x : Nat) (hx : x < 4294967296) :
    Calls Try.prog 57 #[.int .u32 x, .int .i64 (-17)] w fun e w' => e = .returned (.int .u32 (shaR x 17 : Nat)) ∧ w = w' := by
  have h1 : bits .and .u64 (IntKind.u64.wrap (-17)) 31 = 15 := by decide +kernel
  have h2 : bits .or .u32 (((x : Int) * 32768) % 4294967296) ((x : Int) / 131072) = (shaR x 17 : Nat) := or32 (a := x * 32768 % 4294967296) (b := x / 131072) (by simp) (by simp) (Nat.mod_lt _ (by decide)) (by omega) rfl
  generalize shaR x 17 = y at *
  go_enter Try.func57, Try.ntmps57
  go_wp2
  go_ret
  exact ⟨rfl, rfl⟩
set_option maxHeartbeats 1000000 in
set_option maxRecDepth 100000 in
theorem right17_calls (w : World) (x : Nat) {xi : Int} (hxi : xi = x) (hx : x < 4294967296) :
    Calls Try.prog 48 #[.int .u32 xi, .int .i64 17] w fun e w' => e = .returned (.int .u32 (shaR x 17 : Nat)) ∧ w = w' := by
  subst hxi
  go_enter Try.func48, Try.ntmps48
  go_wp2_with fail
  (with_reducible refine (rot17_calls _ x hx).mono ?_)
  rintro e w1 ⟨rfl, rfl⟩
  go_wp2_with fail
  go_ret
  exact ⟨rfl, rfl⟩
set_option maxHeartbeats 1000000 in
set_option maxRecDepth 100000 in
theorem rot18_calls (w : World) (x : Nat) (hx : x < 4294967296) :
    Calls Try.prog 57 #[.int .u32 x, .int .i64 (-18)] w fun e w' => e = .returned (.int .u32 (shaR x 18 : Nat)) ∧ w = w' := by
  have h1 : bits .and .u64 (IntKind.u64.wrap (-18)) 31 = 14 := by decide +kernel
  have h2 : bits .or .u32 (((x : Int) * 16384) % 4294967296) ((x : Int) / 262144) = (shaR x 18 : Nat) := or32 (a := x * 16384 % 4294967296) (b := x / 262144) (by simp) (by simp) (Nat.mod_lt _ (by decide)) (by omega) rfl
  generalize shaR x 18 = y at *
  go_enter Try.func57, Try.ntmps57
  go_wp2
  go_ret
  exact ⟨rfl, rfl⟩
set_option maxHeartbeats 1000000 in
set_option maxRecDepth 100000 in
theorem right18_calls (w : World) (x : Nat) {xi : Int} (hxi : xi = x) (hx : x < 4294967296) :
    Calls Try.prog 48 #[.int .u32 xi, .int .i64 18] w fun e w' => e = .returned (.int .u32 (shaR x 18 : Nat)) ∧ w = w' := by
  subst hxi
  go_enter Try.func48, Try.ntmps48
  go_wp2_with fail
  (with_reducible refine (rot18_calls _ x hx).mono ?_)
  rintro e w1 ⟨rfl, rfl⟩
  go_wp2_with fail
  go_ret
  exact ⟨rfl, rfl⟩
set_option maxHeartbeats 1000000 in
set_option maxRecDepth 100000 in
theorem rot19_calls (w : World) (x : Nat) (hx : x < 4294967296) :
    Calls Try.prog 57 #[.int .u32 x, .int .i64 (-19)] w fun e w' => e = .returned (.int .u32 (shaR x 19 : Nat)) ∧ w = w' := by
  have h1 : bits .and .u64 (IntKind.u64.wrap (-19)) 31 = 13 := by decide +kernel
  have h2 : bits .or .u32 (((x : Int) * 8192) % 4294967296) ((x : Int) / 524288) = (shaR x 19 : Nat) := or32 (a := x * 8192 % 4294967296) (b := x / 524288) (by simp) (by simp) (Nat.mod_lt _ (by decide)) (by omega) rfl
  generalize shaR x 19 = y at *
  go_enter Try.func57, Try.ntmps57
  go_wp2
  go_ret
  exact ⟨rfl, rfl⟩
set_option maxHeartbeats 1000000 in
set_option maxRecDepth 100000 in
theorem right19_calls (w : World) (x : Nat) {xi : Int} (hxi : xi = x) (hx : x < 4294967296) :
    Calls Try.prog 48 #[.int .u32 xi, .int .i64 19] w fun e w' => e = .returned (.int .u32 (shaR x 19 : Nat)) ∧ w = w' := by
  subst hxi
  go_enter Try.func48, Try.ntmps48
  go_wp2_with fail
  (with_reducible refine (rot19_calls _ x hx).mono ?_)
  rintro e w1 ⟨rfl, rfl⟩
  go_wp2_with fail
  go_ret
  exact ⟨rfl, rfl⟩
set_option maxHeartbeats 1000000 in
set_option maxRecDepth 100000 in
theorem rot22_calls (w : World) (x : Nat) (hx : x < 4294967296) :
    Calls Try.prog 57 #[.int .u32 x, .int .i64 (-22)] w fun e w' => e = .returned (.int .u32 (shaR x 22 : Nat)) ∧ w = w' := by
  have h1 : bits .and .u64 (IntKind.u64.wrap (-22)) 31 = 10 := by decide +kernel
  have h2 : bits .or .u32 (((x : Int) * 1024) % 4294967296) ((x : Int) / 4194304) = (shaR x 22 : Nat) := or32 (a := x * 1024 % 4294967296) (b := x / 4194304) (by simp) (by simp) (Nat.mod_lt _ (by decide)) (by omega) rfl
  generalize shaR x 22 = y at *
  go_enter Try.func57, Try.ntmps57
  go_wp2
  go_ret
  exact ⟨rfl, rfl⟩
set_option maxHeartbeats 1000000 in
set_option maxRecDepth 100000 in
theorem right22_calls (w : World) (x : Nat) {xi : Int} (hxi : xi = x) (hx : x < 4294967296) :
    Calls Try.prog 48 #[.int .u32 xi, .int .i64 22] w fun e w' => e = .returned (.int .u32 (shaR x 22 : Nat)) ∧ w = w' := by
  subst hxi
  go_enter Try.func48, Try.ntmps48
  go_wp2_with fail
  (with_reducible refine (rot22_calls _ x hx).mono ?_)
  rintro e w1 ⟨rfl, rfl⟩
  go_wp2_with fail
  go_ret
  exact ⟨rfl, rfl⟩
set_option maxHeartbeats 1000000 in
set_option maxRecDepth 100000 in
theorem rot25_calls (w : World) (x : Nat) (hx : x < 4294967296) :
    Calls Try.prog 57 #[.int .u32 x, .int .i64 (-25)] w fun e w' => e = .returned (.int .u32 (shaR x 25 : Nat)) ∧ w = w' := by
  have h1 : bits .and .u64 (IntKind.u64.wrap (-25)) 31 = 7 := by decide +kernel
  have h2 : bits .or .u32 (((x : Int) * 128) % 4294967296) ((x : Int) / 33554432) = (shaR x 25 : Nat) := or32 (a := x * 128 % 4294967296) (b := x / 33554432) (by simp) (by simp) (Nat.mod_lt _ (by decide)) (by omega) rfl
  generalize shaR x 25 = y at *
  go_enter Try.func57, Try.ntmps57
  go_wp2
  go_ret
  exact ⟨rfl, rfl⟩
set_option maxHeartbeats 1000000 in
set_option maxRecDepth 100000 in
theorem right25_calls (w : World) (x : Nat) {xi : Int} (hxi : xi = x) (hx : x < 4294967296) :
    Calls Try.prog 48 #[.int .u32 xi, .int .i64 25] w fun e w' => e = .returned (.int .u32 (shaR x 25 : Nat)) ∧ w = w' := by
  subst hxi
  go_enter Try.func48, Try.ntmps48
  go_wp2_with fail
  (with_reducible refine (rot25_calls _ x hx).mono ?_)
  rintro e w1 ⟨rfl, rfl⟩
  go_wp2_with fail
  go_ret
  exact ⟨rfl, rfl⟩

end Go.Proofs.Ytlcfambhjclkiaa
