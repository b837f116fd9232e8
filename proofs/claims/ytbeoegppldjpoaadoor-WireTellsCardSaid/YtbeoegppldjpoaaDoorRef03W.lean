/- Contracts of the document's layer 03, written: Num, Text, Row. -/
import Derived.Test.YtbeoegppldjpoaaDoorProg
import Derived.Test.YtbeoegppldjpoaaDoorRows2
import Derived.Test.YtbeoegppldjpoaaDoorPackPure
import Derived.Deep.RegionWith
import Derived.Test.YtbeoegppldjpoaaDoorBld
namespace Go.Proofs.YtbeoegppldjpoaaDoor
open Go.RowKit
set_option linter.unusedVariables false
set_option linter.unusedSimpArgs false

theorem bOf_cells {c : Int} (h0 : 0 ≤ c) (h1 : c < 256) : Lib.strCells (bOf c) = [.int .u8 c] := by
  have : ((UInt8.ofNat c.toNat).toNat : Int) = c := by
    rw [UInt8.toNat_ofNat']
    omega
  simp only [Lib.strCells, bOf, List.map_cons, List.map_nil, this]
theorem run_toString1 {w : World} {b : Nat} {c : Int} (h0 : 0 ≤ c) (h1 : c < 256) (h : w.cell? ⟨b, 0, none⟩ = some (.int .u8 c)) :
    (convert 53 9 (.slice (some ⟨b, 0, none⟩) 1 1)).run Tryd.prog w = .ok (.string (bOf c)) w := by
  refine run_toString Tryd.underlying53 Tryd.underlying5 Tryd.underlying9 (bOf_size c).symm ?_ (by rintro ad ⟨⟩; rfl)
  rw [bOf_cells h0 h1]
  intro j v hj
  match j, hj with
  | 0, hj =>
    refine ⟨_, rfl, ?_⟩
    simp at hj
    subst hj
    simpa [Addr.add] using h

set_option maxHeartbeats 1000000 in
set_option maxRecDepth 100000 in
theorem refNum_small (n : Int) (w : World) (h0 : 0 ≤ n) (hn : n < 128) :
    Calls Tryd.prog 27 #[.int .u64 n] w fun e w' => e = .returned (.string (numB n.toNat)) ∧ Fr [] w w' := by
  have HB := Lib.hid (numB_small (n := n.toNat) (by omega))
  have hcv := run_toString1 (w := w.alloc (.cells #[.int .u8 n] 5)) (b := w.heap.size) (c := n) h0 (by omega) (by simp)
  go_enter Tryd.func27, Tryd.ntmps27
  go_wp2
  go_ret
  exact ⟨by rw [HB.out]; rfl, (Fr.refl _ _).alloc _⟩

set_option maxHeartbeats 1000000 in
set_option maxRecDepth 100000 in
theorem refNum_all (k : Nat) : ∀ (n : Int) (w : World), 0 ≤ n → n < 18446744073709551616 → n.toNat < 128 ^ (k + 1) →
    Calls Tryd.prog 27 #[.int .u64 n] w fun e w' => e = .returned (.string (numB n.toNat)) ∧ Fr [] w w' := by
  induction k with
  | zero =>
    intro n w h0 h1 h2
    exact refNum_small n w h0 (by simp at h2; omega)
  | succ k ih =>
    intro n w h0 h1 h2
    by_cases hn : n < 128
    · exact refNum_small n w h0 hn
    · have HB := Lib.hid (numB_big (n := n.toNat) (by omega))
      have ih' : ∀ W, Calls Tryd.prog 27 #[.int .u64 (n / 128)] W fun e w' => e = .returned (.string (numB (n / 128).toNat)) ∧ Fr [] W w' := fun W => ih (n / 128) W (by omega) (by omega) (by rw [Nat.pow_succ] at h2; omega)
      have IH := Lib.hid ih'
      clear ih ih' h2
      have hcv : ∀ (W : World) (b : Nat), W.cell? ⟨b, 0, none⟩ = some (.int .u8 (n % 128 + 128)) → (convert 53 9 (.slice (some ⟨b, 0, none⟩) 1 1)).run Tryd.prog W = .ok (.string (bOf (n % 128 + 128))) W := fun W b h => run_toString1 (by omega) (by omega) h
      have e1 : IntKind.u8.wrap (n.tmod 128) = n % 128 := by rw [Int.tmod_eq_emod_of_nonneg h0, IntKind.wrap_u8]; omega
      have e2 : IntKind.u8.wrap (n % 128 + 128) = n % 128 + 128 := by rw [IntKind.wrap_u8]; omega
      have e3 : IntKind.u64.wrap (n.tdiv 128) = n / 128 := by rw [Int.tdiv_eq_ediv_of_nonneg h0, IntKind.wrap_u64]; omega
      have hc0 : (w.alloc (.cells #[.int .u8 (n % 128 + 128)] 5)).drew.cell? ⟨w.heap.size, 0, none⟩ = some (.int .u8 (n % 128 + 128)) := by simp
      have hsz : (9223372036854775807 < (bOf (n % 128 + 128)).size + (numB (n / 128).toNat).size) = False := eq_false (by have := numB_size (n / 128).toNat (by omega); rw [bOf_size]; omega)
      go_enter Tryd.func27, Tryd.ntmps27
      go_wp2_with fail
      go_region_with (go_at_call 27; refine (IH.out _).mono ?_; rintro e w' ⟨rfl, hf⟩; (try have hc1 := hf.cell' (p := ⟨w.heap.size, 0, none⟩) hc0 List.not_mem_nil))
      all_goals
        go_wp2
        go_ret
        refine ⟨by rw [HB.out]; exact congrArg (fun x => Ending.returned (Value.string x)) (by rw [bOf, show (n % 128 + 128).toNat = n.toNat % 128 + 128 from by omega, show (n / 128).toNat = n.toNat / 128 from by omega]), ?_⟩
        first | exact (((Fr.refl _ _).drew.alloc _).then hf) | exact (((Fr.refl _ _).drew.then hf).alloc _) | fail

theorem refNum_calls (n : Int) (w : World) (h0 : 0 ≤ n) (h1 : n < 18446744073709551616) :
    Calls Tryd.prog 27 #[.int .u64 n] w fun e w' => e = .returned (.string (numB n.toNat)) ∧ Fr [] w w' :=
  refNum_all 9 n w h0 h1 (Nat.lt_of_lt_of_le (by omega : n.toNat < 18446744073709551616) (by decide))

set_option maxHeartbeats 1000000 in
set_option maxRecDepth 100000 in
theorem refText_calls (s : ByteArray) (w : World) (hs : s.size ≤ 140737488355328) :
    Calls Tryd.prog 28 #[.string s] w fun e w' => e = .returned (.string (txtB s)) ∧ Fr [] w w' := by
  have hsz : (numB s.size).size ≤ 10 := numB_size s.size (by omega)
  go_enter Tryd.func28, Tryd.ntmps28
  go_wp2_with fail
  refine (refNum_calls _ _ (by omega) (by omega)).mono ?_
  rintro e w1 ⟨rfl, hf1⟩
  rw [Int.toNat_natCast]
  go_wp2_with fail
  go_ret
  exact ⟨rfl, hf1⟩

end Go.Proofs.YtbeoegppldjpoaaDoor
