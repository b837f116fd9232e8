/- Addresses: the contracts of digit, letter, only, name and their inner functions. -/
import Derived.Test.YtbeoegppldjpoaaDoorProg
import Derived.Test.YtbeoegppldjpoaaDoorShelf
import Derived.Test.YtbeoegppldjpoaaDoorAddrP
import Derived.BigQuiet
namespace Go.Proofs.YtbeoegppldjpoaaDoor
open Go.RowKit Go.Lib
set_option linter.unusedVariables false
set_option linter.unusedSimpArgs false

/-- bytealg's variable holds some number. -/
def ML (w : World) : Prop := ∃ m, w.cell? ⟨0, 0, none⟩ = some (.int .i64 m)
theorem ML.keep {w w' : World} (h : ML w) (hf : Fr [] w w') : ML w' := by
  obtain ⟨m, hm⟩ := h
  exact ⟨m, hf.cell' hm (by simp)⟩

/-- What a predicate on runes tells, at function number g. -/
def PredR (g : Nat) (m : Nat → Bool) : Prop := ∀ (W : World) (r : Nat), Calls Tryd.prog g #[.int .i32 (r : Int)] W fun e w' => e = .returned (.bool (m r)) ∧ w' = W

set_option maxRecDepth 100000 in
theorem digit_pred : PredR 59 digN := by
  intro W r
  unfold digN
  by_cases h1 : (48 : Int) ≤ (r : Int)
  · by_cases h2 : (r : Int) ≤ 57
    · rw [decide_eq_true (show 48 ≤ r by omega), decide_eq_true (show r ≤ 57 by omega)]
      go_enter Tryd.func59, Tryd.ntmps59
      go_wp2_with fail
      go_ret
      exact ⟨rfl, rfl⟩
    · rw [decide_eq_false (show ¬ r ≤ 57 by omega), Bool.and_false]
      go_enter Tryd.func59, Tryd.ntmps59
      go_wp2_with fail
      go_ret
      exact ⟨by first | rfl | (congr; exact decide_eq_false (by omega)), rfl⟩
  · rw [decide_eq_false (show ¬ 48 ≤ r by omega), Bool.false_and]
    go_enter Tryd.func59, Tryd.ntmps59
    go_wp2_with fail
    go_ret
    exact ⟨rfl, rfl⟩
set_option maxRecDepth 100000 in
theorem letter_pred : PredR 72 letN := by
  intro W r
  have hd := digit_pred W r
  unfold letN
  generalize digN r = b at *
  by_cases h1 : (97 : Int) ≤ (r : Int)
  · by_cases h2 : (r : Int) ≤ 122
    · rw [decide_eq_true (show 97 ≤ r by omega), decide_eq_true (show r ≤ 122 by omega), Bool.and_true, Bool.true_or]
      go_enter Tryd.func72, Tryd.ntmps72
      go_wp2_with fail
      go_ret
      exact ⟨rfl, rfl⟩
    · rw [decide_eq_false (show ¬ r ≤ 122 by omega), Bool.and_false, Bool.false_or]
      go_enter Tryd.func72, Tryd.ntmps72
      go_wp2_with (with_reducible refine hd.mono ?_; rintro e w' ⟨rfl, hw⟩; rw [hw])
      go_ret
      exact ⟨rfl, rfl⟩
  · rw [decide_eq_false (show ¬ 97 ≤ r by omega), Bool.false_and, Bool.false_or]
    go_enter Tryd.func72, Tryd.ntmps72
    go_wp2_with (with_reducible refine hd.mono ?_; rintro e w' ⟨rfl, hw⟩; rw [hw])
    go_ret
    exact ⟨rfl, rfl⟩
set_option maxRecDepth 100000 in
theorem host1_pred : PredR 74 lbN := by
  intro W r
  have hd := letter_pred W r
  unfold lbN
  generalize letN r = b at *
  have e1 : ((r : Int) == 45) = decide (r = 45) := by
    by_cases h : r = 45
    · rw [decide_eq_true h, h]; rfl
    · rw [decide_eq_false h]; exact beq_eq_false_iff_ne.2 (by omega)
  generalize decide (r = 45) = d1 at *
  cases b
  · rw [Bool.false_or]
    go_enter Tryd.func74, Tryd.ntmps74
    go_wp2_with (with_reducible refine hd.mono ?_; rintro e w' ⟨rfl, hw⟩; rw [hw])
    go_ret
    exact ⟨rfl, rfl⟩
  · rw [Bool.true_or]
    go_enter Tryd.func74, Tryd.ntmps74
    go_wp2_with (with_reducible refine hd.mono ?_; rintro e w' ⟨rfl, hw⟩; rw [hw])
    go_ret
    exact ⟨rfl, rfl⟩
set_option maxRecDepth 100000 in
theorem name1_pred : PredR 71 nmN := by
  intro W r
  have hd := letter_pred W r
  unfold nmN
  generalize letN r = b at *
  have eq : ∀ n : Nat, ((r : Int) == (n : Int)) = decide (r = n) := fun n => by
    by_cases h : r = n
    · rw [decide_eq_true h, h]; exact beq_self_eq_true _
    · rw [decide_eq_false h]; exact beq_eq_false_iff_ne.2 (by omega)
  have e1 : ((r : Int) == 95) = decide (r = 95) := eq 95
  have e2 : ((r : Int) == 45) = decide (r = 45) := eq 45
  have e3 : ((r : Int) == 46) = decide (r = 46) := eq 46
  clear eq
  generalize decide (r = 95) = d1 at *
  generalize decide (r = 45) = d2 at *
  generalize decide (r = 46) = d3 at *
  cases b <;> cases d1 <;> cases d2
  all_goals
    simp only [Bool.false_or, Bool.true_or]
    go_enter Tryd.func71, Tryd.ntmps71
    go_wp2_with (with_reducible refine hd.mono ?_; rintro e w' ⟨rfl, hw⟩; rw [hw])
    go_ret
    exact ⟨rfl, rfl⟩

set_option maxRecDepth 100000 in
theorem only1_calls (g : Nat) (m : Nat → Bool) (eg : ∀ args w, (callFunc g args).run Tryd.prog w = .ok (.enter g args) w) (hm : PredR g m) (W : World) (B : Nat) (hB : W.cell? ⟨B, 0, none⟩ = some (.func (.func g) #[] #[])) (r : Nat) :
    Calls Tryd.prog 76 #[.int .i32 (r : Int), .pointer (some ⟨B, 0, none⟩)] W fun e w' => e = .returned (.bool (!m r)) ∧ w' = W := by
  have hc := hm W r
  clear hm
  go_enter Tryd.func76, Tryd.ntmps76
  go_wp2_with (go_at_fn g; (with_reducible refine hc.mono ?_); rintro e w' ⟨rfl, hw⟩; rw [hw])
  go_ret
  exact ⟨rfl, rfl⟩
set_option maxRecDepth 100000 in
theorem IndexFunc_calls (g : Nat) (lb : Array Value) (eg : ∀ args w, (callFunc g args).run Tryd.prog w = .ok (.enter g args) w) (p : Nat → Bool) (s : ByteArray) (w : World) (hp : PredAt Tryd.prog g lb encR p w) :
    Calls Tryd.prog 75 #[.string s, .func (.func g) #[] lb] w fun e w' => e = .returned (.int .i64 (Lib.idxFunc p true s)) ∧ Fr [] w w' := by
  have hc := Tryd.strings_indexFunc g lb eg p true s w hp
  clear hp
  go_enter Tryd.func75, Tryd.ntmps75
  go_wp2_with ((with_reducible refine hc.mono ?_); rintro e w' ⟨rfl, hw⟩)
  go_ret
  exact ⟨rfl, Fr.of_below hw⟩
set_option maxRecDepth 100000 in
theorem only_calls (g : Nat) (m : Nat → Bool) (eg : ∀ args w, (callFunc g args).run Tryd.prog w = .ok (.enter g args) w) (hm : PredR g m) (hh : ∀ r, 128 ≤ r → m r = false) (w : World) (s : ByteArray) :
    Calls Tryd.prog 58 #[.string s, .func (.func g) #[] #[]] w fun e w' => e = .returned (.bool (s.data.toList.all fun c => m c.toNat)) ∧ Fr [] w w' := by
  have hmf : ∀ (fn : Fn) (first cap : Array Value) (w : World), (Instr.makeFunc fn first cap).run Tryd.prog w = .ok (.func fn first cap) w := fun _ _ _ _ => rfl
  have eo : ∀ args w, (callFunc 76 args).run Tryd.prog w = .ok (.enter 76 args) w := enters_of Tryd.func76 (by kernel_rfl) rfl
  have hpr : ∀ W, W = w.alloc (.cells #[.func (.func g) #[] #[]] 101) → PredAt Tryd.prog 76 #[.pointer (some ⟨w.heap.size, 0, none⟩)] encR (fun r => !m r) W := by
    intro W hW W' r hb
    subst hW
    have hc : W'.cell? ⟨w.heap.size, 0, none⟩ = some (.func (.func g) #[] #[]) := (hb.cell (p := ⟨w.heap.size, 0, none⟩) (by simp)).trans (by rw [Lib.cell_of_heap (heap_alloc_new w _)]; rfl)
    unfold FnGives
    exact (only1_calls g m eg hm W' w.heap.size hc r).mono fun e w' ⟨he, hw⟩ => ⟨he, 0, hw⟩
  have hc := IndexFunc_calls 76 #[.pointer (some ⟨w.heap.size, 0, none⟩)] eo (fun r => !m r) s _ (hpr _ rfl)
  have he := only_eq m hh s
  generalize (s.data.toList.all fun c => m c.toNat) = b at *
  generalize Lib.idxFunc (fun r => !m r) true s = i at *
  have HC := Lib.hid hc
  clear hpr hm eg eo hc
  rw [← he]
  clear he
  go_enter Tryd.func58, Tryd.ntmps58
  go_wp2_with ((with_reducible refine HC.out.mono ?_); rintro e w' ⟨rfl, hw⟩)
  go_ret
  exact ⟨rfl, ((Fr.refl _ _).alloc _).then hw⟩
theorem only_digit (w : World) (s : ByteArray) : Calls Tryd.prog 58 #[.string s, .func (.func 59) #[] #[]] w fun e w' => e = .returned (.bool (s.data.toList.all fun c => digN c.toNat)) ∧ Fr [] w w' :=
  only_calls _ digN (enters_of Tryd.func59 (by kernel_rfl) rfl) digit_pred digN_high w s
theorem only_name (w : World) (s : ByteArray) : Calls Tryd.prog 58 #[.string s, .func (.func 71) #[] #[]] w fun e w' => e = .returned (.bool (s.data.toList.all fun c => nmN c.toNat)) ∧ Fr [] w w' :=
  only_calls _ nmN (enters_of Tryd.func71 (by kernel_rfl) rfl) name1_pred nmN_high w s
theorem only_host (w : World) (s : ByteArray) : Calls Tryd.prog 58 #[.string s, .func (.func 74) #[] #[]] w fun e w' => e = .returned (.bool (s.data.toList.all fun c => lbN c.toNat)) ∧ Fr [] w w' :=
  only_calls _ lbN (enters_of Tryd.func74 (by kernel_rfl) rfl) host1_pred lbN_high w s
end Go.Proofs.YtbeoegppldjpoaaDoor
