/- The contracts of event.within, event.Check, event.Bytes and of the statements' awake of layer 15. -/
import Derived.Test.YtngonnnjehlfbaaEvPut
import Derived.KernelRfl
namespace Go.Proofs.Ytngonnnjehlfbaa
open Go.RowKit
set_option linter.unusedVariables false
set_option linter.unusedSimpArgs false

/-- An event. -/
structure Ev where
  k : Int
  ac : Int
  pu : Int
  at' : Int
  n : Int
  a : ByteArray
  b : ByteArray
  c : ByteArray
def Ev.cells (e : Ev) : List Value := [.int .i64 e.k, .int .i64 e.ac, .int .i64 e.pu, .int .i64 e.at', .int .i64 e.n, .string e.a, .string e.b, .string e.c]
def Ev.val (e : Ev) : Value := .agg #[.int .i64 e.k, .int .i64 e.ac, .int .i64 e.pu, .int .i64 e.at', .int .i64 e.n, .string e.a, .string e.b, .string e.c]
def Ev.obj (e : Ev) : Obj := .cells #[.int .i64 e.k, .int .i64 e.ac, .int .i64 e.pu, .int .i64 e.at', .int .i64 e.n, .string e.a, .string e.b, .string e.c] 56
/-- Its texts are short. -/
def Ev.short (e : Ev) (m : Nat) : Prop := e.a.size ≤ m ∧ e.b.size ≤ m ∧ e.c.size ≤ m
def Ev.nums (e : Ev) : Bool := decide (1 ≤ e.k) && decide (e.k ≤ 21) && (decide (0 ≤ e.ac) && decide (e.ac ≤ 99)) && (decide (0 ≤ e.pu) && decide (e.pu ≤ 9)) && (decide (0 ≤ e.at') && decide (e.at' ≤ 1099511627776)) && (decide (0 ≤ e.n) && decide (e.n ≤ 1099511627776))
/-- It may be. -/
def Ev.ok (e : Ev) : Bool := e.nums && (decide (e.a.size ≤ 100) && decide (e.b.size ≤ 100) && decide (e.c.size ≤ 100))
def evB (e : Ev) : ByteArray := numsB [e.k, e.ac, e.pu, e.at', e.n] ++ txtsB [e.a, e.b, e.c]

section
variable (a lo hi : Int) (w : World)
theorem within_calls : Calls Try.prog 55 #[.int .i64 a, .int .i64 lo, .int .i64 hi] w fun e w' => e = .returned (.bool (decide (lo ≤ a) && decide (a ≤ hi))) ∧ w' = w := by
  by_cases h : lo ≤ a
  all_goals
    go_enter Try.func55, Try.ntmps55
    go_wp2_with fail
    go_ret
    exact ⟨(by congr 2; simp [h]; try omega), rfl⟩
theorem within64_calls : Calls Try.prog 57 #[.int .i64 a, .int .i64 lo, .int .i64 hi] w fun e w' => e = .returned (.bool (decide (lo ≤ a) && decide (a ≤ hi))) ∧ w' = w := by
  by_cases h : lo ≤ a
  all_goals
    go_enter Try.func57, Try.ntmps57
    go_wp2_with fail
    go_ret
    exact ⟨(by congr 2; simp [h]; try omega), rfl⟩
end

set_option maxHeartbeats 2000000 in
set_option maxRecDepth 100000 in
theorem Check_calls (w : World) (e : Ev) (hs : e.short 140737488351232) :
    Calls Try.prog 31 #[e.val] w fun x w' => x = .returned (.bool e.ok) ∧ Fr [] w w' := by
  obtain ⟨ek, eac, epu, eat, en, sa, sb, sc⟩ := e
  obtain ⟨hs0, hs1, hs2⟩ := hs
  simp only at hs0 hs1 hs2
  unfold Ev.val Ev.ok Ev.nums
  simp only
  generalize hb0 : (decide (1 ≤ ek) && decide (ek ≤ 21)) = b0
  generalize hb1 : (decide (0 ≤ eac) && decide (eac ≤ 99)) = b1
  generalize hb2 : (decide (0 ≤ epu) && decide (epu ≤ 9)) = b2
  generalize hb3 : (decide (0 ≤ eat) && decide (eat ≤ 1099511627776)) = b3
  generalize hb4 : (decide (0 ≤ en) && decide (en ≤ 1099511627776)) = b4
  have hw0 := fun W => within_calls ek 1 21 W
  have hw1 := fun W => within_calls eac 0 99 W
  have hw2 := fun W => within_calls epu 0 9 W
  have hw3 := fun W => within64_calls eat 0 1099511627776 W
  have hw4 := fun W => within64_calls en 0 1099511627776 W
  rw [hb0] at hw0
  rw [hb1] at hw1
  rw [hb2] at hw2
  rw [hb3] at hw3
  rw [hb4] at hw4
  have H0 := Lib.hid hw0
  have H1 := Lib.hid hw1
  have H2 := Lib.hid hw2
  have H3 := Lib.hid hw3
  have H4 := Lib.hid hw4
  clear hb0 hb1 hb2 hb3 hb4 hw0 hw1 hw2 hw3 hw4
  have i0 : ∀ w, (Instr.index 89 (.agg #[.string sa, .string sb, .string sc]) (.int .i64 0)).run Try.prog w = .ok (.string sa) w := fun _ => by kernel_rfl
  have i1 : ∀ w, (Instr.index 89 (.agg #[.string sa, .string sb, .string sc]) (.int .i64 1)).run Try.prog w = .ok (.string sb) w := fun _ => by kernel_rfl
  have i2 : ∀ w, (Instr.index 89 (.agg #[.string sa, .string sb, .string sc]) (.int .i64 2)).run Try.prog w = .ok (.string sc) w := fun _ => by kernel_rfl
  cases b0
  · go_enter Try.func31, Try.ntmps31
    go_wp2_with fail
    go_step3
    go_wp2_with fail
    (with_reducible refine (H0.out _).mono ?_)
    rintro e w1 ⟨rfl, rfl⟩
    go_wp2_with fail
    go_step3
    go_wp2_with fail
    go_loop [3, 5, 36] (fun v3 v5 v36 => v3 = .bool (false) ∧ ((v36 = .int .i64 0) ∨ (v36 = .int .i64 1 ∧ sa.size ≤ 100) ∨ (v36 = .int .i64 2 ∧ sa.size ≤ 100 ∧ sb.size ≤ 100) ∨ (v36 = .int .i64 3 ∧ sa.size ≤ 100 ∧ sb.size ≤ 100 ∧ sc.size ≤ 100))) (fun _ _ v36 => 3 - (intOf v36).toNat)
    case atStart => exact ⟨rfl, .inl rfl⟩
    case round =>
      obtain ⟨rfl, h⟩ := hrel
      rcases h with rfl | ⟨rfl, h1⟩ | ⟨rfl, h1, h2⟩ | ⟨rfl, h1, h2, h3⟩
      · by_cases hc : sa.size ≤ 100
        · go_wp2_with fail
          exact ⟨⟨rfl, .inr (.inl ⟨by go_num, hc⟩)⟩, by simp only [intOf]; decide⟩
        · go_wp2_with fail
          (try rw [Exit.noGoto_ret])
          skip
          go_ret
          exact ⟨by simp [hc], (Fr.refl _ _).alloc _⟩
      · by_cases hc : sb.size ≤ 100
        · go_wp2_with fail
          exact ⟨⟨rfl, .inr (.inr (.inl ⟨by go_num, h1, hc⟩))⟩, by simp only [intOf]; decide⟩
        · go_wp2_with fail
          (try rw [Exit.noGoto_ret])
          go_ret
          exact ⟨by simp [hc], (Fr.refl _ _).alloc _⟩
      · by_cases hc : sc.size ≤ 100
        · go_wp2_with fail
          exact ⟨⟨rfl, .inr (.inr (.inr ⟨by go_num, h1, h2, hc⟩))⟩, by simp only [intOf]; decide⟩
        · go_wp2_with fail
          (try rw [Exit.noGoto_ret])
          go_ret
          exact ⟨by simp [hc], (Fr.refl _ _).alloc _⟩
      · go_wp2_with fail
        (try rw [Exit.noGoto_ret])
        go_ret
        exact ⟨by simp [h1, h2, h3], (Fr.refl _ _).alloc _⟩
  · cases b1
    · go_enter Try.func31, Try.ntmps31
      go_wp2_with fail
      go_step3
      go_wp2_with fail
      (with_reducible refine (H0.out _).mono ?_)
      rintro e w1 ⟨rfl, rfl⟩
      go_wp2_with fail
      (with_reducible refine (H1.out _).mono ?_)
      rintro e w1 ⟨rfl, rfl⟩
      go_wp2_with fail
      go_step3
      go_wp2_with fail
      go_loop [3, 5, 36] (fun v3 v5 v36 => v3 = .bool (false) ∧ ((v36 = .int .i64 0) ∨ (v36 = .int .i64 1 ∧ sa.size ≤ 100) ∨ (v36 = .int .i64 2 ∧ sa.size ≤ 100 ∧ sb.size ≤ 100) ∨ (v36 = .int .i64 3 ∧ sa.size ≤ 100 ∧ sb.size ≤ 100 ∧ sc.size ≤ 100))) (fun _ _ v36 => 3 - (intOf v36).toNat)
      case atStart => exact ⟨rfl, .inl rfl⟩
      case round =>
        obtain ⟨rfl, h⟩ := hrel
        rcases h with rfl | ⟨rfl, h1⟩ | ⟨rfl, h1, h2⟩ | ⟨rfl, h1, h2, h3⟩
        · by_cases hc : sa.size ≤ 100
          · go_wp2_with fail
            exact ⟨⟨rfl, .inr (.inl ⟨by go_num, hc⟩)⟩, by simp only [intOf]; decide⟩
          · go_wp2_with fail
            (try rw [Exit.noGoto_ret])
            skip
            go_ret
            exact ⟨by simp [hc], (Fr.refl _ _).alloc _⟩
        · by_cases hc : sb.size ≤ 100
          · go_wp2_with fail
            exact ⟨⟨rfl, .inr (.inr (.inl ⟨by go_num, h1, hc⟩))⟩, by simp only [intOf]; decide⟩
          · go_wp2_with fail
            (try rw [Exit.noGoto_ret])
            go_ret
            exact ⟨by simp [hc], (Fr.refl _ _).alloc _⟩
        · by_cases hc : sc.size ≤ 100
          · go_wp2_with fail
            exact ⟨⟨rfl, .inr (.inr (.inr ⟨by go_num, h1, h2, hc⟩))⟩, by simp only [intOf]; decide⟩
          · go_wp2_with fail
            (try rw [Exit.noGoto_ret])
            go_ret
            exact ⟨by simp [hc], (Fr.refl _ _).alloc _⟩
        · go_wp2_with fail
          (try rw [Exit.noGoto_ret])
          go_ret
          exact ⟨by simp [h1, h2, h3], (Fr.refl _ _).alloc _⟩
    · cases b2
      · go_enter Try.func31, Try.ntmps31
        go_wp2_with fail
        go_step3
        go_wp2_with fail
        (with_reducible refine (H0.out _).mono ?_)
        rintro e w1 ⟨rfl, rfl⟩
        go_wp2_with fail
        (with_reducible refine (H1.out _).mono ?_)
        rintro e w1 ⟨rfl, rfl⟩
        go_wp2_with fail
        (with_reducible refine (H2.out _).mono ?_)
        rintro e w1 ⟨rfl, rfl⟩
        go_wp2_with fail
        go_step3
        go_wp2_with fail
        go_loop [3, 5, 36] (fun v3 v5 v36 => v3 = .bool (false) ∧ ((v36 = .int .i64 0) ∨ (v36 = .int .i64 1 ∧ sa.size ≤ 100) ∨ (v36 = .int .i64 2 ∧ sa.size ≤ 100 ∧ sb.size ≤ 100) ∨ (v36 = .int .i64 3 ∧ sa.size ≤ 100 ∧ sb.size ≤ 100 ∧ sc.size ≤ 100))) (fun _ _ v36 => 3 - (intOf v36).toNat)
        case atStart => exact ⟨rfl, .inl rfl⟩
        case round =>
          obtain ⟨rfl, h⟩ := hrel
          rcases h with rfl | ⟨rfl, h1⟩ | ⟨rfl, h1, h2⟩ | ⟨rfl, h1, h2, h3⟩
          · by_cases hc : sa.size ≤ 100
            · go_wp2_with fail
              exact ⟨⟨rfl, .inr (.inl ⟨by go_num, hc⟩)⟩, by simp only [intOf]; decide⟩
            · go_wp2_with fail
              (try rw [Exit.noGoto_ret])
              skip
              go_ret
              exact ⟨by simp [hc], (Fr.refl _ _).alloc _⟩
          · by_cases hc : sb.size ≤ 100
            · go_wp2_with fail
              exact ⟨⟨rfl, .inr (.inr (.inl ⟨by go_num, h1, hc⟩))⟩, by simp only [intOf]; decide⟩
            · go_wp2_with fail
              (try rw [Exit.noGoto_ret])
              go_ret
              exact ⟨by simp [hc], (Fr.refl _ _).alloc _⟩
          · by_cases hc : sc.size ≤ 100
            · go_wp2_with fail
              exact ⟨⟨rfl, .inr (.inr (.inr ⟨by go_num, h1, h2, hc⟩))⟩, by simp only [intOf]; decide⟩
            · go_wp2_with fail
              (try rw [Exit.noGoto_ret])
              go_ret
              exact ⟨by simp [hc], (Fr.refl _ _).alloc _⟩
          · go_wp2_with fail
            (try rw [Exit.noGoto_ret])
            go_ret
            exact ⟨by simp [h1, h2, h3], (Fr.refl _ _).alloc _⟩
      · cases b3
        · go_enter Try.func31, Try.ntmps31
          go_wp2_with fail
          go_step3
          go_wp2_with fail
          (with_reducible refine (H0.out _).mono ?_)
          rintro e w1 ⟨rfl, rfl⟩
          go_wp2_with fail
          (with_reducible refine (H1.out _).mono ?_)
          rintro e w1 ⟨rfl, rfl⟩
          go_wp2_with fail
          (with_reducible refine (H2.out _).mono ?_)
          rintro e w1 ⟨rfl, rfl⟩
          go_wp2_with fail
          (with_reducible refine (H3.out _).mono ?_)
          rintro e w1 ⟨rfl, rfl⟩
          go_wp2_with fail
          go_step3
          go_wp2_with fail
          go_loop [3, 5, 36] (fun v3 v5 v36 => v3 = .bool (false) ∧ ((v36 = .int .i64 0) ∨ (v36 = .int .i64 1 ∧ sa.size ≤ 100) ∨ (v36 = .int .i64 2 ∧ sa.size ≤ 100 ∧ sb.size ≤ 100) ∨ (v36 = .int .i64 3 ∧ sa.size ≤ 100 ∧ sb.size ≤ 100 ∧ sc.size ≤ 100))) (fun _ _ v36 => 3 - (intOf v36).toNat)
          case atStart => exact ⟨rfl, .inl rfl⟩
          case round =>
            obtain ⟨rfl, h⟩ := hrel
            rcases h with rfl | ⟨rfl, h1⟩ | ⟨rfl, h1, h2⟩ | ⟨rfl, h1, h2, h3⟩
            · by_cases hc : sa.size ≤ 100
              · go_wp2_with fail
                exact ⟨⟨rfl, .inr (.inl ⟨by go_num, hc⟩)⟩, by simp only [intOf]; decide⟩
              · go_wp2_with fail
                (try rw [Exit.noGoto_ret])
                skip
                go_ret
                exact ⟨by simp [hc], (Fr.refl _ _).alloc _⟩
            · by_cases hc : sb.size ≤ 100
              · go_wp2_with fail
                exact ⟨⟨rfl, .inr (.inr (.inl ⟨by go_num, h1, hc⟩))⟩, by simp only [intOf]; decide⟩
              · go_wp2_with fail
                (try rw [Exit.noGoto_ret])
                go_ret
                exact ⟨by simp [hc], (Fr.refl _ _).alloc _⟩
            · by_cases hc : sc.size ≤ 100
              · go_wp2_with fail
                exact ⟨⟨rfl, .inr (.inr (.inr ⟨by go_num, h1, h2, hc⟩))⟩, by simp only [intOf]; decide⟩
              · go_wp2_with fail
                (try rw [Exit.noGoto_ret])
                go_ret
                exact ⟨by simp [hc], (Fr.refl _ _).alloc _⟩
            · go_wp2_with fail
              (try rw [Exit.noGoto_ret])
              go_ret
              exact ⟨by simp [h1, h2, h3], (Fr.refl _ _).alloc _⟩
        · cases b4
          · go_enter Try.func31, Try.ntmps31
            go_wp2_with fail
            go_step3
            go_wp2_with fail
            (with_reducible refine (H0.out _).mono ?_)
            rintro e w1 ⟨rfl, rfl⟩
            go_wp2_with fail
            (with_reducible refine (H1.out _).mono ?_)
            rintro e w1 ⟨rfl, rfl⟩
            go_wp2_with fail
            (with_reducible refine (H2.out _).mono ?_)
            rintro e w1 ⟨rfl, rfl⟩
            go_wp2_with fail
            (with_reducible refine (H3.out _).mono ?_)
            rintro e w1 ⟨rfl, rfl⟩
            go_wp2_with fail
            (with_reducible refine (H4.out _).mono ?_)
            rintro e w1 ⟨rfl, rfl⟩
            go_wp2_with fail
            go_step3
            go_wp2_with fail
            go_loop [3, 5, 36] (fun v3 v5 v36 => v3 = .bool (false) ∧ ((v36 = .int .i64 0) ∨ (v36 = .int .i64 1 ∧ sa.size ≤ 100) ∨ (v36 = .int .i64 2 ∧ sa.size ≤ 100 ∧ sb.size ≤ 100) ∨ (v36 = .int .i64 3 ∧ sa.size ≤ 100 ∧ sb.size ≤ 100 ∧ sc.size ≤ 100))) (fun _ _ v36 => 3 - (intOf v36).toNat)
            case atStart => exact ⟨rfl, .inl rfl⟩
            case round =>
              obtain ⟨rfl, h⟩ := hrel
              rcases h with rfl | ⟨rfl, h1⟩ | ⟨rfl, h1, h2⟩ | ⟨rfl, h1, h2, h3⟩
              · by_cases hc : sa.size ≤ 100
                · go_wp2_with fail
                  exact ⟨⟨rfl, .inr (.inl ⟨by go_num, hc⟩)⟩, by simp only [intOf]; decide⟩
                · go_wp2_with fail
                  (try rw [Exit.noGoto_ret])
                  skip
                  go_ret
                  exact ⟨by simp [hc], (Fr.refl _ _).alloc _⟩
              · by_cases hc : sb.size ≤ 100
                · go_wp2_with fail
                  exact ⟨⟨rfl, .inr (.inr (.inl ⟨by go_num, h1, hc⟩))⟩, by simp only [intOf]; decide⟩
                · go_wp2_with fail
                  (try rw [Exit.noGoto_ret])
                  go_ret
                  exact ⟨by simp [hc], (Fr.refl _ _).alloc _⟩
              · by_cases hc : sc.size ≤ 100
                · go_wp2_with fail
                  exact ⟨⟨rfl, .inr (.inr (.inr ⟨by go_num, h1, h2, hc⟩))⟩, by simp only [intOf]; decide⟩
                · go_wp2_with fail
                  (try rw [Exit.noGoto_ret])
                  go_ret
                  exact ⟨by simp [hc], (Fr.refl _ _).alloc _⟩
              · go_wp2_with fail
                (try rw [Exit.noGoto_ret])
                go_ret
                exact ⟨by simp [h1, h2, h3], (Fr.refl _ _).alloc _⟩
          · go_enter Try.func31, Try.ntmps31
            go_wp2_with fail
            go_step3
            go_wp2_with fail
            (with_reducible refine (H0.out _).mono ?_)
            rintro e w1 ⟨rfl, rfl⟩
            go_wp2_with fail
            (with_reducible refine (H1.out _).mono ?_)
            rintro e w1 ⟨rfl, rfl⟩
            go_wp2_with fail
            (with_reducible refine (H2.out _).mono ?_)
            rintro e w1 ⟨rfl, rfl⟩
            go_wp2_with fail
            (with_reducible refine (H3.out _).mono ?_)
            rintro e w1 ⟨rfl, rfl⟩
            go_wp2_with fail
            (with_reducible refine (H4.out _).mono ?_)
            rintro e w1 ⟨rfl, rfl⟩
            go_wp2_with fail
            go_step3
            go_wp2_with fail
            go_loop [3, 5, 36] (fun v3 v5 v36 => v3 = .bool (true) ∧ ((v36 = .int .i64 0) ∨ (v36 = .int .i64 1 ∧ sa.size ≤ 100) ∨ (v36 = .int .i64 2 ∧ sa.size ≤ 100 ∧ sb.size ≤ 100) ∨ (v36 = .int .i64 3 ∧ sa.size ≤ 100 ∧ sb.size ≤ 100 ∧ sc.size ≤ 100))) (fun _ _ v36 => 3 - (intOf v36).toNat)
            case atStart => exact ⟨rfl, .inl rfl⟩
            case round =>
              obtain ⟨rfl, h⟩ := hrel
              rcases h with rfl | ⟨rfl, h1⟩ | ⟨rfl, h1, h2⟩ | ⟨rfl, h1, h2, h3⟩
              · by_cases hc : sa.size ≤ 100
                · go_wp2_with fail
                  exact ⟨⟨rfl, .inr (.inl ⟨by go_num, hc⟩)⟩, by simp only [intOf]; decide⟩
                · go_wp2_with fail
                  (try rw [Exit.noGoto_ret])
                  skip
                  go_ret
                  exact ⟨by simp [hc], (Fr.refl _ _).alloc _⟩
              · by_cases hc : sb.size ≤ 100
                · go_wp2_with fail
                  exact ⟨⟨rfl, .inr (.inr (.inl ⟨by go_num, h1, hc⟩))⟩, by simp only [intOf]; decide⟩
                · go_wp2_with fail
                  (try rw [Exit.noGoto_ret])
                  go_ret
                  exact ⟨by simp [hc], (Fr.refl _ _).alloc _⟩
              · by_cases hc : sc.size ≤ 100
                · go_wp2_with fail
                  exact ⟨⟨rfl, .inr (.inr (.inr ⟨by go_num, h1, h2, hc⟩))⟩, by simp only [intOf]; decide⟩
                · go_wp2_with fail
                  (try rw [Exit.noGoto_ret])
                  go_ret
                  exact ⟨by simp [hc], (Fr.refl _ _).alloc _⟩
              · go_wp2_with fail
                (try rw [Exit.noGoto_ret])
                go_ret
                exact ⟨by simp [h1, h2, h3], (Fr.refl _ _).alloc _⟩

end Go.Proofs.Ytngonnnjehlfbaa
