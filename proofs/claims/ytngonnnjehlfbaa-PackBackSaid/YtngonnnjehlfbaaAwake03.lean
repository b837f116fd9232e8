/- The example of the chapter 'pack', and the law PackOrder: its walk. -/
import Derived.Test.YtngonnnjehlfbaaPackW2
namespace Go.Proofs.Ytngonnnjehlfbaa
open Go.RowKit
set_option linter.unusedVariables false
set_option linter.unusedSimpArgs false

theorem awake_bytes : (⟨#[]⟩ : ByteArray) ++ numsB [300] ++ txtsB [⟨#[97, 98]⟩] = ⟨#[172, 2, 2, 97, 98]⟩ := by
  have h1 : numB 300 = ⟨#[172, 2]⟩ := by rw [numB_big (by decide), numB_small (by decide)]; rfl
  have h2 : numB 2 = ⟨#[2]⟩ := by rw [numB_small (by decide)]; rfl
  have h3 : (⟨#[97, 98]⟩ : ByteArray).size = 2 := rfl
  simp only [numsB, txtsB, txtB, h3]
  rw [show (300 : Int).toNat = 300 from rfl, h1, h2]
  rfl

set_option maxHeartbeats 2000000 in
set_option maxRecDepth 100000 in
theorem awake03_calls (w : World) :
    Calls Try.prog 15 #[] w fun e w' => e = .returned (.bool true) ∧ Fr [] w w' := by
  go_enter Try.func15, Try.ntmps15
  go_wp2_with fail
  have hb0 := BldN.make 32 5 (Fr.refl [] w) rfl
  refine (Writer_NumV_calls _ bty_writer w.heap.size [] _ _ [300] (by simp) rfl rfl (by simp) hb0.bld (by decide)).mono ?_
  rintro e w1 ⟨rfl, r1, h1, hf1, hn1⟩
  have hb1 := hb0.step h1 hf1 hn1
  clear hb0 h1 hf1 hn1
  go_wp2_with fail
  refine (Writer_TextV_calls _ bty_writer w.heap.size r1 _ _ [⟨#[97, 98]⟩] rfl rfl rfl hb1.bld ?_).mono ?_
  · have := numsB_size [300] (by simp)
    have e1 : (⟨#[]⟩ : ByteArray).size = 0 := rfl
    have e2 : (⟨#[97, 98]⟩ : ByteArray).size = 2 := rfl
    simp only [ByteArray.size_append, sizes, e1, e2, List.length_cons, List.length_nil] at this ⊢
    omega
  rintro e w2 ⟨rfl, r2, h2, hf2, hn2⟩
  have hb2 := hb1.step h2 hf2 hn2
  rw [awake_bytes] at hb2
  clear hb1 h2 hf2 hn2
  go_wp2_with fail
  refine (Writer_String_calls _ bty_writer w.heap.size r2 _ _ hb2.bld).mono ?_
  rintro e w3 ⟨rfl, h3, hf3⟩
  go_wp2_with fail
  go_ret
  exact ⟨rfl, hb2.fr.trans hf3 (fun k hk => .inr (hb2.new k (by simp [hk])))⟩

/-! ### PackOrder -/
/-- How many bytes behind the first one. -/
def moreL (k : Nat) : Nat := if k = 0 then 0 else (numL k).length
theorem moreL_next {k : Nat} (h : 0 < k) : moreL k = 1 + moreL (k / 128) := by
  unfold moreL
  rw [if_neg (by omega)]
  by_cases h1 : k < 128
  · rw [numL_small h1, if_pos (by omega)]
    rfl
  · rw [numL_big h1, if_neg (by omega)]
    simp only [List.length_cons]
    omega
theorem numL_more (n : Nat) : (numL n).length = 1 + moreL (n / 128) := by
  by_cases h : n = 0
  · subst h
    rw [numL_small (by decide)]
    rfl
  · have := moreL_next (k := n) (by omega)
    unfold moreL at this
    rw [if_neg h] at this
    exact this
theorem numL_mono (k : Nat) : ∀ a b, a ≤ b → b < 128 ^ k → (numL a).length ≤ (numL b).length := by
  induction k with
  | zero =>
    intro a b h hb
    have : a = b := by omega
    rw [this]
    exact Nat.le_refl _
  | succ k ih =>
    intro a b h hb
    by_cases h1 : a < 128
    · rw [numL_small h1]
      by_cases h2 : b < 128
      · rw [numL_small h2]
        simp
      · rw [numL_big h2]
        simp
    · rw [numL_big h1, numL_big (by omega : ¬ b < 128)]
      simp only [List.length_cons]
      have := ih (a / 128) (b / 128) (Nat.div_le_div_right h) (by
        rw [Nat.pow_succ] at hb
        exact Nat.div_lt_of_lt_mul (by omega))
      omega
/-- A number is read off its bytes. -/
theorem numL_inj (k : Nat) : ∀ a b, a < 128 ^ k → numL a = numL b → a = b := by
  induction k with
  | zero =>
    intro a b ha h
    have ha : a = 0 := by simpa using ha
    subst ha
    rw [numL_small (by decide)] at h
    by_cases h2 : b < 128
    · rw [numL_small h2] at h
      injection h with h
      have := congrArg UInt8.toNat h
      simp only [UInt8.toNat_ofNat'] at this
      omega
    · rw [numL_big h2] at h
      have := congrArg List.length h
      have h3 : 0 < (numL (b / 128)).length := by
        by_cases h : b / 128 < 128
        · rw [numL_small h]; simp
        · rw [numL_big h]; simp
      simp only [List.length_cons, List.length_nil] at this
      omega
  | succ k ih =>
    intro a b ha h
    have pos : ∀ n, 0 < (numL n).length := by
      intro n
      by_cases h : n < 128
      · rw [numL_small h]; simp
      · rw [numL_big h]; simp
    by_cases h1 : a < 128
    · rw [numL_small h1] at h
      by_cases h2 : b < 128
      · rw [numL_small h2] at h
        injection h with h
        have := congrArg UInt8.toNat h
        simp only [UInt8.toNat_ofNat'] at this
        omega
      · rw [numL_big h2] at h
        have := congrArg List.length h
        have h3 := pos (b / 128)
        simp only [List.length_cons, List.length_nil] at this
        omega
    · rw [numL_big h1] at h
      by_cases h2 : b < 128
      · rw [numL_small h2] at h
        have := congrArg List.length h
        have h3 := pos (a / 128)
        simp only [List.length_cons, List.length_nil] at this
        omega
      · rw [numL_big h2] at h
        injection h with h h'
        have := congrArg UInt8.toNat h
        simp only [UInt8.toNat_ofNat'] at this
        have h4 := ih (a / 128) (b / 128) (by
          rw [Nat.pow_succ] at ha
          exact Nat.div_lt_of_lt_mul (by omega)) h'
        omega
theorem numB_inj {a b : Nat} (ha : a < 18446744073709551616) (h : numB a = numB b) : a = b :=
  numL_inj 10 a b (Nat.lt_of_lt_of_le ha (by decide)) (by
    have := congrArg (fun x : ByteArray => x.data.toList) h
    simpa [numB] using this)

end Go.Proofs.Ytngonnnjehlfbaa
