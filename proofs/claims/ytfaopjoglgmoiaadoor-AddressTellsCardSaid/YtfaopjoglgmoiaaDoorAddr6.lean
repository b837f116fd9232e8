/- Addresses: the chapter's examples; an address by numbers. -/
import Derived.Test.YtfaopjoglgmoiaaDoorAddr5
import Derived.Test.YtfaopjoglgmoiaaDoorMask
namespace Go.Proofs.YtfaopjoglgmoiaaDoor
open Go.RowKit Go.Lib
set_option linter.unusedVariables false
set_option linter.unusedSimpArgs false

theorem any_ann : anyS [65, 110, 110, 46, 66, 43, 110, 101, 119, 115, 64, 69, 120, 97, 109, 112, 108, 101, 46, 79, 82, 71] = (⟨#[97, 110, 110, 46, 98, 64, 101, 120, 97, 109, 112, 108, 101, 46, 111, 114, 103]⟩, true) := by decide +kernel
theorem any_num : anyS [43, 52, 57, 32, 40, 51, 48, 41, 32, 49, 50, 51, 52, 45, 53, 54, 55] = (⟨#[43, 52, 57, 51, 48, 49, 50, 51, 52, 53, 54, 55]⟩, true) := by decide +kernel
set_option maxHeartbeats 1000000 in
set_option maxRecDepth 100000 in
theorem awake09_calls (w : World) (hM : ML w) : Calls Tryd.prog 8 #[] w fun e w' => e = .returned (.bool true) ∧ Fr [] w w' := by
  have h1 := fun W h => Any_calls W h ⟨#[65, 110, 110, 46, 66, 43, 110, 101, 119, 115, 64, 69, 120, 97, 109, 112, 108, 101, 46, 79, 82, 71]⟩ (by decide)
  have h2 := fun W h => Any_calls W h ⟨#[43, 52, 57, 32, 40, 51, 48, 41, 32, 49, 50, 51, 52, 45, 53, 54, 55]⟩ (by decide)
  simp only [] at h1 h2
  rw [any_ann] at h1
  rw [any_num] at h2
  simp only at h1 h2
  have H1 := Lib.hid h1
  have H2 := Lib.hid h2
  clear h1 h2
  go_enter Tryd.func8, Tryd.ntmps8
  go_wp2_with fail
  (with_reducible refine (H1.out _ hM).mono ?_)
  rintro e w1 ⟨rfl, hf1⟩
  go_wp2_with fail
  (with_reducible refine (H2.out _ (hM.keep hf1)).mono ?_)
  rintro e w2 ⟨rfl, hf2⟩
  have HF := Lib.hid (hf1.then hf2)
  clear hf1 hf2
  go_wp2_with fail
  go_ret
  exact ⟨rfl, HF.out⟩

/-- An address by numbers. -/
def madeS (tab : ByteArray) : List Int → ByteArray → ByteArray
  | [], s => s
  | k :: l, s => madeS tab l (s ++ tab.extract (k % 16).toNat ((k % 16).toNat + 1))
def madeT : Bool → ByteArray
  | true => ⟨#[48, 49, 50, 51, 52, 53, 54, 55, 56, 57, 32, 45, 40, 41, 49, 50]⟩
  | false => ⟨#[97, 98, 46, 99, 45, 100, 95, 101, 49, 64, 120, 46, 121, 122, 48, 57]⟩
def madeH : Bool → ByteArray
  | true => ⟨#[43]⟩
  | false => ⟨#[]⟩
def madeA (l : List Int) (p : Bool) : ByteArray := madeS (madeT p) (l.take 30) (madeH p)
theorem madeS_snoc (tab : ByteArray) : ∀ (l : List Int) (k : Int) (s : ByteArray), madeS tab (l ++ [k]) s = madeS tab l s ++ tab.extract (k % 16).toNat ((k % 16).toNat + 1)
  | [], k, s => rfl
  | x :: l, k, s => by rw [List.cons_append, madeS, madeS, madeS_snoc]
theorem madeS_size (tab : ByteArray) : ∀ (l : List Int) (s : ByteArray), (madeS tab l s).size ≤ s.size + l.length
  | [], s => Nat.le_refl _
  | x :: l, s => by
    have h := madeS_size tab l (s ++ tab.extract (x % 16).toNat ((x % 16).toNat + 1))
    rw [ByteArray.size_append, ByteArray.size_extract] at h
    rw [madeS, List.length_cons]
    omega
theorem madeA_size (l : List Int) (p : Bool) : (madeA l p).size ≤ 31 := by
  have h := madeS_size (madeT p) (l.take 30) (madeH p)
  have h2 : (madeH p).size ≤ 1 := by cases p <;> decide
  rw [List.length_take] at h
  unfold madeA
  omega
set_option maxHeartbeats 2000000 in
set_option maxRecDepth 100000 in
theorem made_calls (w : World) (A : Option Addr) (cap : Nat) (l : List Int) (hr : RdV w A (l.map (.int .i64))) (hb : ∀ x, x ∈ l → Bd .i64 x) (hl : l.length ≤ maxLen) (p : Bool) :
    Calls Tryd.prog 11 #[.slice A l.length cap, .bool p] w fun e w' => e = .returned (.string (madeA l p)) ∧ w' = w := by
  unfold maxLen at hl
  have HR := Lib.hid hr
  obtain ⟨M, hMd⟩ : ∃ M, M = madeA l p := ⟨_, rfl⟩
  rw [← hMd]
  have HMD := Lib.hid hMd
  obtain ⟨p0, hp0⟩ : ∃ p0, p0 = p := ⟨_, rfl⟩
  rw [← hp0] at HMD
  clear hr hb hMd
  cases p
  all_goals
    have HP := Lib.hid hp0
    clear hp0
    go_enter Tryd.func11, Tryd.ntmps11
    go_wp2_with fail
    go_loop [5, 8] (fun v5 v8 => ∃ (i : Nat) (s : ByteArray), v5 = .string s ∧ v8 = .int .i64 i ∧ i ≤ l.length ∧ i ≤ 30 ∧ s.size ≤ 1 + i ∧ Hid (s = madeS (madeT p0) (l.take i) (madeH p0))) (fun _ v8 => 30 - (intOf v8).toNat)
    case atStart => exact ⟨0, _, rfl, rfl, Nat.zero_le _, Nat.zero_le _, by decide, Lib.hid (by rw [HP.out]; rfl)⟩
    case round =>
      obtain ⟨i, s, rfl, rfl, hil, hi30, hss, H⟩ := hrel
      by_cases h1 : i < l.length
      · by_cases h2 : i < 30
        · obtain ⟨ad, rfl, hc⟩ := HR.out i (.int .i64 l[i]) (by simp [h1])
          obtain ⟨k, hk, hk16⟩ : ∃ k : Nat, l[i] % 16 = (k : Int) ∧ k < 16 := ⟨(l[i] % 16).toNat, by omega, by omega⟩
          have hand : bits .and .i64 l[i] 15 = (k : Int) := by rw [i64_and15, hk]
          have hH := H.out
          have hn : ∀ pp, madeS (madeT pp) (l.take (i + 1)) (madeH pp) = madeS (madeT pp) (l.take i) (madeH pp) ++ (madeT pp).extract k (k + 1) := fun pp => by
            rw [List.take_succ_eq_append_getElem h1, madeS_snoc, hk, Int.toNat_natCast]
          have HN := Lib.hid hn
          clear hH hk hn
          generalize l[i] = x at *
          have hk0 : (0 : Int) ≤ (k : Int) := by omega
          have g1 : (9223372036854775807 < s.size + 1) = False := eq_false (by omega)
          go_wp2_with fail
          refine ⟨⟨i + 1, _, rfl, by go_num, by omega, by omega, ?_, Lib.hid ?_⟩, by simp only [intOf]; omega⟩
          · rw [ByteArray.size_append, ByteArray.size_extract]; omega
          · rw [HN.out p0, ← H.out, HP.out]; rfl
        · obtain rfl : i = 30 := by omega
          have hE := H.out
          have hM2 := HMD.out
          unfold madeA at hM2
          rw [← hE] at hM2
          clear hE H HMD
          subst hM2
          go_wp2_with fail
          go_ret
          exact ⟨rfl, rfl⟩
      · have hE := H.out
        have hM2 := HMD.out
        unfold madeA at hM2
        rw [List.take_of_length_le (by omega)] at hE
        rw [List.take_of_length_le (by omega), ← hE] at hM2
        clear hE H HMD
        subst hM2
        go_wp2_with fail
        go_ret
        exact ⟨rfl, rfl⟩
end Go.Proofs.YtfaopjoglgmoiaaDoor
