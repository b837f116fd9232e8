/- Contracts of token.Code and token.IsCode; what a code is. -/
import Derived.Test.YtbfpfmnkmpcgpaaDoorFmt
import Derived.Shelf.Strings.SlTrimAscii
namespace Go.Proofs.YtbfpfmnkmpcgpaaDoor
open Go.RowKit
set_option linter.unusedVariables false
set_option linter.unusedSimpArgs false

/-- A code's digits. -/
def codeL (r : Nat) : List UInt8 := [UInt8.ofNat (48 + r / 100000 % 10), UInt8.ofNat (48 + r / 10000 % 10), UInt8.ofNat (48 + r / 1000 % 10), UInt8.ofNat (48 + r / 100 % 10), UInt8.ofNat (48 + r / 10 % 10), UInt8.ofNat (48 + r % 10)]
def codeB (r : Nat) : ByteArray := ⟨(codeL r).toArray⟩
theorem codeB_size (r : Nat) : (codeB r).size = 6 := rfl
theorem nDigits_le6 {r : Nat} (h : r < 1000000) : Lib.nDigits r ≤ 6 := by
  by_cases h1 : r < 10
  · rw [Lib.nDigits_small h1]; omega
  · rw [Lib.nDigits_big h1]
    by_cases h2 : r / 10 < 10
    · rw [Lib.nDigits_small h2]; omega
    · rw [Lib.nDigits_big h2]
      by_cases h3 : r / 10 / 10 < 10
      · rw [Lib.nDigits_small h3]; omega
      · rw [Lib.nDigits_big h3]
        by_cases h4 : r / 10 / 10 / 10 < 10
        · rw [Lib.nDigits_small h4]; omega
        · rw [Lib.nDigits_big h4]
          by_cases h5 : r / 10 / 10 / 10 / 10 < 10
          · rw [Lib.nDigits_small h5]; omega
          · rw [Lib.nDigits_big h5, Lib.nDigits_small (by omega)]; omega
theorem code_parts {r : Nat} (h : r < 1000000) : Lib.repeatL [48] (6 - Lib.nDigits r) ++ Lib.decDigits r = codeL r := by
  have h6 := nDigits_le6 h
  have h1 := Lib.nDigits_pos r
  have hp := Lib.lt_pow_nDigits r
  rw [Lib.decDigits_eq]
  obtain ⟨n, hn⟩ : ∃ n, Lib.nDigits r = n := ⟨_, rfl⟩
  rw [hn] at h6 h1 hp ⊢
  have hz : ∀ k, r / k = 0 → UInt8.ofNat (48 + r / k % 10) = 48 := fun k hk => by rw [hk]; rfl
  have e : n = 1 ∨ n = 2 ∨ n = 3 ∨ n = 4 ∨ n = 5 ∨ n = 6 := by omega
  unfold codeL
  rcases e with rfl | rfl | rfl | rfl | rfl | rfl
  · rw [hz 100000 (by omega), hz 10000 (by omega), hz 1000 (by omega), hz 100 (by omega), hz 10 (by omega)]
    simp [Lib.repeatL, List.range, List.range.loop, Lib.dg]
  · rw [hz 100000 (by omega), hz 10000 (by omega), hz 1000 (by omega), hz 100 (by omega)]
    simp [Lib.repeatL, List.range, List.range.loop, Lib.dg]
  · rw [hz 100000 (by omega), hz 10000 (by omega), hz 1000 (by omega)]
    simp [Lib.repeatL, List.range, List.range.loop, Lib.dg]
  · rw [hz 100000 (by omega), hz 10000 (by omega)]
    simp [Lib.repeatL, List.range, List.range.loop, Lib.dg]
  · rw [hz 100000 (by omega)]
    simp [Lib.repeatL, List.range, List.range.loop, Lib.dg]
  · simp [Lib.repeatL, List.range, List.range.loop, Lib.dg]
theorem ofNat_inj48 {a b : Nat} (ha : a < 10) (hb : b < 10) (h : UInt8.ofNat (48 + a) = UInt8.ofNat (48 + b)) : a = b := by
  have := congrArg UInt8.toNat h
  rw [UInt8.toNat_ofNat', UInt8.toNat_ofNat'] at this
  omega
theorem codeB_inj {a b : Nat} (ha : a < 1000000) (hb : b < 1000000) (h : codeB a = codeB b) : a = b := by
  have h1 : codeL a = codeL b := by
    have := congrArg (fun x : ByteArray => x.data.toList) h
    simpa [codeB] using this
  unfold codeL at h1
  simp only [List.cons.injEq, and_true] at h1
  obtain ⟨h5, h4, h3, h2, h1, h0⟩ := h1
  have e5 := ofNat_inj48 (by omega) (by omega) h5
  have e4 := ofNat_inj48 (by omega) (by omega) h4
  have e3 := ofNat_inj48 (by omega) (by omega) h3
  have e2 := ofNat_inj48 (by omega) (by omega) h2
  have e1 := ofNat_inj48 (by omega) (by omega) h1
  have e0 := ofNat_inj48 (by omega) (by omega) h0
  omega

/-- The decimal digits. -/
abbrev tens : List UInt8 := [48, 49, 50, 51, 52, 53, 54, 55, 56, 57]
def isCodeB (s : ByteArray) : Bool := s.size == 6 && s.data.toList.all (tens.contains ·)
theorem dropWhile_nil {p : UInt8 → Bool} : ∀ {l : List UInt8}, (l.dropWhile p = []) ↔ l.all p = true
  | [] => by simp
  | a :: l => by
    by_cases h : p a = true
    · simp only [List.dropWhile, h, List.all_cons, Bool.true_and]
      exact dropWhile_nil
    · have h' : p a = false := by simpa using h
      simp [List.dropWhile, h']
theorem trim_nil (l cs : List UInt8) : Lib.trimS l cs = [] ↔ l.all (cs.contains ·) = true := by
  unfold Lib.trimS Lib.trimLeftS Lib.trimRightS
  rw [dropWhile_nil]
  constructor
  · intro h
    have h2 : (l.reverse.dropWhile (cs.contains ·)).all (cs.contains ·) = true := by
      rw [List.all_reverse] at h
      exact h
    by_cases hn : l.reverse.dropWhile (cs.contains ·) = []
    · have := dropWhile_nil.1 hn
      rwa [List.all_reverse] at this
    · have hh := List.head_dropWhile_not (cs.contains ·) hn
      have hm := List.all_eq_true.1 h2 _ (List.head_mem hn)
      rw [hm] at hh
      cases hh
  · intro h
    have : l.reverse.dropWhile (cs.contains ·) = [] := dropWhile_nil.2 (by rw [List.all_reverse]; exact h)
    rw [this]
    rfl
theorem codeB_ok (r : Nat) : isCodeB (codeB r) = true := by
  have hk : ∀ d, d < 10 → tens.contains (UInt8.ofNat (48 + d)) = true := by decide
  show (6 == 6 && (codeL r).all (tens.contains ·)) = true
  unfold codeL
  simp only [List.all_cons, List.all_nil, hk _ (Nat.mod_lt _ (show 0 < 10 by omega))]
  rfl

theorem Trim_calls (w : World) (s : ByteArray) (hs : s.size ≤ 9223372036854775807) :
    Calls Tryd.prog 15 #[.string s, .string ⟨#[48, 49, 50, 51, 52, 53, 54, 55, 56, 57]⟩] w fun e w' => e = .returned (.string ⟨(Lib.trimS s.data.toList tens).toArray⟩) ∧ Fr [] w w' :=
  (Any.strings_Trim_laid Tryd.lays160 (by kernel_rfl) s ⟨#[48, 49, 50, 51, 52, 53, 54, 55, 56, 57]⟩ w hs (by decide) (ascii_of_all (by decide))).mono fun e w' h => ⟨h.1, Fr.of_below h.2⟩
theorem Repeat_calls (w : World) (c : Nat) (hc : c ≤ 6) :
    Calls Tryd.prog 14 #[.string ⟨#[48]⟩, .int .i64 c] w fun e w' => e = .returned (.string ⟨(Lib.repeatL [48] c).toArray⟩) ∧ Fr [] w w' :=
  (Tryd.strings_Repeat ⟨#[48]⟩ c w (by omega) (by show 1 * c ≤ _; omega)).mono fun e w' h => ⟨h.1, Fr.of_below h.2⟩

set_option maxRecDepth 100000 in
theorem Code_calls (w : World) (a : Nat) (ha : a < 18446744073709551616) (htab : Pow10 w) :
    Calls Tryd.prog 6 #[.int .u64 a] w fun e w' => e = .returned (.string (codeB (a % 1000000))) ∧ Fr [] w w' := by
  obtain ⟨r, hr, hri⟩ : ∃ r : Nat, a % 1000000 = r ∧ (a : Int).tmod 1000000 = (r : Int) := ⟨_, rfl, by rw [Int.tmod_eq_emod_of_nonneg (by omega)]; simp⟩
  have hri2 : (a : Int) % 1000000 = (r : Int) := by rw [← hri, Int.tmod_eq_emod_of_nonneg (by omega)]
  have hr6 : r < 1000000 := by omega
  have hF := Lib.hid (FormatUint_calls w r (by omega) htab)
  have hcat : (⟨(Lib.repeatL [48] (6 - Lib.nDigits r)).toArray⟩ : ByteArray) ++ (⟨(Lib.decDigits r).toArray⟩ : ByteArray) = codeB r := by
    rw [codeB, ← code_parts hr6]
    apply ByteArray.ext
    simp
  have hd := nDigits_le6 hr6
  have h1 := Lib.nDigits_pos r
  have hsz : (⟨(Lib.decDigits r).toArray⟩ : ByteArray).size = Lib.nDigits r := by
    show (Lib.decDigits r).toArray.size = _
    rw [List.size_toArray, Lib.decDigits_length]
  have hsz2 : (⟨(Lib.repeatL [48] (6 - Lib.nDigits r)).toArray⟩ : ByteArray).size = 6 - Lib.nDigits r := by
    show (Lib.repeatL [48] (6 - Lib.nDigits r)).toArray.size = _
    rw [List.size_toArray, Lib.repeatL_length]
    simp
  have hR := Lib.hid (fun W => Repeat_calls W (6 - Lib.nDigits r) (by omega))
  rw [hr]
  generalize (⟨(Lib.decDigits r).toArray⟩ : ByteArray) = d at hF hsz hcat
  generalize (⟨(Lib.repeatL [48] (6 - Lib.nDigits r)).toArray⟩ : ByteArray) = z at hR hcat hsz2
  generalize codeB r = c at hcat ⊢
  generalize Lib.nDigits r = n at hsz hR hd h1 hsz2
  have hsub : (6 : Int) - (n : Int) = ((6 - n : Nat) : Int) := by omega
  have hsum : (9223372036854775807 < z.size + d.size) = False := eq_false (by omega)
  clear htab hr ha hr6
  have HCAT := Lib.hid hcat
  clear hcat
  go_enter Tryd.func6, Tryd.ntmps6
  go_wp2_with fail
  (with_reducible refine hF.out.mono ?_)
  rintro e w1 ⟨rfl, hf1⟩
  have HF := Lib.hid hf1
  clear hf1 hri hri2
  go_wp2_with fail
  (with_reducible refine (hR.out _).mono ?_)
  rintro e w2 ⟨rfl, hf2⟩
  have HF2 := Lib.hid (HF.out.then hf2)
  clear hf2 HF
  go_wp2_with fail
  go_ret
  exact ⟨by rw [← HCAT.out]; rfl, HF2.out⟩
set_option maxRecDepth 100000 in
theorem IsCode_calls (w : World) (s : ByteArray) (hs : s.size ≤ 9223372036854775807) :
    Calls Tryd.prog 7 #[.string s] w fun e w' => e = .returned (.bool (isCodeB s)) ∧ Fr [] w w' := by
  have hT := Lib.hid (fun W => Trim_calls W s hs)
  unfold isCodeB
  by_cases h6 : s.size = 6
  · obtain ⟨B, hB, hB2⟩ : ∃ B, s.data.toList.all (tens.contains ·) = B ∧ (⟨(Lib.trimS s.data.toList tens).toArray⟩ : ByteArray).toList.isEmpty = B := by
      refine ⟨_, rfl, ?_⟩
      have ht := trim_nil s.data.toList tens
      cases hall : s.data.toList.all (tens.contains ·) with
      | true => rw [ht.2 hall, Lib.toList_data]; rfl
      | false =>
        cases he : (⟨(Lib.trimS s.data.toList tens).toArray⟩ : ByteArray).toList.isEmpty with
        | false => rfl
        | true =>
          have e1 := List.isEmpty_iff.1 he
          have e2 := toList_inj (s := (⟨(Lib.trimS s.data.toList tens).toArray⟩ : ByteArray)) (t := ⟨#[]⟩) (by rw [e1, Lib.toList_data])
          have e3 : Lib.trimS s.data.toList tens = [] := by
            have := congrArg (fun x : ByteArray => x.data.toList) e2
            simpa using this
          rw [ht.1 e3] at hall
          cases hall
    have hs6 : ((s.size : Int) == 6) = true := beq_iff_eq.2 (by omega)
    have hs7 : (s.size == 6) = true := beq_iff_eq.2 h6
    rw [hB, hs7, Bool.true_and]
    generalize (⟨(Lib.trimS s.data.toList tens).toArray⟩ : ByteArray) = t at hT hB2
    clear h6 hs7 hB hs
    go_enter Tryd.func7, Tryd.ntmps7
    go_wp2_with fail
    (with_reducible refine (hT.out _).mono ?_)
    rintro e w1 ⟨rfl, hf1⟩
    have HF := Lib.hid hf1
    clear hf1
    go_wp2_with fail
    go_ret
    exact ⟨rfl, HF.out⟩
  · have hs6 : ((s.size : Int) == 6) = false := beq_eq_false_iff_ne.2 (by omega)
    have hs7 : (s.size == 6) = false := beq_eq_false_iff_ne.2 h6
    rw [hs7, Bool.false_and]
    clear h6 hs7 hs
    go_enter Tryd.func7, Tryd.ntmps7
    go_wp2_with fail
    go_ret
    exact ⟨rfl, Fr.refl _ _⟩
end Go.Proofs.YtbfpfmnkmpcgpaaDoor
