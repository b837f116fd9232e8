/- Plain words on bytes of numbers, texts and rows: none begins with another's. No program in sight. -/
import Derived.Test.YtembnjpflllpbaaPackPure
namespace Go.Proofs.Ytembnjpflllpbaa

theorem numL_app (k : Nat) : ∀ a b s t, a < 128 ^ k → numL a ++ s = numL b ++ t → a = b ∧ s = t := by
  induction k with
  | zero =>
    intro a b s t ha h
    have ha : a = 0 := by simpa using ha
    subst ha
    rw [numL_small (by decide)] at h
    by_cases h2 : b < 128
    · rw [numL_small h2] at h
      simp only [List.cons_append, List.nil_append] at h
      injection h with h h'
      have := congrArg UInt8.toNat h
      simp only [UInt8.toNat_ofNat'] at this
      exact ⟨by omega, h'⟩
    · rw [numL_big h2] at h
      simp only [List.cons_append, List.nil_append] at h
      injection h with h h'
      have := congrArg UInt8.toNat h
      simp only [UInt8.toNat_ofNat'] at this
      omega
  | succ k ih =>
    intro a b s t ha h
    by_cases h1 : a < 128
    · rw [numL_small h1] at h
      by_cases h2 : b < 128
      · rw [numL_small h2] at h
        simp only [List.cons_append, List.nil_append] at h
        injection h with h h'
        have := congrArg UInt8.toNat h
        simp only [UInt8.toNat_ofNat'] at this
        exact ⟨by omega, h'⟩
      · rw [numL_big h2] at h
        simp only [List.cons_append, List.nil_append] at h
        injection h with h h'
        have := congrArg UInt8.toNat h
        simp only [UInt8.toNat_ofNat'] at this
        omega
    · rw [numL_big h1] at h
      by_cases h2 : b < 128
      · rw [numL_small h2] at h
        simp only [List.cons_append, List.nil_append] at h
        injection h with h h'
        have := congrArg UInt8.toNat h
        simp only [UInt8.toNat_ofNat'] at this
        omega
      · rw [numL_big h2] at h
        simp only [List.cons_append] at h
        injection h with h h'
        have := congrArg UInt8.toNat h
        simp only [UInt8.toNat_ofNat'] at this
        obtain ⟨h3, h4⟩ := ih (a / 128) (b / 128) s t (by
          rw [Nat.pow_succ] at ha
          exact Nat.div_lt_of_lt_mul (by omega)) h'
        exact ⟨by omega, h4⟩

theorem toL_app (a b : ByteArray) : (a ++ b).data.toList = a.data.toList ++ b.data.toList := by simp
theorem eq_of_toL {a b : ByteArray} (h : a.data.toList = b.data.toList) : a = b := ByteArray.ext (Array.toList_inj.1 h)
theorem toL_length (a : ByteArray) : a.data.toList.length = a.size := by rw [Array.length_toList]; rfl
theorem numB_toL (n : Nat) : (numB n).data.toList = numL n := by simp [numB]
theorem numB_app {a b : Nat} {s t : ByteArray} (ha : a < 18446744073709551616) (h : numB a ++ s = numB b ++ t) : a = b ∧ s = t := by
  have h1 := congrArg (fun x : ByteArray => x.data.toList) h
  simp only [toL_app, numB_toL] at h1
  obtain ⟨h2, h3⟩ := numL_app 10 a b _ _ (Nat.lt_of_lt_of_le ha (by decide)) h1
  exact ⟨h2, eq_of_toL h3⟩
theorem app_split {a b s t : ByteArray} (hl : a.size = b.size) (h : a ++ s = b ++ t) : a = b ∧ s = t := by
  have h1 := congrArg (fun x : ByteArray => x.data.toList) h
  simp only [toL_app] at h1
  obtain ⟨h2, h3⟩ := List.append_inj h1 (by rw [toL_length, toL_length, hl])
  exact ⟨eq_of_toL h2, eq_of_toL h3⟩
theorem txtB_app {a b s t : ByteArray} (ha : a.size < 18446744073709551616) (h : txtB a ++ s = txtB b ++ t) : a = b ∧ s = t := by
  unfold txtB at h
  rw [app_assoc, app_assoc] at h
  obtain ⟨h1, h2⟩ := numB_app ha h
  exact app_split h1 h2
theorem txtsB_app : ∀ (x y : List ByteArray) (s t : ByteArray), (∀ a, a ∈ x → a.size < 18446744073709551616) → x.length = y.length → txtsB x ++ s = txtsB y ++ t → x = y ∧ s = t
  | [], [], s, t, _, _, h => by
    simp only [txtsB, nil_app] at h
    exact ⟨rfl, h⟩
  | [], _ :: _, _, _, _, h, _ => by simp at h
  | _ :: _, [], _, _, _, h, _ => by simp at h
  | a :: x, b :: y, s, t, ha, hl, h => by
    simp only [txtsB, app_assoc] at h
    obtain ⟨h1, h2⟩ := txtB_app (ha a (by simp)) h
    obtain ⟨h3, h4⟩ := txtsB_app x y s t (fun c hc => ha c (by simp [hc])) (by simpa using hl) h2
    exact ⟨by rw [h1, h3], h4⟩
/-- A row's bytes, with whatever stands behind, tell the row. -/
theorem rowB_app {x y : List ByteArray} {s t : ByteArray} (hx : ∀ a, a ∈ x → a.size < 18446744073709551616) (hl : x.length < 18446744073709551616) (h : rowB x ++ s = rowB y ++ t) : x = y ∧ s = t := by
  unfold rowB at h
  rw [app_assoc, app_assoc] at h
  obtain ⟨h1, h2⟩ := numB_app hl h
  exact txtsB_app x y s t hx h1 h2
theorem rowB_inj {x y : List ByteArray} (hx : ∀ a, a ∈ x → a.size < 18446744073709551616) (hl : x.length < 18446744073709551616) (h : rowB x = rowB y) : x = y :=
  (rowB_app (s := ⟨#[]⟩) (t := ⟨#[]⟩) hx hl (by rw [app_nil, app_nil, h])).1
theorem extract_app (s : ByteArray) (n : Nat) : s.extract 0 n ++ s.extract n s.size = s := by
  apply ByteArray.ext
  apply Array.ext'
  simp only [ByteArray.data_append, ByteArray.data_extract, Array.toList_append, Array.toList_extract]
  simp only [List.extract_eq_take_drop, Nat.sub_zero, List.drop_zero]
  rw [List.take_of_length_le (l := s.data.toList.drop n) (by rw [List.length_drop, toL_length]; exact Nat.le_refl _)]
  exact List.take_append_drop n s.data.toList
/-- A row's bytes begin with another's just if they are the same. -/
theorem rowB_begins {x y : List ByteArray} (hx : ∀ a, a ∈ x → a.size < 18446744073709551616) (hl : x.length < 18446744073709551616) (h : (rowB y).extract 0 (rowB x).size = rowB x) : x = y := by
  have h1 := extract_app (rowB y) (rowB x).size
  rw [h] at h1
  exact (rowB_app (t := ⟨#[]⟩) hx hl (by rw [h1, app_nil])).1

end Go.Proofs.Ytembnjpflllpbaa
