/- What was written is read back: numbers, texts, rows. -/
import Derived.Test.YtembnjpflllpbaaPackPure3
namespace Go.Proofs.Ytembnjpflllpbaa
set_option linter.unusedVariables false
set_option linter.unusedSimpArgs false

theorem rest_app (a b : ByteArray) : rest (a ++ b) a.size = b := by
  unfold rest
  apply ByteArray.ext
  apply Array.ext'
  simp only [ByteArray.data_extract, ByteArray.data_append, Array.toList_extract, Array.toList_append, ByteArray.size_append, List.extract_eq_take_drop]
  have h1 : a.size = a.data.toList.length := by rw [Array.length_toList]; rfl
  have h2 : b.size = b.data.toList.length := by rw [Array.length_toList]; rfl
  rw [h1, h2, List.drop_append_of_le_length (Nat.le_refl _), List.drop_length, List.nil_append]
  exact List.take_of_length_le (by omega)
theorem numL_len (m : Nat) : (numB m).size = (numL m).length := by
  simp [numB, ByteArray.size]
theorem pNum_wrote (m most : Nat) (t : ByteArray) (hm : m < 18446744073709551616) (hle : m ≤ most) : pNum (some (numB m ++ t)) most = (m, some t) := by
  have h := numAt_wrote 10 m 0 0 t.data.toList (Nat.lt_of_lt_of_le hm (by decide)) (by omega) (by omega) (by decide)
  have e : (numB m ++ t).data.toList = numL m ++ t.data.toList := by simp [numB]
  unfold pNum
  simp only
  rw [e, h]
  simp only [Nat.zero_add, Nat.pow_zero, Nat.mul_one]
  rw [if_pos hle, ← numL_len, rest_app]
theorem extract_fst (x t : ByteArray) : (x ++ t).extract 0 x.size = x := by
  apply ByteArray.ext
  apply Array.ext'
  simp only [ByteArray.data_extract, ByteArray.data_append, Array.toList_extract, Array.toList_append, List.extract_eq_take_drop]
  have h1 : x.size = x.data.toList.length := by rw [Array.length_toList]; rfl
  rw [h1, List.drop_zero, Nat.sub_zero, List.take_append_of_le_length (Nat.le_refl _), List.take_length]
theorem pText_wrote (x t : ByteArray) (most : Int) (h0 : 0 ≤ most) (hx : x.size < 18446744073709551616) (hle : (x.size : Int) ≤ most) : pText (some (txtB x ++ t)) most = (x, some t) := by
  have h1 : txtB x ++ t = numB x.size ++ (x ++ t) := by rw [txtB, app_assoc]
  unfold pText
  rw [if_neg (by omega), h1, pNum_wrote _ _ _ hx (by omega)]
  simp only
  rw [if_neg (by rw [ByteArray.size_append]; omega), extract_fst, rest_app]
theorem pTexts_wrote (most : Int) (h0 : 0 ≤ most) : ∀ (l acc : List ByteArray) (t : ByteArray), (∀ x, x ∈ l → x.size < 18446744073709551616 ∧ (x.size : Int) ≤ most) → pTexts most l.length acc (some (txtsB l ++ t)) = (acc ++ l, some t)
  | [], acc, t, _ => by simp [pTexts, txtsB, nil_app]
  | x :: l, acc, t, h => by
    obtain ⟨h1, h2⟩ := h x (by simp)
    have e : txtsB (x :: l) ++ t = txtB x ++ (txtsB l ++ t) := by rw [txtsB, app_assoc]
    rw [List.length_cons, pTexts, e, pText_wrote x _ most h0 h1 h2]
    simp only
    rw [pTexts_wrote most h0 l (acc ++ [x]) t (fun y hy => h y (by simp [hy]))]
    simp
theorem pRow_wrote (l : List ByteArray) (t : ByteArray) (many most : Int) (h0 : 0 ≤ most) (hm : (l.length : Int) ≤ many) (hl : l.length < 18446744073709551616) (h : ∀ x, x ∈ l → x.size < 18446744073709551616 ∧ (x.size : Int) ≤ most) : pRow (some (rowB l ++ t)) many most = (l, some t) := by
  have e : rowB l ++ t = numB l.length ++ (txtsB l ++ t) := by rw [rowB, app_assoc]
  unfold pRow
  rw [if_neg (by omega), e, pNum_wrote _ _ _ hl (by omega)]
  simp only
  rw [pTexts_wrote most h0 l [] t h]
  simp
end Go.Proofs.Ytembnjpflllpbaa
