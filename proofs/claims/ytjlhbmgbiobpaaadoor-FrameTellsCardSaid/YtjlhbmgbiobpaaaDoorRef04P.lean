/- The document's reading of records (by the record that it must be) is the program's, plain Lean. -/
import Derived.Test.YtjlhbmgbiobpaaaDoorFramePure2
import Derived.Test.YtjlhbmgbiobpaaaDoorFrameEmpty
namespace Go.Proofs.YtjlhbmgbiobpaaaDoor
set_option linter.unusedVariables false

theorem next_ref {s : ByteArray} (h1 : 1 ≤ lenB s) (h2 : lenB s ≤ 32768) (h3 : lenB s + 8 ≤ s.size) :
    nextB s = if wrapB (s.extract 7 (7 + lenB s)) = s.extract 0 (lenB s + 8) then some (s.extract 7 (7 + lenB s), lenB s + 8) else none := by
  obtain ⟨n, hn⟩ : ∃ n, n = lenB s := ⟨_, rfl⟩
  rw [← hn] at h1 h2 h3 ⊢
  have hl : s.data.toList.length = s.size := by rw [Array.length_toList]; rfl
  obtain ⟨a, b, c, M, hL⟩ : ∃ a b c M, s.data.toList = a :: b :: c :: M := by
    match h : s.data.toList with
    | a :: b :: c :: M => exact ⟨a, b, c, M, rfl⟩
    | [] => rw [h] at hl; simp at hl; omega
    | [_] => rw [h] at hl; simp at hl; omega
    | [_, _] => rw [h] at hl; simp at hl; omega
  have hM : M.length + 3 = s.size := by rw [hL] at hl; simp at hl; omega
  have ht : (s.extract 7 (7 + n)).size = n := by rw [ByteArray.size_extract]; omega
  have htl : (s.extract 7 (7 + n)).data.toList = (M.drop 4).take n := by
    simp only [ByteArray.data_extract, Array.toList_extract, List.extract_eq_take_drop]
    rw [hL]
    simp only [List.drop_succ_cons, show 7 + n - 7 = n from by omega]
  have h37 : (s.extract 3 7).data.toList = M.take 4 := by
    simp only [ByteArray.data_extract, Array.toList_extract, List.extract_eq_take_drop]
    rw [hL]
    rfl
  have hD : n < (M.drop 4).length := by rw [List.length_drop]; omega
  have h08 : (s.extract 0 (n + 8)).data.toList = a :: b :: c :: (M.take 4 ++ ((M.drop 4).take n ++ [(M.drop 4)[n]])) := by
    simp only [ByteArray.data_extract, Array.toList_extract, List.extract_eq_take_drop, List.drop_zero, Nat.sub_zero]
    rw [hL, show n + 8 = (4 + (n + 1)) + 1 + 1 + 1 from by omega]
    simp only [List.take_succ_cons]
    rw [List.take_add, List.take_succ_eq_append_getElem hD]
  have a0 : bAt s 0 = a.toNat := by unfold bAt; rw [hL]; rfl
  have a1 : bAt s 1 = b.toNat := by unfold bAt; rw [hL]; rfl
  have a2 : bAt s 2 = c.toNat := by unfold bAt; rw [hL]; rfl
  have a9 : bAt s (n + 7) = ((M.drop 4)[n]).toNat := by
    unfold bAt
    rw [hL, List.getD_eq_getElem?_getD]
    simp only [List.getElem?_cons_succ]
    rw [List.getElem_drop, List.getElem?_eq_getElem (by omega)]
    simp only [Option.getD_some]
    congr 2
    omega
  have hlen : b.toNat + 256 * c.toNat = n := by rw [hn]; unfold lenB; rw [a1, a2]
  have hb := b.toNat_lt
  have hc := c.toNat_lt
  have eb : UInt8.ofNat n = b := UInt8.toNat_inj.1 (by rw [UInt8.toNat_ofNat']; omega)
  have ec : UInt8.ofNat (n / 256) = c := UInt8.toNat_inj.1 (by rw [UInt8.toNat_ofNat']; omega)
  have hW := wrap_list (x := s.extract 7 (7 + n)) (by omega) (by omega) ⟨#[]⟩
  rw [bapp_nil, ht, eb, ec, htl] at hW
  generalize hx : crcSum (s.extract 7 (7 + n)) = x at hW
  have hM4 : ∃ m0 m1 m2 m3, M.take 4 = [m0, m1, m2, m3] := by
    have : (M.take 4).length = 4 := by rw [List.length_take]; omega
    match h : M.take 4 with
    | [m0, m1, m2, m3] => exact ⟨m0, m1, m2, m3, rfl⟩
    | [] => rw [h] at this; simp at this
    | [_] => rw [h] at this; simp at this
    | [_, _] => rw [h] at this; simp at this
    | [_, _, _] => rw [h] at this; simp at this
    | _ :: _ :: _ :: _ :: _ :: _ => rw [h] at this; simp at this
  obtain ⟨m0, m1, m2, m3, hM4⟩ := hM4
  rw [hM4] at h08 h37
  have key : wrapB (s.extract 7 (7 + n)) = s.extract 0 (n + 8) ↔ (a = 165 ∧ (M.drop 4)[n] = 90 ∧ s.extract 3 7 = bytes4 x) := by
    constructor
    · intro h
      have h' : (wrapB (s.extract 7 (7 + n))).data.toList = (s.extract 0 (n + 8)).data.toList := by rw [h]
      rw [hW, h08] at h'
      simp only [List.cons_append, List.nil_append, List.cons.injEq, true_and] at h'
      obtain ⟨e0, e1, e2, e3, e4, e5⟩ := h'
      have e6 := List.append_cancel_left e5
      simp only [List.cons.injEq] at e6
      refine ⟨e0.symm, e6.1.symm, ?_⟩
      apply ByteArray.ext
      apply Array.toList_inj.1
      rw [h37, ← e1, ← e2, ← e3, ← e4]
      rfl
    · rintro ⟨e0, e9, e4⟩
      apply ByteArray.ext
      apply Array.toList_inj.1
      rw [hW, h08, e0, e9]
      have h' : (s.extract 3 7).data.toList = (bytes4 x).data.toList := by rw [e4]
      rw [h37] at h'
      have h2 : [m0, m1, m2, m3] = [UInt8.ofNat x, UInt8.ofNat (x / 256), UInt8.ofNat (x / 65536), UInt8.ofNat (x / 16777216)] := h'
      simp only [List.cons.injEq, and_true] at h2
      obtain ⟨q0, q1, q2, q3⟩ := h2
      rw [q0, q1, q2, q3]
      rfl
  have h7 : 7 ≤ s.size := by omega
  by_cases h : wrapB (s.extract 7 (7 + n)) = s.extract 0 (n + 8)
  · obtain ⟨e0, e9, e4⟩ := key.1 h
    rw [if_pos h, nextB_some ⟨h7, by rw [a0, e0]; rfl, by omega, by omega, by omega, by rw [← hn, a9, e9]; rfl, by rw [← hn, hx]; exact e4⟩, ← hn]
  · rw [if_neg h]
    refine nextB_none ?_
    rintro ⟨_, o0, _, _, _, o9, o4⟩
    rw [← hn] at o9 o4
    refine h (key.2 ⟨UInt8.toNat_inj.1 (by rw [← a0, o0]; rfl), UInt8.toNat_inj.1 (by rw [← a9, o9]; rfl), by rw [← hx]; exact o4⟩)
theorem next_short {s : ByteArray} (h : s.size < 3) : nextB s = none := nextB_none (fun ho => by have := ho.1; omega)
theorem next_bad {s : ByteArray} (h : lenB s < 1 ∨ 32768 < lenB s ∨ s.size < lenB s + 8) : nextB s = none := nextB_none (fun ho => by obtain ⟨_, _, h1, h2, h3, _⟩ := ho; omega)

theorem zeroB_all {t : ByteArray} (h : ∀ j, j < t.size → bAt t j = 0) : zeroB t = true := by
  unfold zeroB
  rw [List.all_eq_true]
  intro x hx
  obtain ⟨i, hi, rfl⟩ := List.getElem_of_mem hx
  have := h i (by rw [Array.length_toList] at hi; exact hi)
  rw [bAt_eq (by rw [Array.length_toList] at hi; exact hi)] at this
  have e : t.data.toList[i] = 0 := UInt8.toNat_inj.1 (by show _ = 0; exact this)
  rw [e]
  rfl
theorem bAt_drop {s : ByteArray} {k j : Nat} (h : k + j < s.size) : bAt (s.extract k s.size) j = bAt s (k + j) := by
  unfold bAt
  have hl : s.data.toList.length = s.size := by rw [Array.length_toList]; rfl
  simp only [ByteArray.data_extract, Array.toList_extract, List.extract_eq_take_drop]
  rw [List.take_of_length_le (by rw [List.length_drop]; omega), List.getD_eq_getElem?_getD, List.getD_eq_getElem?_getD, List.getElem?_drop]
theorem bAt_zero {s : ByteArray} {i : Nat} (h : i < s.size) : bAt s i = 0 ↔ s[i] = 0 := by
  rw [bAt_eq h]
  constructor
  · intro e
    exact UInt8.toNat_inj.1 (by rw [e]; rfl)
  · intro e
    rw [e]; rfl
theorem empty_false {s : ByteArray} {at' : Int} {i : Nat} (hi : i < s.size) (ha : at' ≤ i) (h : s[i] ≠ 0) : zeroB (s.extract (clampN at' s.size) s.size) = false := by
  have hk : clampN at' s.size ≤ i := by unfold clampN; omega
  have hsz : (s.extract (clampN at' s.size) s.size).size = s.size - clampN at' s.size := by rw [ByteArray.size_extract]; omega
  have hj : i - clampN at' s.size < (s.extract (clampN at' s.size) s.size).size := by omega
  refine zeroB_not hj ?_
  intro e
  have := (bAt_zero hj).2 e
  rw [bAt_drop (by omega), show clampN at' s.size + (i - clampN at' s.size) = i from by omega] at this
  exact h ((bAt_zero hi).1 this)

end Go.Proofs.YtjlhbmgbiobpaaaDoor
