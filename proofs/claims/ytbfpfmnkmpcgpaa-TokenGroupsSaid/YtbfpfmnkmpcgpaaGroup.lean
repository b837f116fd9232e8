/- Texts in groups: plain Lean; the contract of token.Group. -/
import Derived.Test.YtbfpfmnkmpcgpaaTok2
namespace Go.Proofs.Ytbfpfmnkmpcgpaa
open Go.RowKit
set_option linter.unusedVariables false
set_option linter.unusedSimpArgs false

/-- A text in groups of n + 1 bytes. -/
def groupL (n : Nat) (l : List UInt8) : List UInt8 := if h : n + 1 < l.length then l.take (n + 1) ++ 45 :: groupL n (l.drop (n + 1)) else l
termination_by l.length
decreasing_by simp; omega
theorem groupL_more (n : Nat) (l : List UInt8) (h : n + 1 < l.length) : groupL n l = l.take (n + 1) ++ 45 :: groupL n (l.drop (n + 1)) := by
  rw [groupL, dif_pos h]
theorem groupL_end (n : Nat) (l : List UInt8) (h : ¬ n + 1 < l.length) : groupL n l = l := by
  rw [groupL, dif_neg h]
/-- How many bytes it has, and which. -/
theorem groupL_facts (n : Nat) : ∀ (m : Nat) (l : List UInt8), l.length ≤ m → (groupL n l).length = l.length + (l.length - 1) / (n + 1) ∧
    ∀ i, (hi : i < (groupL n l).length) → (i % (n + 2) = n + 1 → (groupL n l)[i]? = some 45) ∧ (i % (n + 2) ≠ n + 1 → (groupL n l)[i]? = l[i - i / (n + 2)]? ∧ i - i / (n + 2) < l.length)
  | m, l, hm => by
    by_cases h : n + 1 < l.length
    · match m, hm with
      | 0, hm => omega
      | m + 1, hm =>
        obtain ⟨h1, h2⟩ := groupL_facts n m (l.drop (n + 1)) (by rw [List.length_drop]; omega)
        rw [List.length_drop] at h1
        have hlen : (groupL n l).length = l.length + (l.length - 1) / (n + 1) := by
          rw [groupL_more n l h, List.length_append, List.length_cons, h1, List.length_take, Nat.min_eq_left (by omega)]
          have e : (l.length - 1) / (n + 1) = (l.length - (n + 1) - 1) / (n + 1) + 1 := by
            rw [show l.length - 1 = (l.length - (n + 1) - 1) + (n + 1) from by omega, Nat.add_div_right _ (by omega)]
          omega
        refine ⟨hlen, fun i hi => ?_⟩
        have htl : (l.take (n + 1)).length = n + 1 := by rw [List.length_take]; omega
        rw [groupL_more n l h]
        by_cases hi1 : i < n + 1
        · have e1 : i % (n + 2) = i := Nat.mod_eq_of_lt (by omega)
          have e2 : i / (n + 2) = 0 := Nat.div_eq_of_lt (by omega)
          rw [e1, e2]
          refine ⟨fun h => by omega, fun _ => ⟨?_, by omega⟩⟩
          rw [List.getElem?_append_left (by omega), List.getElem?_take, if_pos hi1]
          rfl
        · rw [List.getElem?_append_right (by omega), htl]
          by_cases hi2 : i = n + 1
          · subst hi2
            have e1 : (n + 1) % (n + 2) = n + 1 := Nat.mod_eq_of_lt (by omega)
            rw [e1, Nat.sub_self]
            exact ⟨fun _ => rfl, fun h => absurd rfl h⟩
          · obtain ⟨j, rfl⟩ : ∃ j, i = j + (n + 2) := ⟨i - (n + 2), by omega⟩
            have e1 : (j + (n + 2)) % (n + 2) = j % (n + 2) := Nat.add_mod_right _ _
            have e2 : (j + (n + 2)) / (n + 2) = j / (n + 2) + 1 := Nat.add_div_right _ (by omega)
            rw [e1, e2, show j + (n + 2) - (n + 1) = j + 1 from by omega, List.getElem?_cons_succ]
            have hj : j < (groupL n (l.drop (n + 1))).length := by
              rw [hlen] at hi
              have e : (l.length - 1) / (n + 1) = (l.length - (n + 1) - 1) / (n + 1) + 1 := by
                rw [show l.length - 1 = (l.length - (n + 1) - 1) + (n + 1) from by omega, Nat.add_div_right _ (by omega)]
              omega
            obtain ⟨g1, g2⟩ := h2 j hj
            refine ⟨g1, fun h => ?_⟩
            obtain ⟨g3, g4⟩ := g2 h
            rw [List.length_drop] at g4
            have hd : j / (n + 2) ≤ j := Nat.div_le_self _ _
            refine ⟨?_, by omega⟩
            rw [g3, List.getElem?_drop]
            congr 1
            omega
    · have hlen : (groupL n l).length = l.length := by rw [groupL_end n l h]
      have hd0 : (l.length - 1) / (n + 1) = 0 := Nat.div_eq_of_lt (by omega)
      refine ⟨by omega, fun i hi => ?_⟩
      rw [hlen] at hi
      have e1 : i % (n + 2) = i := Nat.mod_eq_of_lt (by omega)
      have e2 : i / (n + 2) = 0 := Nat.div_eq_of_lt (by omega)
      rw [e1, e2, groupL_end n l h]
      exact ⟨fun h => by omega, fun _ => ⟨rfl, by omega⟩⟩
/-- How many of its first bytes are the text's. -/
theorem group_left (n L : Nat) (h : 1 ≤ L) : (L + (L - 1) / (n + 1)) - (L + (L - 1) / (n + 1)) / (n + 2) = L := by
  obtain ⟨q, hq⟩ : ∃ q, (L - 1) / (n + 1) = q := ⟨_, rfl⟩
  obtain ⟨r, hr⟩ : ∃ r, (L - 1) % (n + 1) = r := ⟨_, rfl⟩
  have h1 := Nat.div_add_mod (L - 1) (n + 1)
  have h2 : r < n + 1 := by rw [← hr]; exact Nat.mod_lt _ (by omega)
  rw [hq, hr] at h1
  rw [hq]
  have h3 : L + q = (n + 2) * q + (r + 1) := by
    have : (n + 2) * q = (n + 1) * q + q := by rw [show n + 2 = (n + 1) + 1 from rfl, Nat.succ_mul]
    omega
  have h4 : (L + q) / (n + 2) = q := by
    rw [h3, Nat.mul_add_div (by omega), Nat.div_eq_of_lt (show r + 1 < n + 2 by omega), Nat.add_zero]
  rw [h4]; omega
theorem group_clean (n : Nat) : ∀ (m : Nat) (l : List UInt8), l.length ≤ m → cleanL (groupL n l) = cleanL l
  | m, l, hm => by
    by_cases h : n + 1 < l.length
    · match m, hm with
      | 0, hm => omega
      | m + 1, hm =>
        have ih := group_clean n m (l.drop (n + 1)) (by rw [List.length_drop]; omega)
        rw [groupL_more n l h]
        have e : ∀ a b : List UInt8, cleanL (a ++ b) = cleanL a ++ cleanL b := fun a b => by simp [cleanL]
        have e45 : ∀ b : List UInt8, cleanL (45 :: b) = cleanL b := fun b => by
          have := e [45] b
          rw [List.singleton_append] at this
          rw [this]; rfl
        rw [e, e45, ih, ← e, List.take_append_drop]
    · rw [groupL_end n l h]
def groupB (n : Nat) (s : ByteArray) : ByteArray := bL (groupL n s.data.toList)
theorem groupB_more (n : Nat) (s : ByteArray) (h : n + 1 < s.size) : groupB n s = s.extract 0 (n + 1) ++ ⟨#[45]⟩ ++ groupB n (s.extract (n + 1) s.size) := by
  have hl : s.data.toList.length = s.size := by rw [Array.length_toList]; rfl
  apply ByteArray.ext
  apply Array.toList_inj.1
  show groupL n s.data.toList = _
  rw [groupL_more n _ (by omega)]
  simp only [ByteArray.data_append, ByteArray.data_extract, Array.toList_append, Array.toList_extract, List.extract_eq_take_drop, List.drop_zero, Nat.sub_zero]
  show _ = _ ++ [45] ++ groupL n (s.extract (n + 1) s.size).data.toList
  rw [show (s.extract (n + 1) s.size).data.toList = s.data.toList.drop (n + 1) from by
    simp only [ByteArray.data_extract, Array.toList_extract, List.extract_eq_take_drop]
    exact List.take_of_length_le (by rw [List.length_drop]; omega)]
  simp
theorem groupB_end (n : Nat) (s : ByteArray) (h : ¬ n + 1 < s.size) : groupB n s = s := by
  have hl : s.data.toList.length = s.size := by rw [Array.length_toList]; rfl
  rw [groupB, groupL_end n _ (by omega)]
  rfl

set_option maxHeartbeats 2000000 in
set_option maxRecDepth 100000 in
theorem Group_none (w : World) (s : ByteArray) (n : Int) (hn : n < 1) :
    Calls Try.prog 13 #[.string s, .int .i64 n] w fun e w' => e = .returned (.string s) ∧ Fr [] w w' := by
  go_enter Try.func13, Try.ntmps13
  go_wp2_with fail
  go_ret
  exact ⟨rfl, Fr.refl _ _⟩
set_option maxHeartbeats 2000000 in
set_option maxRecDepth 100000 in
theorem Group_calls (w : World) (s : ByteArray) (hs : s.size ≤ 1000) (m : Nat) {n : Int} (hn : n = ((m + 1 : Nat) : Int)) (hn63 : n ≤ 9223372036854775807) :
    Calls Try.prog 13 #[.string s, .int .i64 n] w fun e w' => e = .returned (.string (groupB m s)) ∧ Fr [] w w' := by
  have hn1 : 1 ≤ n := by omega
  have hnt : n.toNat = m + 1 := by omega
  have HN := Lib.hid hn
  have HNT := Lib.hid hnt
  clear hn hnt
  go_enter Try.func13, Try.ntmps13
  go_wp2_with fail
  have h0 : BldN 38 5 w (w.alloc (.cells #[.pointer none, .slice none 0 0] 38)) w.heap.size [] ⟨#[]⟩ := BldN.make _ _ (Fr.refl _ _) rfl
  generalize w.alloc (.cells #[.pointer none, .slice none 0 0] 38) = W0 at h0 ⊢
  generalize w.heap.size = b at h0 ⊢
  have H0 := Lib.hid (And.intro h0 (nil_bapp (groupB m s)))
  clear h0
  go_loopw [0] (fun v0 wr => ∃ (t acc : ByteArray) (r : List Nat), v0 = .string t ∧ acc.size + 2 * t.size ≤ 2 * s.size ∧ Hid (BldN 38 5 w wr b r acc ∧ acc ++ groupB m t = groupB m s)) (fun v0 _ => match v0 with | .string t => t.size | _ => 0)
  case atStart => exact ⟨s, ⟨#[]⟩, [], rfl, by show 0 + _ ≤ _; omega, H0⟩
  case round =>
    clear H0
    obtain ⟨t, acc, r, rfl, hsz, H⟩ := hrel
    by_cases hlt : n < (t.size : Int)
    · have hmt : m + 1 < t.size := by have := HN.out; omega
      have HG := Lib.hid (groupB_more m t hmt)
      have p1 : n ≤ (t.size : Int) := by omega
      have p0 : 0 ≤ n := by omega
      have e1 : (t.extract 0 n.toNat).size = m + 1 := by rw [ByteArray.size_extract, HNT.out]; omega
      have e2 : (t.extract n.toNat t.size).size = t.size - (m + 1) := by rw [ByteArray.size_extract, HNT.out]; omega
      have b1 : (⟨#[45]⟩ : ByteArray).size = 1 := rfl
      have e3 : (t.extract 0 n.toNat ++ ⟨#[45]⟩ : ByteArray).size = m + 2 := by rw [ByteArray.size_append, e1]; rfl
      have HE := Lib.hid (And.intro e2 e3)
      rw [← HNT.out] at HG
      have hsum : (t.extract 0 n.toNat).size + (⟨#[45]⟩ : ByteArray).size ≤ 9223372036854775807 := by omega
      have HP : Hid (acc.size + (t.extract 0 n.toNat ++ ⟨#[45]⟩ : ByteArray).size ≤ 140737488355328) := Lib.hid (by omega)
      clear e1 e2 e3
      go_wp2_with fail
      (with_reducible refine (WriteString_calls 38 bty_builder b r acc _ (t.extract 0 n.toNat ++ ⟨#[45]⟩) H.out.1.bld HP.out).mono ?_)
      rintro e w3 ⟨rfl, r3, hb3, hf3, hn3⟩
      have H3 := Lib.hid (H.out.1.step hb3 hf3 hn3)
      clear hb3 hf3 hn3 hsum
      go_wp2_with fail
      refine ⟨⟨t.extract n.toNat t.size, acc ++ (t.extract 0 n.toNat ++ ⟨#[45]⟩), r3, rfl, ?_, Lib.hid ⟨H3.out, ?_⟩⟩, ?_⟩
      · rw [ByteArray.size_append, HE.out.1, HE.out.2]; omega
      · rw [← H.out.2, HG.out, bapp_assoc]
      · simp only [HE.out.1]; omega
    · have hmt : ¬ m + 1 < t.size := by have := HN.out; omega
      have hH := H.out
      rw [groupB_end m t hmt] at hH
      have H2 := Lib.hid hH
      clear hH H
      go_wp2_with fail
      (with_reducible refine (WriteString_calls 38 bty_builder b r acc _ t H2.out.1.bld (by omega)).mono ?_)
      rintro e w3 ⟨rfl, r3, hb3, hf3, hn3⟩
      have h3 := H2.out.1.step hb3 hf3 hn3
      rw [H2.out.2] at h3
      have H3 := Lib.hid h3
      clear hb3 hf3 hn3 h3 H2
      go_wp2_with fail
      (with_reducible refine (String_calls 38 bty_builder b r3 _ _ H3.out.bld).mono ?_)
      rintro e w4 ⟨rfl, hb4, hf4⟩
      have HFr := Lib.hid (H3.out.fr.trans hf4 (fun k hk => .inr (H3.out.new k (by simp [hk]))))
      clear hb4 hf4
      go_wp2_with fail
      go_ret
      exact ⟨rfl, HFr.out⟩
end Go.Proofs.Ytbfpfmnkmpcgpaa
