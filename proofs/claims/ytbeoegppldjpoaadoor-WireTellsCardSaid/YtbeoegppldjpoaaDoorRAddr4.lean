/- Addresses: the document's host. -/
import Derived.Test.YtbeoegppldjpoaaDoorRAddr3
namespace Go.Proofs.YtbeoegppldjpoaaDoor
open Go.RowKit Go.Lib
set_option linter.unusedVariables false
set_option linter.unusedSimpArgs false

theorem splitL_app {c : UInt8} : ∀ {a : List UInt8} (b : List UInt8), c ∉ a → splitL c (a ++ c :: b) = a :: splitL c b
  | [], b, _ => by simp [splitL]
  | x :: a, b, h => by
    have hx : (x == c) = false := beq_eq_false_iff_ne.2 (fun e => h (by simp [e]))
    rw [List.cons_append, splitL, hx]
    simp only [Bool.false_eq_true, if_false]
    rw [splitL_app b (fun hm => h (by simp [hm]))]
theorem splitL_not {c : UInt8} : ∀ {l : List UInt8}, c ∉ l → splitL c l = [l]
  | [], _ => rfl
  | x :: l, h => by
    have hx : (x == c) = false := beq_eq_false_iff_ne.2 (fun e => h (by simp [e]))
    rw [splitL, hx]
    simp only [Bool.false_eq_true, if_false]
    rw [splitL_not (fun hm => h (by simp [hm]))]
/-- Labels behind place f, n of them ahead. -/
def hoT (l : List UInt8) (n f : Nat) : Bool := decide (2 ≤ n + (splitL 46 (l.drop f)).length) && (splitL 46 (l.drop f)).all labelL
theorem hoT_start (l : List UInt8) : hostL l = hoT l 0 0 := by
  unfold hoT hostL
  rw [List.drop_zero, Nat.zero_add]
theorem seg_next (l : List UInt8) (f i : Nat) (hf : f ≤ i) (hi : i < l.length) : (l.drop f).take (i + 1 - f) = (l.drop f).take (i - f) ++ [l[i]] := by
  have h1 : i + 1 - f = (i - f) + 1 := by omega
  rw [h1, List.take_succ_eq_append_getElem (by rw [List.length_drop]; omega)]
  congr 2
  rw [List.getElem_drop]
  congr 1
  omega
theorem seg_parts (l : List UInt8) (f i : Nat) (hf : f ≤ i) (hi : i < l.length) : l.drop f = (l.drop f).take (i - f) ++ l[i] :: l.drop (i + 1) := by
  conv => lhs; rw [← List.take_append_drop (i - f) (l.drop f)]
  rw [List.drop_drop, show f + (i - f) = i by omega, List.drop_eq_getElem_cons hi]
theorem hoT_next (l : List UInt8) (n f i : Nat) (hf : f ≤ i) (hi : i < l.length) (hd : l[i] = 46) (hno : 46 ∉ (l.drop f).take (i - f)) :
    hoT l n f = (labelL ((l.drop f).take (i - f)) && hoT l (n + 1) (i + 1)) := by
  have e : l.drop f = (l.drop f).take (i - f) ++ 46 :: l.drop (i + 1) := by rw [← hd]; exact seg_parts l f i hf hi
  have e2 : splitL 46 (l.drop f) = (l.drop f).take (i - f) :: splitL 46 (l.drop (i + 1)) := (congrArg (splitL 46) e).trans (splitL_app _ hno)
  unfold hoT
  rw [e2, List.length_cons, List.all_cons]
  rw [show n + ((splitL 46 (l.drop (i + 1))).length + 1) = n + 1 + (splitL 46 (l.drop (i + 1))).length by omega]
  generalize labelL _ = u
  generalize decide (2 ≤ n + 1 + (splitL 46 (l.drop (i + 1))).length) = v
  generalize (splitL 46 (l.drop (i + 1))).all labelL = z
  cases u <;> cases v <;> cases z <;> rfl
theorem hoT_last (l : List UInt8) (n f : Nat) (hno : 46 ∉ (l.drop f).take (l.length - f)) :
    hoT l n f = (labelL ((l.drop f).take (l.length - f)) && decide (2 ≤ n + 1)) := by
  have e : (l.drop f).take (l.length - f) = l.drop f := List.take_of_length_le (by rw [List.length_drop]; exact Nat.le_refl _)
  rw [e] at hno ⊢
  unfold hoT
  rw [splitL_not hno]
  simp [Bool.and_comm]
theorem ext_mid (s : ByteArray) (f i : Nat) : (s.extract f i).data.toList = (s.data.toList.drop f).take (i - f) := by
  rw [ByteArray.data_extract, Array.toList_extract, List.extract_eq_take_drop]

set_option maxHeartbeats 4000000 in
set_option maxRecDepth 100000 in
theorem rhost_calls (w : World) (s : ByteArray) (hs : s.size ≤ 1000000) :
    Calls Tryd.prog 61 #[.string s] w fun e w' => e = .returned (.bool (hostL s.data.toList)) ∧ w' = w := by
  have hl := len_size s
  obtain ⟨R, hR⟩ : ∃ R, R = hostL s.data.toList := ⟨_, rfl⟩
  have hR1 : R = hoT s.data.toList 0 0 := by rw [hR, hoT_start]
  rw [← hR]
  have HR := Lib.hid hR1
  have HL := Lib.hid hl
  clear hR hR1 hl
  go_enter Tryd.func61, Tryd.ntmps61
  go_wp2_with fail
  go_loopw [3, 4, 5] (fun v3 v4 v5 wr => ∃ n f i : Nat, v3 = .int .i64 n ∧ v4 = .int .i64 f ∧ v5 = .int .i64 i ∧ n ≤ i ∧ f ≤ i ∧ i ≤ s.size + 1 ∧ wr = w ∧ Hid ((i ≤ s.size → 46 ∉ (s.data.toList.drop f).take (i - f) ∧ R = hoT s.data.toList n f) ∧ (i = s.size + 1 → R = decide (2 ≤ n)))) (fun _ _ v5 _ => s.size + 1 - (intOf v5).toNat)
  case atStart => exact ⟨0, 0, 0, rfl, rfl, rfl, Nat.le_refl _, Nat.le_refl _, Nat.zero_le _, rfl, fun _ => ⟨by simp, HR.out⟩, fun h => by omega⟩
  case round =>
    clear HR
    obtain ⟨n, f, i, rfl, rfl, rfl, hn, hf, hi, hwr, H⟩ := hrel
    have HW := Lib.hid hwr
    clear hwr
    by_cases hlt : i < s.size
    · obtain ⟨hno, hRe⟩ := H.out.1 (by omega)
      clear H
      have hil : i < s.data.toList.length := by rw [HL.out]; exact hlt
      have hg : s.data.toList[i] = s[i]'hlt := rfl
      by_cases h46 : s[i]'hlt = 46
      · have hnx := hoT_next s.data.toList n f i hf hil (hg.trans h46) hno
        have hd0 : ((s[i]'hlt).toNat : Int) = 46 := by rw [h46]; rfl
        have hc := rlabel_calls wr (s.extract f i) (by rw [ByteArray.size_extract]; omega)
        rw [ext_mid] at hc
        rw [hnx] at hRe
        generalize labelL ((s.data.toList.drop f).take (i - f)) = la at *
        have HC := Lib.hid hc
        clear hc hnx hno h46 hg
        cases la
        · have hRf : R = false := hRe
          clear hRe
          subst hRf
          go_wp2_with fail
          (with_reducible refine HC.out.mono ?_)
          rintro e w1 ⟨rfl, rfl⟩
          go_wp2_with fail
          go_ret
          exact ⟨rfl, HW.out⟩
        · rw [Bool.true_and] at hRe
          have HN := Lib.hid hRe
          clear hRe
          go_wp2_with fail
          (with_reducible refine HC.out.mono ?_)
          rintro e w1 ⟨rfl, rfl⟩
          go_wp2_with fail
          exact ⟨⟨n + 1, i + 1, i + 1, by go_num, by go_num, by go_num, by omega, by omega, by omega, HW.out, fun _ => ⟨by simp, HN.out⟩, fun h => by omega⟩, by simp only [intOf]; omega⟩
      · have hd0 : ¬ ((s[i]'hlt).toNat : Int) = 46 := fun e => h46 (UInt8.toNat_inj.1 (by show _ = 46; omega))
        have hno' : 46 ∉ (s.data.toList.drop f).take (i + 1 - f) := by
          rw [seg_next _ f i hf hil, hg]
          simp [hno, Ne.symm h46]
        have HN := Lib.hid (And.intro hno' hRe)
        clear hno hno' hRe hg h46
        go_wp2_with fail
        exact ⟨⟨n, f, i + 1, rfl, rfl, by go_num, by omega, by omega, by omega, HW.out, fun _ => HN.out, fun h => by omega⟩, by simp only [intOf]; omega⟩
    · by_cases hle : i = s.size
      · obtain ⟨hno, hRe⟩ := H.out.1 (by omega)
        clear H
        have hnx := hoT_last s.data.toList n f (by rw [HL.out, ← hle]; exact hno)
        have hc := rlabel_calls wr (s.extract f i) (by rw [ByteArray.size_extract]; omega)
        rw [ext_mid] at hc
        rw [hnx, HL.out, ← hle] at hRe
        generalize labelL ((s.data.toList.drop f).take (i - f)) = la at *
        subst hle
        have HC := Lib.hid hc
        clear hc hnx hno
        cases la
        · have hRf : R = false := hRe
          clear hRe
          subst hRf
          go_wp2_with fail
          (with_reducible refine HC.out.mono ?_)
          rintro e w1 ⟨rfl, rfl⟩
          go_wp2_with fail
          go_ret
          exact ⟨rfl, HW.out⟩
        · rw [Bool.true_and] at hRe
          have HN := Lib.hid hRe
          clear hRe
          go_wp2_with fail
          (with_reducible refine HC.out.mono ?_)
          rintro e w1 ⟨rfl, rfl⟩
          go_wp2_with fail
          exact ⟨⟨n + 1, s.size + 1, s.size + 1, by go_num, by go_num, by go_num, by omega, by omega, by omega, HW.out, fun h => by omega, fun _ => HN.out⟩, by simp only [intOf]; omega⟩
      · obtain rfl : i = s.size + 1 := by omega
        have hRe := H.out.2 rfl
        clear H
        by_cases h2 : (2 : Int) ≤ (n : Int)
        · rw [decide_eq_true (by omega)] at hRe
          subst hRe
          go_wp2_with fail
          go_ret
          exact ⟨by first | rfl | (congr; exact decide_eq_true (by omega)), HW.out⟩
        · rw [decide_eq_false (by omega)] at hRe
          subst hRe
          go_wp2_with fail
          go_ret
          exact ⟨by first | rfl | (congr; exact decide_eq_false (by omega)), HW.out⟩

end Go.Proofs.YtbeoegppldjpoaaDoor
