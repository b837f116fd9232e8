/- Addresses of letters alone: plain facts on their reading and their masks. -/
import Derived.Test.YtfaopjoglgmoiaaDoorAddrQ
import Derived.Test.YtfaopjoglgmoiaaDoorAddr6
namespace Go.Proofs.YtfaopjoglgmoiaaDoor
open Go.RowKit Go.Lib
set_option linter.unusedVariables false
set_option linter.unusedSimpArgs false

def lowN (c : UInt8) : Bool := decide (97 ≤ c.toNat) && decide (c.toNat ≤ 122)
/-- A letter, small or capital. -/
def alN (c : UInt8) : Bool := lowN c || (decide (65 ≤ c.toNat) && decide (c.toNat ≤ 90))
def letT : ByteArray := ⟨#[97, 98, 99, 100, 101, 102, 103, 104, 105, 106, 107, 108, 109, 110, 111, 112]⟩
theorem madeS_all (q : UInt8 → Bool) (tab : ByteArray) (ht : tab.data.toList.all q = true) : ∀ (l : List Int) (s : ByteArray), s.data.toList.all q = true → (madeS tab l s).data.toList.all q = true
  | [], s, h => h
  | k :: l, s, h => by
    rw [madeS]
    refine madeS_all q tab ht l _ ?_
    rw [ByteArray.data_append, Array.toList_append, List.all_append, h, Bool.true_and]
    refine List.all_eq_true.2 fun c hc => List.all_eq_true.1 ht c ?_
    rw [ByteArray.data_extract, Array.toList_extract, List.extract_eq_take_drop] at hc
    exact List.mem_of_mem_drop (List.mem_of_mem_take hc)
theorem low_ne {c : UInt8} (h : lowN c = true) : nmN c.toNat = true ∧ c ≠ 46 ∧ c ≠ 64 ∧ c ≠ 43 := by
  unfold lowN at h
  simp only [Bool.and_eq_true, decide_eq_true_eq] at h
  have hne : ∀ d : UInt8, d.toNat < 97 → c ≠ d := fun d hd e => by subst e; omega
  refine ⟨?_, hne 46 (by decide), hne 64 (by decide), hne 43 (by decide)⟩
  unfold nmN letN
  rw [decide_eq_true h.1, decide_eq_true h.2]
  rfl
theorem noDD_plain : ∀ (l : List UInt8), (46 : UInt8) ∉ l → noDD (l ++ [46]) = true
  | [], _ => rfl
  | x :: l, h => by
    have hx : (x == 46) = false := beq_eq_false_iff_ne.2 (fun e => h (by simp [e]))
    rw [List.cons_append, noDD, hx, Bool.false_and, Bool.not_false, Bool.true_and]
    exact noDD_plain l (fun hm => h (by simp [hm]))
theorem name_letters {l : List UInt8} (h0 : l ≠ []) (h : l.all lowN = true) : nameL l = true := by
  have hm := fun c hc => low_ne (List.all_eq_true.1 h c hc)
  have h46 : (46 : UInt8) ∉ l := fun hc => (hm 46 hc).2.1 rfl
  cases l with
  | nil => exact absurd rfl h0
  | cons x l =>
    have hx : x ≠ 46 := fun e => h46 (by simp [e])
    have hdd : noDD (46 :: (x :: l ++ [46])) = true := by
      rw [noDD, show ((x :: l ++ [46] : List UInt8).head? == some (46 : UInt8)) = false from beq_eq_false_iff_ne.2 (fun e => hx (Option.some.inj e)), Bool.and_false, Bool.not_false, Bool.true_and]
      exact noDD_plain _ h46
    unfold nameL
    rw [hdd, List.all_eq_true.2 (fun c hc => (hm c hc).1)]
    rfl
/-- A name of letters at a host. -/
theorem mail_letters {a h : List UInt8} (h0 : a ≠ []) (ha : a.all lowN = true) (hh : hostL h = true) (hl : a.length + 1 + h.length ≤ 40) : mailL (a ++ 64 :: h) = true ∧ cutL 64 (a ++ 64 :: h) = some (a, h) := by
  have h64 : (64 : UInt8) ∉ a := fun hc => (low_ne (List.all_eq_true.1 ha 64 hc)).2.2.1 rfl
  have hc := cutL_app h h64
  refine ⟨?_, hc⟩
  unfold mailL
  rw [hc]
  simp only
  rw [name_letters h0 ha, hh, decide_eq_true (by simp; omega)]
  rfl
theorem mailS_letters {a h : List UInt8} (h0 : a ≠ []) (ha : a.all lowN = true) (hh : hostL h = true) (hl : a.length + 1 + h.length ≤ 40) : mailS (a ++ 64 :: h) = (bL (a ++ 64 :: h), true) := by
  obtain ⟨hm, _⟩ := mail_letters h0 ha hh hl
  unfold mailS mailR
  rw [mailOf_id hm, if_pos hm]
theorem mask_letters {a h : List UInt8} (x : UInt8) (t : List UInt8) (he : a = x :: t) (ha : a.all lowN = true) (hh : hostL h = true) (hl : a.length + 1 + h.length ≤ 40) : maskL (a ++ 64 :: h) = [x, 42, 42, 42] ++ 64 :: h := by
  obtain ⟨hm, hc⟩ := mail_letters (by rw [he]; simp) ha hh hl
  unfold maskL
  rw [if_pos hm, hc, he]
  rfl
theorem low_up {c : UInt8} (h : lowN c = true) : alN (c - 32) = true ∧ lowC (c - 32) = c := by
  unfold lowN at h
  simp only [Bool.and_eq_true, decide_eq_true_eq] at h
  have e : (c - 32).toNat = c.toNat - 32 := by
    rw [UInt8.toNat_sub_of_le]
    · rfl
    · show (32 : UInt8).toNat ≤ c.toNat; have : (32 : UInt8).toNat = 32 := rfl; omega
  constructor
  · unfold alN
    rw [e, decide_eq_true (show 65 ≤ c.toNat - 32 by omega), decide_eq_true (show c.toNat - 32 ≤ 90 by omega)]
    simp
  · unfold lowC
    rw [e, if_pos (by omega)]
    apply UInt8.toNat_inj.1
    rw [UInt8.toNat_ofNat']
    omega
theorem low_same {c : UInt8} (h : lowN c = true) : alN c = true ∧ lowC c = c := by
  have h' := h
  unfold lowN at h'
  simp only [Bool.and_eq_true, decide_eq_true_eq] at h'
  exact ⟨by unfold alN; rw [h]; rfl, if_neg (by omega)⟩
theorem al_ne {c : UInt8} (h : alN c = true) : c ≠ 32 ∧ c ≠ 9 := by
  unfold alN lowN at h
  simp only [Bool.or_eq_true, Bool.and_eq_true, decide_eq_true_eq] at h
  have hne : ∀ d : UInt8, d.toNat < 65 → c ≠ d := fun d hd e => by subst e; omega
  exact ⟨hne 32 (by decide), hne 9 (by decide)⟩
/-- Capital letters, blanks at the ends, and what stands behind a plus make no difference. -/
theorem mail_same {a c b : List UInt8} (h0 : a ≠ []) (ha : a.all lowN = true) (hc : c.all alN = true) (hca : c.map lowC = a) (hb : b.all lowN = true) (hl : a.length ≤ 20) :
    mailS ([32, 9] ++ c ++ [43] ++ b ++ [64, 72, 111, 115, 116, 46, 79, 82, 71, 32]) = (bL (a ++ 64 :: [104, 111, 115, 116, 46, 111, 114, 103]), true) := by
  have hh : hostL [104, 111, 115, 116, 46, 111, 114, 103] = true := by decide
  have hc0 : c ≠ [] := fun e => h0 (by rw [← hca, e]; rfl)
  have hct : ∀ d, alN d = true → ([32, 9] : List UInt8).contains d = false := fun d hd => by
    have := al_ne hd
    simp [this.1, this.2]
  have htr : Lib.trimS ([32, 9] ++ c ++ [43] ++ b ++ [64, 72, 111, 115, 116, 46, 79, 82, 71, 32]) [32, 9] = c ++ [43] ++ b ++ [64, 72, 111, 115, 116, 46, 79, 82, 71] := by
    unfold Lib.trimS
    have h1 : Lib.trimRightS ([32, 9] ++ c ++ [43] ++ b ++ [64, 72, 111, 115, 116, 46, 79, 82, 71, 32]) [32, 9] = [32, 9] ++ c ++ [43] ++ b ++ [64, 72, 111, 115, 116, 46, 79, 82, 71] := by
      unfold Lib.trimRightS
      rw [show ([32, 9] ++ c ++ [43] ++ b ++ [64, 72, 111, 115, 116, 46, 79, 82, 71, 32] : List UInt8) = ([32, 9] ++ c ++ [43] ++ b ++ [64, 72, 111, 115, 116, 46, 79, 82]) ++ [71] ++ [32] by simp]
      rw [List.reverse_append, List.reverse_append]
      show (List.dropWhile _ (32 :: 71 :: ([32, 9] ++ c ++ [43] ++ b ++ [64, 72, 111, 115, 116, 46, 79, 82] : List UInt8).reverse)).reverse = _
      rw [List.dropWhile_cons_of_pos (by decide), List.dropWhile_cons_of_neg (by decide)]
      simp
    rw [h1]
    unfold Lib.trimLeftS
    cases c with
    | nil => exact absurd rfl hc0
    | cons x c =>
      have hx := hct x (List.all_eq_true.1 hc x (by simp))
      show List.dropWhile _ (32 :: 9 :: x :: (c ++ [43] ++ b ++ [64, 72, 111, 115, 116, 46, 79, 82, 71])) = _
      rw [List.dropWhile_cons_of_pos (by decide), List.dropWhile_cons_of_pos (by decide), List.dropWhile_cons_of_neg (by rw [hx]; decide)]
      simp
  have hbm : b.map lowC = b := by
    conv => rhs; rw [← List.map_id b]
    exact List.map_congr_left (fun d hd => (low_same (List.all_eq_true.1 hb d hd)).2)
  have hmo : mailOf ([32, 9] ++ c ++ [43] ++ b ++ [64, 72, 111, 115, 116, 46, 79, 82, 71, 32]) = a ++ 64 :: [104, 111, 115, 116, 46, 111, 114, 103] := by
    unfold mailOf
    rw [htr]
    have hm : (c ++ [43] ++ b ++ [64, 72, 111, 115, 116, 46, 79, 82, 71]).map lowC = a ++ 43 :: (b ++ 64 :: [104, 111, 115, 116, 46, 111, 114, 103]) := by
      rw [List.map_append, List.map_append, List.map_append, hca, hbm]
      rw [show ([43] : List UInt8).map lowC = [43] from rfl, show ([64, 72, 111, 115, 116, 46, 79, 82, 71] : List UInt8).map lowC = 64 :: [104, 111, 115, 116, 46, 111, 114, 103] from by decide]
      simp
    rw [hm]
    unfold plusL
    rw [cutL_app _ (fun hc => (low_ne (List.all_eq_true.1 ha 43 hc)).2.2.2 rfl)]
    simp only
    rw [cutL_app _ (fun hc => (low_ne (List.all_eq_true.1 hb 64 hc)).2.2.1 rfl)]
  obtain ⟨hm, _⟩ := mail_letters h0 ha hh (by simp; omega)
  unfold mailS mailR
  rw [hmo, if_pos hm]
end Go.Proofs.YtfaopjoglgmoiaaDoor
