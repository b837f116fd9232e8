/- Addresses, in plain Lean: what a name, a host, a mail address, a phone is, by bytes; and the library's words (cut, split, contains, indexFunc) brought to these. No program in sight. -/
import Derived.Test.YtbeoegppldjpoaaDoorBase
import Derived.Lib.CutLaws
import Derived.Lib.Split
import Derived.Lib.IndexMore
import Derived.Lib.TrimU
import Derived.Lib.SlTrimSet
import Derived.Lib.TrimUEq
import Derived.Shelf.GgClosure.StringsIndexFunc
namespace Go.Proofs.YtbeoegppldjpoaaDoor
open Go.RowKit
set_option linter.unusedVariables false
set_option linter.unusedSimpArgs false

def digN (c : Nat) : Bool := decide (48 ≤ c) && decide (c ≤ 57)
def letN (c : Nat) : Bool := (decide (97 ≤ c) && decide (c ≤ 122)) || digN c
def nmN (c : Nat) : Bool := letN c || decide (c = 95) || decide (c = 45) || decide (c = 46)
def lbN (c : Nat) : Bool := letN c || decide (c = 45)
/-- No two dots beside each other. -/
def noDD : List UInt8 → Bool
  | [] => true
  | a :: l => !(a == 46 && l.head? == some 46) && noDD l
def nameL (l : List UInt8) : Bool := !l.isEmpty && (noDD (46 :: (l ++ [46])) && l.all fun c => nmN c.toNat)
def labelL (l : List UInt8) : Bool := !l.isEmpty && (decide (l.length ≤ 20) && (l.head? != some 45 && (l.getLast? != some 45 && l.all fun c => lbN c.toNat)))
def cutL (c : UInt8) : List UInt8 → Option (List UInt8 × List UInt8)
  | [] => none
  | x :: l => if x == c then some ([], l) else (cutL c l).map fun p => (x :: p.1, p.2)
def splitL (c : UInt8) : List UInt8 → List (List UInt8)
  | [] => [[]]
  | x :: l => if x == c then [] :: splitL c l else match splitL c l with
    | [] => [[x]]
    | y :: r => (x :: y) :: r
def hostL (l : List UInt8) : Bool := decide (2 ≤ (splitL 46 l).length) && (splitL 46 l).all labelL
def mailL (l : List UInt8) : Bool := match cutL 64 l with
  | none => false
  | some (a, b) => decide (l.length ≤ 40) && (nameL a && hostL b)
def phoneL (l : List UInt8) : Bool := decide (9 ≤ l.length) && (decide (l.length ≤ 16) && (l[0]? == some 43 && (l[1]? != some 48 && (l.drop 1).all fun c => digN c.toNat)))
def kindL (l : List UInt8) : Nat := if mailL l then 1 else if phoneL l then 2 else 0
def bL (l : List UInt8) : ByteArray := ⟨l.toArray⟩
theorem bL_size (l : List UInt8) : (bL l).size = l.length := by show l.toArray.size = _; simp
theorem bL_list (s : ByteArray) : bL s.data.toList = s := by apply ByteArray.ext; simp [bL]
theorem bL_data (l : List UInt8) : (bL l).data.toList = l := by simp [bL]
theorem len_size (s : ByteArray) : s.data.toList.length = s.size := by rw [Array.length_toList]; rfl
def lowC (c : UInt8) : UInt8 := if 65 ≤ c.toNat ∧ c.toNat ≤ 90 then UInt8.ofNat (c.toNat + 32) else c
def plusL (l : List UInt8) : List UInt8 := match cutL 43 l with
  | none => l
  | some (a, b) => match cutL 64 b with
    | none => l
    | some (_, c) => a ++ 64 :: c
def mailOf (l : List UInt8) : List UInt8 := plusL ((Lib.trimS l [32, 9]).map lowC)
def besN (c : Nat) : Bool := decide (c = 32) || decide (c = 9) || decide (c = 45) || decide (c = 46) || decide (c = 40) || decide (c = 41)
def phoneOf (l : List UInt8) : List UInt8 := l.filter fun c => !besN c.toNat
/-- What Mail and Phone tell. -/
def mailR (l : List UInt8) : List UInt8 × Bool := if mailL (mailOf l) then (mailOf l, true) else ([], false)
def phoneR (l : List UInt8) : List UInt8 × Bool := if phoneL (phoneOf l) then (phoneOf l, true) else ([], false)
def anyR (l : List UInt8) : List UInt8 × Bool := if mailL (mailOf l) then (mailOf l, true) else phoneR l
def maskL (l : List UInt8) : List UInt8 := if mailL l then l.take 1 ++ [42, 42, 42] ++ 64 :: ((cutL 64 l).map (·.2)).getD [] else if phoneL l then [43, 42, 42, 42] ++ l.drop (l.length - 2) else [42, 42, 42]

theorem cutL_some {c : UInt8} : ∀ {l a b : List UInt8}, cutL c l = some (a, b) → l = a ++ c :: b ∧ c ∉ a
  | [], a, b, h => by cases h
  | x :: l, a, b, h => by
    unfold cutL at h
    split at h
    · rename_i hx
      injection h with h
      injection h with h1 h2
      subst h1 h2
      rw [beq_iff_eq.1 hx]
      exact ⟨rfl, by simp⟩
    · rename_i hx
      cases hc : cutL c l with
      | none => rw [hc] at h; cases h
      | some p =>
        obtain ⟨p1, p2⟩ := p
        rw [hc] at h
        simp only [Option.map_some, Option.some.injEq, Prod.mk.injEq] at h
        obtain ⟨h1, h2⟩ := h
        subst h1 h2
        obtain ⟨h3, h4⟩ := cutL_some hc
        have hx' : x ≠ c := fun e => hx (beq_iff_eq.2 e)
        exact ⟨by rw [List.cons_append, ← h3], by simp [h4, Ne.symm hx']⟩
theorem cutL_none {c : UInt8} : ∀ {l : List UInt8}, cutL c l = none → c ∉ l
  | [], _ => by simp
  | x :: l, h => by
    unfold cutL at h
    split at h
    · cases h
    · rename_i hx
      have h' : cutL c l = none := by
        cases hc : cutL c l with
        | none => rfl
        | some p => rw [hc] at h; cases h
      have hx' : x ≠ c := fun e => hx (beq_iff_eq.2 e)
      simp [cutL_none h', Ne.symm hx']
theorem cutL_app {c : UInt8} : ∀ {a : List UInt8} (b : List UInt8), c ∉ a → cutL c (a ++ c :: b) = some (a, b)
  | [], b, _ => by simp [cutL]
  | x :: a, b, h => by
    have hx : (x == c) = false := beq_eq_false_iff_ne.2 (fun e => h (by simp [e]))
    rw [List.cons_append, cutL, hx]
    simp only [Bool.false_eq_true, if_false]
    rw [cutL_app b (fun hm => h (by simp [hm]))]
    rfl
theorem cutL_not {c : UInt8} : ∀ {l : List UInt8}, c ∉ l → cutL c l = none
  | [], _ => rfl
  | x :: l, h => by
    have hx : (x == c) = false := beq_eq_false_iff_ne.2 (fun e => h (by simp [e]))
    rw [cutL, hx]
    simp only [Bool.false_eq_true, if_false]
    rw [cutL_not (fun hm => h (by simp [hm]))]
    rfl
theorem index_one (c : UInt8) : ∀ l : List UInt8, Lib.index l [c] = match cutL c l with
    | none => -1
    | some p => (p.1.length : Int)
  | [] => rfl
  | x :: l => by
    have ih := index_one c l
    unfold Lib.index cutL
    by_cases h : x = c
    · subst h
      simp [List.isPrefixOf]
    · have h1 : (x == c) = false := beq_eq_false_iff_ne.2 h
      have h2 : List.isPrefixOf [c] (x :: l) = false := by
        simp only [List.isPrefixOf, Bool.and_true]
        exact beq_eq_false_iff_ne.2 (Ne.symm h)
      rw [h1, h2]
      simp only [Bool.false_eq_true, if_false]
      rw [ih]
      cases cutL c l with
      | none => rfl
      | some p =>
        simp only [Option.map_some, List.length_cons]
        rw [if_neg (by rw [beq_iff_eq]; omega)]
        exact (Int.natCast_succ _).symm
theorem cut_one (c : UInt8) (l : List UInt8) : Lib.cut l [c] = match cutL c l with
    | none => (l, [], false)
    | some p => (p.1, p.2, true) := by
  unfold Lib.cut
  rw [index_one]
  cases h : cutL c l with
  | none => simp
  | some p =>
    obtain ⟨a, b⟩ := p
    obtain ⟨e, -⟩ := cutL_some h
    simp only
    rw [if_pos (by omega), Int.toNat_natCast, e]
    simp
theorem splitL_none {c : UInt8} : ∀ {l : List UInt8}, cutL c l = none → splitL c l = [l]
  | [], _ => rfl
  | x :: l, h => by
    have hn := cutL_none h
    have hx : (x == c) = false := beq_eq_false_iff_ne.2 (fun e => hn (by simp [e]))
    rw [splitL, hx]
    simp only [Bool.false_eq_true, if_false]
    rw [splitL_none (cutL_not (fun hm => hn (by simp [hm])))]
theorem splitL_some {c : UInt8} : ∀ {l a b : List UInt8}, cutL c l = some (a, b) → splitL c l = a :: splitL c b
  | [], a, b, h => by cases h
  | x :: l, a, b, h => by
    unfold cutL at h
    rw [splitL]
    split at h
    · rename_i hx
      injection h with h
      injection h with h1 h2
      subst h1 h2
      rw [if_pos hx]
    · rename_i hx
      rw [if_neg hx]
      cases hc : cutL c l with
      | none => rw [hc] at h; cases h
      | some p =>
        obtain ⟨p1, p2⟩ := p
        rw [hc] at h
        simp only [Option.map_some, Option.some.injEq, Prod.mk.injEq] at h
        obtain ⟨h1, h2⟩ := h
        subst h1 h2
        rw [splitL_some hc]
theorem splitK_one (c : UInt8) : ∀ (fuel : Nat) (l : List UInt8) (k : Nat), l.length < fuel → Lib.countFrom [c] fuel l ≤ k → Lib.splitK [c] 0 k l = splitL c l := by
  intro fuel
  induction fuel with
  | zero => intro l k h; omega
  | succ fuel ih =>
    intro l k hl hk
    unfold Lib.countFrom at hk
    rw [index_one] at hk
    cases h : cutL c l with
    | none =>
      rw [splitL_none h]
      cases k with
      | zero => rfl
      | succ k =>
        unfold Lib.splitK
        rw [index_one, h]
        rfl
    | some p =>
      obtain ⟨a, b⟩ := p
      obtain ⟨e, -⟩ := cutL_some h
      rw [h] at hk
      simp only at hk
      rw [if_neg (by rw [beq_iff_eq]; omega), Int.toNat_natCast] at hk
      have hd : l.drop (a.length + [c].length) = b := by rw [e]; simp
      rw [hd] at hk
      obtain ⟨k, rfl⟩ : ∃ k', k = k' + 1 := ⟨k - 1, by omega⟩
      have hlb : b.length < fuel := by have := congrArg List.length e; simp at this; omega
      unfold Lib.splitK
      rw [index_one, h]
      simp only
      rw [if_neg (by rw [beq_iff_eq]; omega), Int.toNat_natCast, hd, ih b k hlb (by omega), splitL_some h, Nat.add_zero]
      congr 1
      rw [e]
      simp
theorem split_one (c : UInt8) (l : List UInt8) : Lib.split l [c] = splitL c l := splitK_one c _ l _ (Nat.lt_succ_self _) (Nat.le_refl _)
theorem contains_dd : ∀ l : List UInt8, Lib.contains l [46, 46] = !noDD l
  | [] => rfl
  | x :: l => by
    have ih := contains_dd l
    have hg := Lib.index_ge l [46, 46]
    unfold Lib.contains at ih ⊢
    unfold Lib.index noDD
    have hp : List.isPrefixOf [46, 46] (x :: l) = (x == 46 && l.head? == some 46) := by
      cases l with
      | nil => simp [List.isPrefixOf]
      | cons y l =>
        simp only [List.isPrefixOf, List.head?_cons, Bool.and_true]
        have e1 : ((46 : UInt8) == x) = (x == 46) := by
          by_cases h : x = 46
          · subst h; rfl
          · rw [beq_eq_false_iff_ne.2 h, beq_eq_false_iff_ne.2 (Ne.symm h)]
        have e2 : ((46 : UInt8) == y) = (some y == some 46) := by
          by_cases h : y = 46
          · subst h; rfl
          · rw [beq_eq_false_iff_ne.2 (fun e => h (Option.some.inj e)), beq_eq_false_iff_ne.2 (Ne.symm h)]
        rw [e1, e2]
    rw [hp]
    cases hb : (x == 46 && l.head? == some 46) with
    | true => simp
    | false =>
      simp only [Bool.false_eq_true, if_false, Bool.not_false, Bool.true_and]
      rw [← ih]
      by_cases h : Lib.index l [46, 46] = -1
      · rw [h]; rfl
      · rw [if_neg (by rw [beq_iff_eq]; exact h)]
        exact decide_eq_decide.2 (by omega)

theorem decode_low (s : ByteArray) (pos : Nat) (h : pos < s.data.toList.length) (hb : (s.data.toList[pos]).toNat < 128) : Utf8.decode s pos = ((s.data.toList[pos]).toNat, 1) := by
  have e := Lib.decode_N s pos
  rw [e, show s.data.toList.getD pos 0 = s.data.toList[pos] from by rw [List.getD_eq_getElem?_getD, List.getElem?_eq_getElem h]; rfl]
  exact Lib.decodeN_ascii _ _ _ _ _ hb
theorem decodeN_128 (n b0 b1 b2 b3 : Nat) (h : 128 ≤ b0) : 128 ≤ (Lib.decodeN n b0 b1 b2 b3).1 := by
  unfold Lib.decodeN
  repeat' split
  all_goals (simp only; omega)
theorem decode_128 (s : ByteArray) (pos : Nat) (h : pos < s.data.toList.length) (hb : 128 ≤ (s.data.toList[pos]).toNat) : 128 ≤ (Utf8.decode s pos).1 := by
  rw [Lib.decode_N s pos, show s.data.toList.getD pos 0 = s.data.toList[pos] from by rw [List.getD_eq_getElem?_getD, List.getElem?_eq_getElem h]; rfl]
  exact decodeN_128 _ _ _ _ _ hb
/-- Only bytes of a kind: what indexFunc tells. -/
theorem only_all (m : Nat → Bool) (hm : ∀ r, 128 ≤ r → m r = false) (s : ByteArray) : ∀ (f pos : Nat), s.size ≤ pos + f →
    decide (Lib.idxFuncFrom (fun r => !m r) true s f pos < 0) = (s.data.toList.drop pos).all fun c => m c.toNat := by
  have hl : s.data.toList.length = s.size := by rw [Array.length_toList]; rfl
  intro f
  induction f with
  | zero =>
    intro pos h
    rw [List.drop_of_length_le (by omega)]
    rfl
  | succ f ih =>
    intro pos h
    unfold Lib.idxFuncFrom
    by_cases hp : pos < s.size
    · have hp' : pos < s.data.toList.length := by omega
      rw [if_pos hp, List.drop_eq_getElem_cons hp', List.all_cons]
      by_cases hb : (s.data.toList[pos]).toNat < 128
      · rw [decode_low s pos hp' hb]
        simp only
        cases hc : m (s.data.toList[pos]).toNat with
        | true =>
          simp only [Bool.not_true, Bool.false_eq_true, if_false, Bool.true_and]
          exact ih (pos + 1) (by omega)
        | false =>
          simp only [Bool.not_false, if_true, Bool.false_and]
          exact decide_eq_false (by omega)
      · have h1 := decode_128 s pos hp' (by omega)
        rw [hm _ h1, hm _ (by omega)]
        simp only [Bool.not_false, if_true, Bool.false_and]
        exact decide_eq_false (by omega)
    · rw [if_neg hp, List.drop_of_length_le (by omega)]
      rfl
theorem only_eq (m : Nat → Bool) (hm : ∀ r, 128 ≤ r → m r = false) (s : ByteArray) : decide (Lib.idxFunc (fun r => !m r) true s < 0) = s.data.toList.all fun c => m c.toNat := by
  have h := only_all m hm s s.size 0 (by omega)
  rwa [List.drop_zero] at h
theorem digN_high (r : Nat) (h : 128 ≤ r) : digN r = false := by unfold digN; rw [decide_eq_false (show ¬ r ≤ 57 by omega), Bool.and_false]
theorem letN_high (r : Nat) (h : 128 ≤ r) : letN r = false := by unfold letN; rw [digN_high r h, decide_eq_false (show ¬ r ≤ 122 by omega), Bool.and_false]; rfl
theorem nmN_high (r : Nat) (h : 128 ≤ r) : nmN r = false := by unfold nmN; rw [letN_high r h, decide_eq_false (show ¬ r = 95 by omega), decide_eq_false (show ¬ r = 45 by omega), decide_eq_false (show ¬ r = 46 by omega)]; rfl
theorem lbN_high (r : Nat) (h : 128 ≤ r) : lbN r = false := by unfold lbN; rw [letN_high r h, decide_eq_false (show ¬ r = 45 by omega)]; rfl
end Go.Proofs.YtbeoegppldjpoaaDoor
