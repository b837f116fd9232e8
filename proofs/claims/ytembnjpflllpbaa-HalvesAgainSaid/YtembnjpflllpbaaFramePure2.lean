/- What is written is read: records of layer 4, plain Lean. -/
import Derived.Test.YtembnjpflllpbaaFramePure
import Derived.Test.YtembnjpflllpbaaZeros
namespace Go.Proofs.Ytembnjpflllpbaa
set_option linter.unusedVariables false

theorem bAt_left {p q : ByteArray} {i : Nat} (h : i < p.size) : bAt (p ++ q) i = bAt p i := by
  unfold bAt
  have hl : p.data.toList.length = p.size := by rw [Array.length_toList]; rfl
  rw [ByteArray.data_append, Array.toList_append, List.getD_eq_getElem?_getD, List.getD_eq_getElem?_getD, List.getElem?_append_left (by omega)]
theorem bAt_right {p q : ByteArray} {i : Nat} (h : p.size ≤ i) : bAt (p ++ q) i = bAt q (i - p.size) := by
  unfold bAt
  have hl : p.data.toList.length = p.size := by rw [Array.length_toList]; rfl
  rw [ByteArray.data_append, Array.toList_append, List.getD_eq_getElem?_getD, List.getD_eq_getElem?_getD, List.getElem?_append_right (by omega), hl]
theorem bAt_zeros (m i : Nat) : bAt (zerosB m) i = 0 := by
  unfold bAt zerosB
  rw [Array.toList_replicate, List.getD_eq_getElem?_getD, List.getElem?_replicate]
  split <;> rfl
theorem bAt_extract {p : ByteArray} {k i : Nat} (h : i < k) : bAt (p.extract 0 k) i = bAt p i := by
  unfold bAt
  simp only [ByteArray.data_extract, Array.toList_extract, List.extract_eq_take_drop, List.drop_zero, Nat.sub_zero]
  rw [List.getD_eq_getElem?_getD, List.getD_eq_getElem?_getD, List.getElem?_take, if_pos h]
theorem extract_right (p q : ByteArray) : (p ++ q).extract p.size (p ++ q).size = q := by
  have hl : p.data.toList.length = p.size := by rw [Array.length_toList]; rfl
  have hq : q.data.toList.length = q.size := by rw [Array.length_toList]; rfl
  apply ByteArray.ext
  apply Array.toList_inj.1
  simp only [ByteArray.data_extract, ByteArray.data_append, Array.toList_extract, Array.toList_append, List.extract_eq_take_drop, ByteArray.size_append]
  rw [List.drop_left' hl, List.take_of_length_le (by omega)]
theorem extract_left (p q : ByteArray) : (p ++ q).extract 0 p.size = p := by
  have hl : p.data.toList.length = p.size := by rw [Array.length_toList]; rfl
  apply ByteArray.ext
  apply Array.toList_inj.1
  simp only [ByteArray.data_extract, ByteArray.data_append, Array.toList_extract, Array.toList_append, List.extract_eq_take_drop, List.drop_zero, Nat.sub_zero]
  exact List.take_left' hl

theorem wrap_list {x : ByteArray} (h1 : 1 ≤ x.size) (h2 : x.size ≤ 32768) (y : ByteArray) :
    (wrapB x ++ y).data.toList = 165 :: UInt8.ofNat x.size :: UInt8.ofNat (x.size / 256) :: UInt8.ofNat (crcSum x) :: UInt8.ofNat (crcSum x / 256) :: UInt8.ofNat (crcSum x / 65536) :: UInt8.ofNat (crcSum x / 16777216) :: (x.data.toList ++ (90 :: y.data.toList)) := by
  rw [wrapB_in h1 h2]
  simp [headB, bytes4, endB]
theorem next_wrap {x : ByteArray} (h1 : 1 ≤ x.size) (h2 : x.size ≤ 32768) (y : ByteArray) : nextB (wrapB x ++ y) = some (x, x.size + 8) := by
  have hL := wrap_list h1 h2 y
  have hw := wrapB_size x
  rw [fsize_in (by omega) (by omega)] at hw
  have hsz : (wrapB x ++ y).size = x.size + 8 + y.size := by rw [ByteArray.size_append]; omega
  have hxl : x.data.toList.length = x.size := by rw [Array.length_toList]; rfl
  have a0 : bAt (wrapB x ++ y) 0 = 165 := by unfold bAt; rw [hL]; rfl
  have a1 : bAt (wrapB x ++ y) 1 = x.size % 256 := by
    unfold bAt; rw [hL]
    show (UInt8.ofNat x.size).toNat = _
    rw [UInt8.toNat_ofNat']
  have a2 : bAt (wrapB x ++ y) 2 = x.size / 256 := by
    unfold bAt; rw [hL]
    show (UInt8.ofNat (x.size / 256)).toNat = _
    rw [UInt8.toNat_ofNat']
    omega
  have hlen : lenB (wrapB x ++ y) = x.size := by unfold lenB; rw [a1, a2]; omega
  have a9 : bAt (wrapB x ++ y) (x.size + 7) = 90 := by
    unfold bAt; rw [hL, List.getD_eq_getElem?_getD]
    simp only [List.getElem?_cons_succ]
    rw [List.getElem?_append_right (by omega), hxl, Nat.sub_self]
    rfl
  have e1 : (wrapB x ++ y).extract 7 (7 + x.size) = x := by
    apply ByteArray.ext
    apply Array.toList_inj.1
    simp only [ByteArray.data_extract, Array.toList_extract, List.extract_eq_take_drop]
    rw [hL]
    simp only [List.drop_succ_cons, List.drop_zero, show 7 + x.size - 7 = x.size from by omega]
    exact List.take_left' hxl
  have e2 : (wrapB x ++ y).extract 3 7 = bytes4 (crcSum x) := by
    apply ByteArray.ext
    apply Array.toList_inj.1
    simp only [ByteArray.data_extract, Array.toList_extract, List.extract_eq_take_drop]
    rw [hL]
    rfl
  rw [nextB_some ⟨by omega, a0, by omega, by omega, by omega, by rw [hlen]; exact a9, by rw [hlen, e1]; exact e2⟩, hlen, e1]
theorem next_first {s : ByteArray} (h : bAt s 0 ≠ 165) : nextB s = none := nextB_none (fun ho => h ho.2.1)
theorem next_empty : nextB ⟨#[]⟩ = none := nextB_none (fun ho => absurd ho.1 (by decide))

/-- Texts that have records. -/
def Fits (l : List ByteArray) : Prop := ∀ x, x ∈ l → 1 ≤ x.size ∧ x.size ≤ 32768
def endsB : List ByteArray → Nat → List (ByteArray × Nat)
  | [], _ => []
  | x :: l, a => (x, a + (x.size + 8)) :: endsB l (a + (x.size + 8))
theorem endsB_texts : ∀ (l : List ByteArray) (a : Nat), (endsB l a).map (·.1) = l := by
  intro l
  induction l with
  | nil => intro a; rfl
  | cons x l ih => intro a; rw [endsB, List.map_cons, ih]
theorem scan_all : ∀ (l : List ByteArray) (pre rest : ByteArray), Fits l → nextB rest = none → scanAt (pre ++ (allB l ++ rest)) pre.size = endsB l pre.size := by
  intro l
  induction l with
  | nil =>
    intro pre rest _ hr
    rw [allB, nil_bapp, scanAt_none (by rw [extract_right]; exact hr)]
    rfl
  | cons x l ih =>
    intro pre rest hl hr
    obtain ⟨h1, h2⟩ := hl x (by simp)
    have hw := wrapB_size x
    rw [fsize_in (by omega) (by omega)] at hw
    have hn : nextB ((pre ++ (allB (x :: l) ++ rest)).extract pre.size (pre ++ (allB (x :: l) ++ rest)).size) = some (x, x.size + 8) := by
      rw [extract_right, allB, bapp_assoc]
      exact next_wrap h1 h2 _
    rw [scanAt_some hn]
    have e : pre ++ (allB (x :: l) ++ rest) = (pre ++ wrapB x) ++ (allB l ++ rest) := by rw [allB, bapp_assoc, bapp_assoc]
    have es : pre.size + (x.size + 8) = (pre ++ wrapB x).size := by rw [ByteArray.size_append]; omega
    rw [endsB, e, es, ih (pre ++ wrapB x) rest (fun y hy => hl y (by simp [hy])) hr]
theorem lastOf_ends : ∀ (l : List ByteArray) (a : Nat), Fits l → List.foldl (fun _ (x : ByteArray × Nat) => x.2) a (endsB l a) = a + (allB l).size := by
  intro l
  induction l with
  | nil => intro a _; rfl
  | cons x l ih =>
    intro a hl
    obtain ⟨h1, h2⟩ := hl x (by simp)
    have hw := wrapB_size x
    rw [fsize_in (by omega) (by omega)] at hw
    rw [endsB, List.foldl_cons, ih _ (fun y hy => hl y (by simp [hy])), allB, ByteArray.size_append]
    omega
theorem texts_all {l : List ByteArray} {rest : ByteArray} (hl : Fits l) (hr : nextB rest = none) : textsB (allB l ++ rest) = l ∧ endOf (allB l ++ rest) = (allB l).size := by
  have h := scan_all l ⟨#[]⟩ rest hl hr
  rw [nil_bapp] at h
  have h' : scanAt (allB l ++ rest) 0 = endsB l 0 := h
  unfold textsB endOf lastOf
  rw [h', endsB_texts, lastOf_ends l 0 hl, Nat.zero_add]
  exact ⟨rfl, rfl⟩
theorem texts_all0 {l : List ByteArray} (hl : Fits l) : textsB (allB l) = l ∧ endOf (allB l) = (allB l).size := by
  have := texts_all hl next_empty
  rwa [bapp_nil] at this

/-- A record that is not there to its last byte is none. -/
theorem next_torn {t : ByteArray} {k : Nat} (h1 : 1 ≤ t.size) (h2 : t.size ≤ 80) (hk : k < (wrapB t).size) : nextB ((wrapB t).extract 0 k ++ zerosB 100) = none := by
  have hw := wrapB_size t
  rw [fsize_in (by omega) (by omega)] at hw
  have hL := wrap_list h1 (by omega) ⟨#[]⟩
  rw [bapp_nil] at hL
  have a1 : bAt (wrapB t) 1 = t.size := by
    unfold bAt; rw [hL]
    show (UInt8.ofNat t.size).toNat = _
    rw [UInt8.toNat_ofNat']
    omega
  have a2 : bAt (wrapB t) 2 = 0 := by
    unfold bAt; rw [hL]
    show (UInt8.ofNat (t.size / 256)).toNat = _
    rw [UInt8.toNat_ofNat']
    omega
  have hkz : ((wrapB t).extract 0 k).size = k := by rw [ByteArray.size_extract]; omega
  have hlow : ∀ i, i < k → bAt ((wrapB t).extract 0 k ++ zerosB 100) i = bAt (wrapB t) i := fun i hi => by rw [bAt_left (by omega), bAt_extract hi]
  have hhigh : ∀ i, k ≤ i → bAt ((wrapB t).extract 0 k ++ zerosB 100) i = 0 := fun i hi => by rw [bAt_right (by omega), bAt_zeros]
  refine nextB_none ?_
  rintro ⟨_, b0, b1, _, _, b9, _⟩
  by_cases k0 : k = 0
  · rw [hhigh 0 (by omega)] at b0
    cases b0
  have hlen : lenB ((wrapB t).extract 0 k ++ zerosB 100) = if k = 1 then 0 else t.size := by
    unfold lenB
    by_cases k1 : k = 1
    · rw [if_pos k1, hhigh 1 (by omega), hhigh 2 (by omega)]
    · rw [if_neg k1, hlow 1 (by omega), a1]
      by_cases k2 : k = 2
      · rw [hhigh 2 (by omega)]; omega
      · rw [hlow 2 (by omega), a2]; omega
  by_cases k1 : k = 1
  · rw [if_pos k1] at hlen
    omega
  · rw [if_neg k1] at hlen
    rw [hlen, hhigh _ (by omega)] at b9
    cases b9

/-- At most 6 texts, of 80 bytes each, none empty. -/
def dashB (s : ByteArray) : ByteArray := if s.size = 0 then ⟨#[45]⟩ else s
def few04B (l : List ByteArray) : List ByteArray := (l.take 6).map fun s => dashB (shortB s 80)
theorem dashB_size (s : ByteArray) : 1 ≤ (dashB (shortB s 80)).size ∧ (dashB (shortB s 80)).size ≤ 80 := by
  have h := shortB_size s 80
  unfold dashB
  split
  · decide
  · omega
theorem few04_fits (l : List ByteArray) : Fits (few04B l) ∧ (∀ x, x ∈ few04B l → x.size ≤ 80) ∧ (few04B l).length ≤ 6 := by
  refine ⟨fun x hx => ?_, fun x hx => ?_, by unfold few04B; rw [List.length_map, List.length_take]; omega⟩
  · obtain ⟨s, _, rfl⟩ := List.mem_map.1 hx
    have := dashB_size s
    omega
  · obtain ⟨s, _, rfl⟩ := List.mem_map.1 hx
    exact (dashB_size s).2

end Go.Proofs.Ytembnjpflllpbaa
