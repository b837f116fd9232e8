/- The chapter's example. -/
import Derived.Test.YtembnjpflllpbaaHSnap
import Derived.Test.YtembnjpflllpbaaDiskPure
import Derived.Test.YtembnjpflllpbaaProg
import Derived.Test.YtembnjpflllpbaaRows2
/- A log on a disk's bytes, in plain Lean: what a half that begins with records holds; what writes, and torn writes, leave. -/
namespace Go.Proofs.Ytembnjpflllpbaa
open Go.RowKit
set_option linter.unusedVariables false
set_option linter.unusedSimpArgs false

/-! ### records, and torn ones -/
theorem zeros_none (n : Nat) : nextB (zerosB n) = none := next_first (by rw [bAt_zeros]; decide)
theorem torn_none {t : ByteArray} {k m : Nat} (h1 : 1 ≤ t.size) (h2 : t.size ≤ 80) (hk : k < (wrapB t).size) : nextB ((wrapB t).extract 0 k ++ zerosB m) = none := by
  have hw := wrapB_size t
  rw [fsize_in (by omega) (by omega)] at hw
  have hL := wrap_list h1 (by omega) ⟨#[]⟩
  rw [bapp_nil] at hL
  have a1 : bAt (wrapB t) 1 = t.size := by
    unfold bAt; rw [hL]
    show (UInt8.ofNat t.size).toNat = _
    rw [UInt8.toNat_ofNat']
    omega
  have a2 : bAt (wrapB t) 2 = 0 := by
    unfold bAt; rw [hL]
    show (UInt8.ofNat (t.size / 256)).toNat = _
    rw [UInt8.toNat_ofNat']
    omega
  have hkz : ((wrapB t).extract 0 k).size = k := by rw [ByteArray.size_extract]; omega
  have hlow : ∀ i, i < k → bAt ((wrapB t).extract 0 k ++ zerosB m) i = bAt (wrapB t) i := fun i hi => by rw [bAt_left (by omega), bAt_extract hi]
  have hhigh : ∀ i, k ≤ i → bAt ((wrapB t).extract 0 k ++ zerosB m) i = 0 := fun i hi => by rw [bAt_right (by omega), bAt_zeros]
  refine nextB_none ?_
  rintro ⟨_, b0, b1, _, _, b9, _⟩
  by_cases k0 : k = 0
  · rw [hhigh 0 (by omega)] at b0
    cases b0
  have hlen : lenB ((wrapB t).extract 0 k ++ zerosB m) = if k = 1 then 0 else t.size := by
    unfold lenB
    by_cases k1 : k = 1
    · rw [if_pos k1, hhigh 1 (by omega), hhigh 2 (by omega)]
    · rw [if_neg k1, hlow 1 (by omega), a1]
      by_cases k2 : k = 2
      · rw [hhigh 2 (by omega)]; omega
      · rw [hlow 2 (by omega), a2]; omega
  by_cases k1 : k = 1
  · rw [if_pos k1] at hlen
    omega
  · rw [if_neg k1] at hlen
    rw [hlen, hhigh _ (by omega)] at b9
    cases b9
theorem head_read (ep : Nat) (sn : ByteArray) (rs : List ByteArray) (en : Nat) (h1 : 1 ≤ ep) (h2 : ep < 18446744073709551616) (hs : sn.size ≤ 32768) : headR (headS ep sn :: rs) en = ⟨ep, sn, rs, en⟩ := by
  have e1 : pNum (some (headS ep sn)) 18446744073709551615 = (ep, some (txtB sn)) := pNum_wrote ep 18446744073709551615 (txtB sn) h2 (by omega)
  have e2 := pText_wrote sn ⟨#[]⟩ 32768 (by decide) (by omega) (by omega)
  rw [app_nil] at e2
  have h0 : ¬ ep = 0 := by omega
  simp [headR, e1, e2, pEnd, h0]
  exact fun h => absurd rfl h
theorem look_on {ep : Nat} {sn : ByteArray} {rs : List ByteArray} {rest : ByteArray} (h1 : 1 ≤ ep) (h2 : ep < 18446744073709551616) (hs : sn.size ≤ 32768) (hf : Fits (headS ep sn :: rs)) (hr : nextB rest = none) :
    lookB (allB (headS ep sn :: rs) ++ rest) = ⟨ep, sn, rs, (allB (headS ep sn :: rs)).size⟩ := by
  obtain ⟨e1, e2⟩ := texts_all hf hr
  rw [lookB, e1, e2, head_read ep sn rs _ h1 h2 hs]
theorem look_none {b : ByteArray} (h : nextB b = none) : (lookB b).en = 0 := by
  have h0 : scanAt b 0 = [] := scanAt_none (by rw [show b.extract 0 b.size = b from ByteArray.extract_zero_size]; exact h)
  rw [lookB, textsB, h0]
  rfl
/-! ### bytes -/
theorem zext {b : ByteArray} {p : ByteArray} {m : Nat} (hs : b.size = p.size + m) (h : ∀ i, i < b.size → gB b i = if i < p.size then gB p i else 0) : b = p ++ zerosB m := by
  refine gB_ext (by rw [ByteArray.size_append, zerosB_size]; exact hs) fun i hi => ?_
  rw [ByteArray.size_append, zerosB_size] at hi
  rw [h i (by omega), gB_app]
  split
  · rfl
  · rw [zerosB, gB_zeros]
theorem gB_zb (m i : Nat) : gB (zerosB m) i = 0 := by rw [zerosB, gB_zeros]
/-- A text is written behind p, and zeros behind it stay. -/
theorem ov_put {p s : ByteArray} {m : Nat} (h : s.size ≤ m) : ovB (p ++ zerosB m) p.size s = (p ++ s) ++ zerosB (m - s.size) := by
  have hz : (p ++ zerosB m).size = p.size + m := by rw [ByteArray.size_append, zerosB_size]
  refine zext (by rw [ovB_size (by omega), hz, ByteArray.size_append]; omega) fun i hi => ?_
  rw [gB_ov (by omega), ByteArray.size_append]
  by_cases h1 : p.size ≤ i ∧ i < p.size + s.size
  · rw [if_pos h1, if_pos (by omega), gB_app, if_neg (by omega)]
  · rw [if_neg h1, gB_app]
    by_cases h2 : i < p.size
    · rw [if_pos h2, if_pos (by omega), gB_app, if_pos h2]
    · rw [if_neg h2, gB_zb, if_neg (by omega)]
/-- The bytes behind p are turned to 0. -/
theorem ov_tail {p q : ByteArray} : ovB (p ++ q) p.size (zerosB q.size) = p ++ zerosB q.size := by
  have hz : (p ++ q).size = p.size + q.size := ByteArray.size_append
  have h0 := zerosB_size q.size
  refine zext (by rw [ovB_size (by omega), hz]) fun i hi => ?_
  rw [gB_ov (by omega), gB_app]
  rw [ovB_size (by omega)] at hi
  by_cases h1 : i < p.size
  · rw [if_neg (by omega), if_pos h1, if_pos h1]
  · rw [if_pos (by omega), gB_zb, if_neg h1]
/-- The halves of a disk's bytes. -/
def hfB (st : ByteArray) (n h : Nat) : ByteArray := st.extract (h * n) (h * n + n)
theorem hfB_size {st : ByteArray} {n h : Nat} (hn : n * 2 ≤ st.size) (hh : h ≤ 1) : (hfB st n h).size = n := by
  have : h * n ≤ 1 * n := Nat.mul_le_mul_right _ hh
  rw [hfB, ByteArray.size_extract]
  omega
theorem gB_hf {st : ByteArray} {n h i : Nat} (hi : i < n) : gB (hfB st n h) i = gB st (h * n + i) := by
  rw [hfB, gB_cut, if_pos (by omega)]
theorem hf_same {st s : ByteArray} {n h off : Nat} (hn : n * 2 ≤ st.size) (hh : h ≤ 1) (ho : off + s.size ≤ n) : hfB (ovB st (h * n + off) s) n h = ovB (hfB st n h) off s := by
  have h1 : h * n ≤ 1 * n := Nat.mul_le_mul_right _ hh
  have hs := ovB_size (t := st) (off := h * n + off) (s := s) (by omega)
  have hz := hfB_size hn hh
  refine gB_ext ?_ fun i hi => ?_
  · rw [hfB_size (by rw [hs]; exact hn) hh, ovB_size (by omega), hz]
  · rw [ovB_size (by omega), hz] at hi
    rw [gB_hf hi, gB_ov (by omega), gB_ov (by omega), gB_hf hi]
    by_cases h2 : off ≤ i ∧ i < off + s.size
    · rw [if_pos (by omega), if_pos h2]
      congr 1
      omega
    · rw [if_neg (by omega), if_neg h2]
theorem hf_other {st s : ByteArray} {n h off : Nat} (hn : n * 2 ≤ st.size) (hh : h ≤ 1) (ho : off + s.size ≤ n) : hfB (ovB st (h * n + off) s) n (1 - h) = hfB st n (1 - h) := by
  have h1 : h * n ≤ 1 * n := Nat.mul_le_mul_right _ hh
  have hs := ovB_size (t := st) (off := h * n + off) (s := s) (by omega)
  refine gB_ext ?_ fun i hi => ?_
  · rw [hfB_size (by rw [hs]; exact hn) (by omega), hfB_size hn (by omega)]
  · rw [hfB_size hn (by omega)] at hi
    rw [hfB, hfB, gB_cut, gB_cut]
    split
    · rw [gB_ov (by omega), if_neg]
      rcases Nat.eq_zero_or_pos h with rfl | hp
      · simp; omega
      · obtain rfl : h = 1 := by omega
        simp; omega
    · rfl
end Go.Proofs.Ytembnjpflllpbaa

/- What a log's steps leave on a disk, in plain Lean. -/
namespace Go.Proofs.Ytembnjpflllpbaa
open Go.RowKit
set_option linter.unusedVariables false
set_option linter.unusedSimpArgs false

/-- A disk on which all is synced. -/
def DSt.clean (D : DSt) : Prop := D.wl = [] ∧ D.bad = false ∧ 0 ≤ D.left
theorem clean_now {D : DSt} (h : D.clean) : D.now = D.st := by rw [DSt.now, h.1]; rfl
theorem clean_half {D : DSt} (h : D.clean) (k : Nat) : D.half k = hfB D.st D.n k := by rw [DSt.half, clean_now h]; rfl
theorem stepL_nn (x : Int) : 0 ≤ stepL x := by unfold stepL; split <;> omega
/-- A write, and a sync, of a disk that may break. -/
theorem putS_at {D : DSt} (hc : D.clean) {k : Nat} {s : ByteArray} (hk : k + s.size ≤ D.st.size) :
    putS (k : Int) s D = if D.left = 1 ∨ D.left = 2 then (⟨D.st, [(k, s)], 0, true⟩, 18) else (⟨ovB D.st k s, [], stepL (stepL D.left), false⟩, 0) := by
  obtain ⟨st, wl, left, bad⟩ := D
  obtain ⟨h1, h2, h3⟩ := hc
  simp only at h1 h2 h3 hk ⊢
  subst h1 h2
  have hw : wrS ⟨st, [], left, false⟩ k s = (⟨st, [(k, s)], stepL left, stepB left false⟩, if stepB left false then 18 else 0) := by
    rw [wrS, if_pos (show mayS _ _ _ from ⟨by omega, by omega, by show (k : Int) ≤ (st.size : Int) - s.size; omega⟩), if_neg (by simp)]
    simp
  have hb : stepB left false = decide (left = 1) := by
    unfold stepB
    rw [Bool.false_or]
    rfl
  rw [putS, seqS]
  (try simp only)
  rw [hw, hb]
  (try simp only)
  by_cases l1 : left = 1
  · subst l1
    simp [stepL]
  · rw [decide_eq_false l1]
    simp only [Bool.false_eq_true, if_false, if_true]
    rw [seqS_one, syS]
    simp only [Bool.false_eq_true, if_false]
    by_cases l2 : left = 2
    · subst l2
      rw [if_pos (by rfl), if_pos (.inr rfl)]
    · have h4 : ¬ stepL left = 1 := by unfold stepL; split <;> omega
      rw [if_neg h4, if_neg (by omega)]
      rfl
theorem cr_one (st : ByteArray) (k : Nat) (s : ByteArray) (left : Int) (bad : Bool) (keep : Int) : (crS ⟨st, [(k, s)], left, bad⟩ keep).1 = ⟨ovB st k (s.extract 0 (min keep.toNat s.size)), [], 0, false⟩ := rfl
theorem cr_nil (st : ByteArray) (left : Int) (bad : Bool) (keep : Int) : (crS ⟨st, [], left, bad⟩ keep).1 = ⟨st, [], 0, false⟩ := rfl
/-- A log is on a disk: its half begins with its records, all behind them is 0; the other half is elder, or none. -/
structure LogIs (D : DSt) (l : LSt) (sn : ByteArray) (rs : List ByteArray) : Prop where
  cl : D.clean
  lb : l.bad = false
  hf : l.half ≤ 1
  ep1 : 1 ≤ l.ep
  ep2 : l.ep < 18446744073709551616
  fits : Fits (headS l.ep sn :: rs)
  snz : sn.size ≤ 32768
  enz : l.en = (allB (headS l.ep sn :: rs)).size
  le : l.en ≤ D.n
  this : hfB D.st D.n l.half = allB (headS l.ep sn :: rs) ++ zerosB (D.n - l.en)
  oth : (lookB (hfB D.st D.n (1 - l.half))).en = 0 ∨ (lookB (hfB D.st D.n (1 - l.half))).ep < l.ep
theorem n_two (D : DSt) : D.n * 2 ≤ D.st.size := by unfold DSt.n; omega
/-- Which half is the newest. -/
theorem newest_is {D : DSt} (hc : D.clean) {h : Nat} (hh : h ≤ 1) {x : Hd} (hx : lookB (hfB D.st D.n h) = x) (h0 : x.en ≠ 0) (ho : (lookB (hfB D.st D.n (1 - h))).en = 0 ∨ (lookB (hfB D.st D.n (1 - h))).ep < x.ep) :
    newestS D = (h, x) := by
  rw [newestS, clean_half hc, clean_half hc]
  rcases Nat.eq_zero_or_pos h with rfl | hp
  · rw [hx]
    have hs : stepH 0 x (0, noHd) = (0, x) := by
      rw [stepH, if_neg]
      simp [skipH, h0, noHd]
    rw [hs, stepH, if_pos]
    simp only [Nat.sub_zero] at ho
    simp only [skipH, Bool.or_eq_true, Bool.and_eq_true, decide_eq_true_eq]
    rcases ho with h | h
    · exact .inl h
    · exact .inr ⟨by omega, by omega⟩
  · obtain rfl : h = 1 := by omega
    rw [hx]
    simp only [Nat.sub_self] at ho
    generalize lookB (hfB D.st D.n 0) = y at *
    rw [stepH, if_neg]
    unfold stepH
    split
    · simp [skipH, h0, noHd]
    · rename_i hn
      simp only [skipH, Bool.or_eq_true, Bool.and_eq_true, decide_eq_true_eq, noHd] at hn ⊢
      omega
theorem LogIs.look {D : DSt} {l : LSt} {sn : ByteArray} {rs : List ByteArray} (h : LogIs D l sn rs) : lookB (hfB D.st D.n l.half) = ⟨l.ep, sn, rs, l.en⟩ := by
  rw [h.this, look_on h.ep1 h.ep2 h.snz h.fits (zeros_none _), ← h.enz]
theorem allB_pos {x : ByteArray} {l : List ByteArray} (h : Fits (x :: l)) : 9 ≤ (allB (x :: l)).size := by
  have h1 := h x (.head _)
  have h2 := wrapB_size x
  rw [fsize_in (by omega) (by omega)] at h2
  rw [allB, ByteArray.size_append]
  omega
theorem LogIs.pos {D : DSt} {l : LSt} {sn : ByteArray} {rs : List ByteArray} (h : LogIs D l sn rs) : 9 ≤ l.en := by
  rw [h.enz]
  exact allB_pos h.fits
theorem LogIs.newest {D : DSt} {l : LSt} {sn : ByteArray} {rs : List ByteArray} (h : LogIs D l sn rs) : newestS D = (l.half, ⟨l.ep, sn, rs, l.en⟩) :=
  newest_is h.cl h.hf h.look (by have := h.pos; show l.en ≠ 0; omega) h.oth
/-- What Open does of a half that begins with a log's records, whatever stands behind them. -/
theorem open_is {D : DSt} (hc : D.clean) (hl : D.left = 0) {l : LSt} {sn : ByteArray} {rs : List ByteArray} {rest : ByteArray} (lb : l.bad = false) (hf : l.half ≤ 1) (ep1 : 1 ≤ l.ep) (ep2 : l.ep < 18446744073709551616) (fits : Fits (headS l.ep sn :: rs)) (hsn : sn.size ≤ 32768)
    (en : l.en = (allB (headS l.ep sn :: rs)).size) (hthis : hfB D.st D.n l.half = allB (headS l.ep sn :: rs) ++ rest) (hr : nextB rest = none) (oth : (lookB (hfB D.st D.n (1 - l.half))).en = 0 ∨ (lookB (hfB D.st D.n (1 - l.half))).ep < l.ep) :
    newestS D = (l.half, ⟨l.ep, sn, rs, l.en⟩) ∧ (tailS D).2 = 0 ∧ (tailS D).1.left = 0 ∧ (tailS D).1.st.size = D.st.size ∧ LogIs (tailS D).1 l sn rs := by
  have hn := n_two D
  have hlk : lookB (hfB D.st D.n l.half) = ⟨l.ep, sn, rs, l.en⟩ := by rw [hthis, look_on ep1 ep2 hsn fits hr, ← en]
  have hps := allB_pos fits
  have hnw : newestS D = (l.half, ⟨l.ep, sn, rs, l.en⟩) := newest_is hc hf hlk (by show l.en ≠ 0; omega) oth
  have hsz := hfB_size hn hf
  have hrs : l.en + rest.size = D.n := by rw [hthis, ByteArray.size_append, ← en] at hsz; exact hsz
  have hhn : l.half * D.n ≤ 1 * D.n := Nat.mul_le_mul_right _ hf
  have ht : tailS D = (⟨ovB D.st (l.half * D.n + l.en) (zerosB (D.n - l.en)), [], 0, false⟩, 0) := by
    rw [tailS, hnw]
    simp only
    rw [putS_at hc (by rw [zerosB_size]; omega), if_neg (by omega), hl]
    rfl
  have hst : (ovB D.st (l.half * D.n + l.en) (zerosB (D.n - l.en))).size = D.st.size := ovB_size (by rw [zerosB_size]; omega)
  have hnn : (⟨ovB D.st (l.half * D.n + l.en) (zerosB (D.n - l.en)), [], 0, false⟩ : DSt).n = D.n := by show _ / 2 = _; rw [hst]; rfl
  rw [ht]
  refine ⟨hnw, rfl, rfl, hst, ⟨⟨rfl, rfl, by simp⟩, lb, hf, ep1, ep2, fits, hsn, en, by rw [hnn]; omega, ?_, ?_⟩⟩
  · rw [hnn, hf_same hn hf (by rw [zerosB_size]; omega), hthis, en, show D.n - (allB (headS l.ep sn :: rs)).size = rest.size by omega]
    exact ov_tail
  · rw [hnn, hf_other hn hf (by rw [zerosB_size]; omega)]
    exact oth
end Go.Proofs.Ytembnjpflllpbaa

/- What appends and snapshots leave, of a disk that may break, and behind a crash, in plain Lean. -/
namespace Go.Proofs.Ytembnjpflllpbaa
open Go.RowKit
set_option linter.unusedVariables false
set_option linter.unusedSimpArgs false

theorem wrap_sz {s : ByteArray} (h1 : 1 ≤ s.size) (h2 : s.size ≤ 32768) : (wrapB s).size = s.size + 8 := by
  have := wrapB_size s
  rw [fsize_in (by omega) (by omega)] at this
  omega
theorem allB_snoc (l : List ByteArray) (s : ByteArray) : allB (l ++ [s]) = allB l ++ wrapB s := by
  rw [allB_app, allB, allB, bapp_nil]
theorem fits_snoc {l : List ByteArray} {s : ByteArray} (h : Fits l) (h1 : 1 ≤ s.size) (h2 : s.size ≤ 32768) : Fits (l ++ [s]) := fun x hx => by
  rcases List.mem_append.1 hx with h' | h'
  · exact h x h'
  · simp at h'
    subst h'
    exact ⟨h1, h2⟩
/-- Where an append writes. -/
theorem app_room {D : DSt} {l : LSt} {sn : ByteArray} {rs : List ByteArray} (h : LogIs D l sn rs) {s : ByteArray} (hr : l.en + (s.size + 8) ≤ D.n) : l.half * D.n + l.en + (s.size + 8) ≤ D.st.size := by
  have h1 : l.half * D.n ≤ 1 * D.n := Nat.mul_le_mul_right _ h.hf
  have := n_two D
  omega
theorem app_fit {D : DSt} {l : LSt} (lb : l.bad = false) {s : ByteArray} (h1 : 1 ≤ s.size) (h2 : s.size ≤ 32768) : l.fits D s.size = decide (l.en + (s.size + 8) ≤ D.n) := by
  rw [LSt.fits, LSt.room, lb, fsize_in (by omega) (by omega), decide_eq_true (by omega), Bool.true_and, if_neg (by decide)]
  exact decide_eq_decide.2 (by omega)
/-- What an append does. -/
theorem app_cases {D : DSt} {l : LSt} {sn : ByteArray} {rs : List ByteArray} (h : LogIs D l sn rs) (s : ByteArray) :
    (¬ (1 ≤ s.size ∧ s.size ≤ 32768) ∧ appS D l s = ((D, l), 1)) ∨ ((1 ≤ s.size ∧ s.size ≤ 32768) ∧ ¬ l.en + (s.size + 8) ≤ D.n ∧ appS D l s = ((D, l), 15)) ∨
    ((1 ≤ s.size ∧ s.size ≤ 32768) ∧ l.en + (s.size + 8) ≤ D.n ∧ appS D l s = if D.left = 1 ∨ D.left = 2 then ((⟨D.st, [(l.half * D.n + l.en, wrapB s)], 0, true⟩, ⟨l.half, l.ep, l.en, true⟩), 18) else ((⟨ovB D.st (l.half * D.n + l.en) (wrapB s), [], stepL (stepL D.left), false⟩, ⟨l.half, l.ep, l.en + (s.size + 8), false⟩), 0)) := by
  by_cases hin : 1 ≤ s.size ∧ s.size ≤ 32768
  · have hf0 : fsize (s.size : Int) ≠ 0 := by rw [fsize_in (by omega) (by omega)]; omega
    have hft := app_fit (D := D) h.lb hin.1 hin.2
    by_cases hr : l.en + (s.size + 8) ≤ D.n
    · refine .inr (.inr ⟨hin, hr, ?_⟩)
      rw [decide_eq_true hr] at hft
      have hp := putS_at h.cl (k := l.half * D.n + l.en) (s := wrapB s) (by rw [wrap_sz hin.1 hin.2]; exact app_room h hr)
      rw [appS, if_neg (by rw [h.lb]; decide), if_neg hf0, if_neg (by rw [hft]; decide), hp]
      by_cases hl : D.left = 1 ∨ D.left = 2
      · rw [if_pos hl, if_pos hl]
        rfl
      · rw [if_neg hl, if_neg hl]
        rfl
    · refine .inr (.inl ⟨hin, hr, ?_⟩)
      rw [decide_eq_false hr] at hft
      rw [appS, if_neg (by rw [h.lb]; decide), if_neg hf0, if_pos hft]
  · refine .inl ⟨hin, ?_⟩
    have hf0 : fsize (s.size : Int) = 0 := fsize_out (by omega)
    rw [appS, if_neg (by rw [h.lb]; decide), if_pos hf0]
/-- Behind an append that went well. -/
theorem app_is {D : DSt} {l : LSt} {sn : ByteArray} {rs : List ByteArray} (h : LogIs D l sn rs) {s : ByteArray} (hin : 1 ≤ s.size ∧ s.size ≤ 32768) (hr : l.en + (s.size + 8) ≤ D.n) (left : Int) (hleft : 0 ≤ left) :
    LogIs ⟨ovB D.st (l.half * D.n + l.en) (wrapB s), [], left, false⟩ ⟨l.half, l.ep, l.en + (s.size + 8), false⟩ sn (rs ++ [s]) := by
  have hn := n_two D
  have hw := wrap_sz hin.1 hin.2
  have hst : (ovB D.st (l.half * D.n + l.en) (wrapB s)).size = D.st.size := ovB_size (by rw [hw]; exact app_room h hr)
  have hnn : (⟨ovB D.st (l.half * D.n + l.en) (wrapB s), [], left, false⟩ : DSt).n = D.n := by show _ / 2 = _; rw [hst]; rfl
  have hall : allB (headS l.ep sn :: (rs ++ [s])) = allB (headS l.ep sn :: rs) ++ wrapB s := allB_snoc (headS l.ep sn :: rs) s
  refine ⟨⟨rfl, rfl, hleft⟩, rfl, h.hf, h.ep1, h.ep2, fits_snoc h.fits hin.1 hin.2, h.snz, ?_, by rw [hnn]; exact hr, ?_, ?_⟩
  · show l.en + (s.size + 8) = _
    rw [hall, ByteArray.size_append, ← h.enz, hw]
  · show hfB (ovB D.st (l.half * D.n + l.en) (wrapB s)) _ l.half = allB (headS l.ep sn :: (rs ++ [s])) ++ zerosB (_ - (l.en + (s.size + 8)))
    rw [hnn, hf_same hn h.hf (by rw [hw]; exact hr), h.this, hall, h.enz, ov_put (by rw [hw, ← h.enz]; omega), hw, Nat.sub_sub]
  · show (lookB (hfB (ovB D.st (l.half * D.n + l.en) (wrapB s)) _ (1 - l.half))).en = 0 ∨ (lookB (hfB (ovB D.st (l.half * D.n + l.en) (wrapB s)) _ (1 - l.half))).ep < l.ep
    rw [hnn, hf_other hn h.hf (by rw [hw]; exact hr)]
    exact h.oth
/-- What Open finds: of a clean disk. -/
structure Found (D : DSt) (l : LSt) (sn : ByteArray) (rs : List ByteArray) : Prop where
  nw : newestS D = (l.half, ⟨l.ep, sn, rs, l.en⟩)
  ok : (tailS D).2 = 0
  lf : (tailS D).1.left = 0
  sz : (tailS D).1.st.size = D.st.size
  is : LogIs (tailS D).1 l sn rs
theorem LogIs.found {D : DSt} {l : LSt} {sn : ByteArray} {rs : List ByteArray} (h : LogIs D l sn rs) (hl : D.left = 0) : Found D l sn rs := by
  obtain ⟨a, b, c, d, e⟩ := open_is h.cl hl h.lb h.hf h.ep1 h.ep2 h.fits h.snz h.enz h.this (zeros_none _) h.oth
  exact ⟨a, b, c, d, e⟩
/-- The log, whatever the steps left say. -/
theorem LogIs.left {D : DSt} {l : LSt} {sn : ByteArray} {rs : List ByteArray} (h : LogIs D l sn rs) (left : Int) (h0 : 0 ≤ left) : LogIs ⟨D.st, [], left, false⟩ l sn rs :=
  ⟨⟨rfl, rfl, h0⟩, h.lb, h.hf, h.ep1, h.ep2, h.fits, h.snz, h.enz, h.le, h.this, h.oth⟩
/-- Behind a torn append, and a crash. -/
theorem app_torn {D : DSt} {l : LSt} {sn : ByteArray} {rs : List ByteArray} (h : LogIs D l sn rs) {s : ByteArray} (hin : 1 ≤ s.size ∧ s.size ≤ 80) (hr : l.en + (s.size + 8) ≤ D.n) (j : Nat) (hj : j ≤ (wrapB s).size) :
    Found ⟨ovB D.st (l.half * D.n + l.en) ((wrapB s).extract 0 j), [], 0, false⟩ l sn rs ∨ Found ⟨ovB D.st (l.half * D.n + l.en) ((wrapB s).extract 0 j), [], 0, false⟩ ⟨l.half, l.ep, l.en + (s.size + 8), false⟩ sn (rs ++ [s]) := by
  have hw := wrap_sz hin.1 (by omega : s.size ≤ 32768)
  by_cases hjj : j = (wrapB s).size
  · subst hjj
    rw [show (wrapB s).extract 0 (wrapB s).size = wrapB s from ByteArray.extract_zero_size]
    exact .inr ((app_is h ⟨hin.1, by omega⟩ hr 0 (by omega)).found rfl)
  · left
    have hn := n_two D
    have hz : ((wrapB s).extract 0 j).size = j := by rw [ByteArray.size_extract]; omega
    have hst : (ovB D.st (l.half * D.n + l.en) ((wrapB s).extract 0 j)).size = D.st.size := ovB_size (by rw [hz]; have := app_room h hr; omega)
    have hnn : (⟨ovB D.st (l.half * D.n + l.en) ((wrapB s).extract 0 j), [], 0, false⟩ : DSt).n = D.n := by show _ / 2 = _; rw [hst]; rfl
    obtain ⟨a, b, c, d, e⟩ := open_is (D := ⟨ovB D.st (l.half * D.n + l.en) ((wrapB s).extract 0 j), [], 0, false⟩) (l := l) (sn := sn) (rs := rs) (rest := (wrapB s).extract 0 j ++ zerosB (D.n - l.en - j)) ⟨rfl, rfl, by simp⟩ rfl h.lb h.hf h.ep1 h.ep2 h.fits h.snz h.enz
      (by
        rw [hnn]
        show hfB (ovB D.st (l.half * D.n + l.en) ((wrapB s).extract 0 j)) D.n l.half = _
        rw [hf_same hn h.hf (by rw [hz]; omega), h.this, h.enz, ov_put (by rw [hz, ← h.enz]; omega), hz, bapp_assoc])
      (torn_none hin.1 hin.2 (by omega))
      (by
        rw [hnn]
        show (lookB (hfB (ovB D.st (l.half * D.n + l.en) ((wrapB s).extract 0 j)) D.n (1 - l.half))).en = 0 ∨ (lookB (hfB (ovB D.st (l.half * D.n + l.en) ((wrapB s).extract 0 j)) D.n (1 - l.half))).ep < l.ep
        rw [hf_other hn h.hf (by rw [hz]; omega)]
        exact h.oth)
    exact ⟨a, b, c, d, e⟩
end Go.Proofs.Ytembnjpflllpbaa

/- What snapshots leave, of a disk that may break, and behind a crash, in plain Lean. -/
namespace Go.Proofs.Ytembnjpflllpbaa
open Go.RowKit
set_option linter.unusedVariables false
set_option linter.unusedSimpArgs false

theorem gB_zero_none {b : ByteArray} (h : gB b 0 = 0) : nextB b = none := next_first (by
  have : bAt b 0 = (gB b 0).toNat := rfl
  rw [this, h]
  decide)
/-- The other half, wiped. -/
def wipedB (D : DSt) (l : LSt) : ByteArray := ovB D.st ((1 - l.half) * D.n) (zerosB D.n)
theorem nil_bapp' (b : ByteArray) : (⟨#[]⟩ : ByteArray) ++ b = b := nil_bapp b
theorem numB_one (n : Nat) : 1 ≤ (numB n).size := numB_pos n
theorem headS_pos (n : Nat) (s : ByteArray) : 1 ≤ (headS n s).size := by
  have := numB_one n
  rw [headS, ByteArray.size_append]
  omega
section
variable {D : DSt} {l : LSt} {sn : ByteArray} {rs : List ByteArray}
theorem wiped_facts (h : LogIs D l sn rs) : (wipedB D l).size = D.st.size ∧ hfB (wipedB D l) D.n (1 - l.half) = zerosB D.n ∧ hfB (wipedB D l) D.n l.half = hfB D.st D.n l.half := by
  have hn := n_two D
  have hh := h.hf
  have hhn : (1 - l.half) * D.n ≤ 1 * D.n := Nat.mul_le_mul_right _ (by omega)
  have h1 := hf_same (st := D.st) (s := zerosB D.n) (n := D.n) (h := 1 - l.half) (off := 0) hn (by omega) (by rw [zerosB_size]; omega)
  have h2 := hf_other (st := D.st) (s := zerosB D.n) (n := D.n) (h := 1 - l.half) (off := 0) hn (by omega) (by rw [zerosB_size]; omega)
  rw [Nat.add_zero] at h1 h2
  rw [show 1 - (1 - l.half) = l.half by omega] at h2
  refine ⟨ovB_size (by rw [zerosB_size]; omega), ?_, h2⟩
  have hz := hfB_size hn (show 1 - l.half ≤ 1 by omega)
  have h3 := ov_tail (p := ⟨#[]⟩) (q := hfB D.st D.n (1 - l.half))
  rw [nil_bapp', nil_bapp', hz] at h3
  rw [wipedB, h1]
  exact h3
theorem snap_cases (h : LogIs D l sn rs) {s : ByteArray} (h2 : (headS (l.ep + 1) s).size ≤ 32768) (hfit : (headS (l.ep + 1) s).size + 8 ≤ D.n) :
    snpS D l s = if D.left = 1 ∨ D.left = 2 then ((⟨D.st, [((1 - l.half) * D.n, zerosB D.n)], 0, true⟩, ⟨l.half, l.ep, l.en, true⟩), 18)
      else if stepL (stepL D.left) = 1 ∨ stepL (stepL D.left) = 2 then ((⟨wipedB D l, [((1 - l.half) * D.n, wrapB (headS (l.ep + 1) s))], 0, true⟩, ⟨l.half, l.ep, l.en, true⟩), 18)
      else ((⟨ovB (wipedB D l) ((1 - l.half) * D.n) (wrapB (headS (l.ep + 1) s)), [], stepL (stepL (stepL (stepL D.left))), false⟩, ⟨1 - l.half, l.ep + 1, (headS (l.ep + 1) s).size + 8, false⟩), 0) := by
  have hp := headS_pos (l.ep + 1) s
  have hn := n_two D
  have hh := h.hf
  have hhn : (1 - l.half) * D.n ≤ 1 * D.n := Nat.mul_le_mul_right _ (by omega)
  obtain ⟨hw1, -, -⟩ := wiped_facts h
  have hf : fitsS (headS (l.ep + 1) s).size D.n = true := fitsS_iff.2 ⟨⟨hp, h2⟩, hfit⟩
  have hp1 := putS_at h.cl (k := (1 - l.half) * D.n) (s := zerosB D.n) (by rw [zerosB_size]; omega)
  rw [snpS, if_neg (by rw [h.lb]; decide), if_neg (by rw [hf]; decide), snapR, seqS, hp1]
  by_cases hl : D.left = 1 ∨ D.left = 2
  · rw [if_pos hl, if_pos hl]
    rfl
  · rw [if_neg hl, if_neg hl]
    simp only [if_true]
    have hp2 := putS_at (D := ⟨wipedB D l, [], stepL (stepL D.left), false⟩) ⟨rfl, rfl, stepL_nn _⟩ (k := (1 - l.half) * D.n) (s := wrapB (headS (l.ep + 1) s)) (by rw [wrap_sz hp h2]; show _ ≤ (wipedB D l).size; rw [hw1]; omega)
    rw [show (⟨ovB D.st ((1 - l.half) * D.n) (zerosB D.n), [], stepL (stepL D.left), false⟩ : DSt) = ⟨wipedB D l, [], stepL (stepL D.left), false⟩ from rfl, seqS_one, hp2]
    by_cases hl2 : stepL (stepL D.left) = 1 ∨ stepL (stepL D.left) = 2
    · rw [if_pos hl2, if_pos hl2]
      rfl
    · rw [if_neg hl2, if_neg hl2]
      rfl
/-- Behind a snapshot that went well. -/
theorem snap_is (h : LogIs D l sn rs) {s : ByteArray} (hs : s.size ≤ 32768) (hep : l.ep + 1 < 18446744073709551616) (h2 : (headS (l.ep + 1) s).size ≤ 32768) (hfit : (headS (l.ep + 1) s).size + 8 ≤ D.n) (left : Int) (hleft : 0 ≤ left) :
    LogIs ⟨ovB (wipedB D l) ((1 - l.half) * D.n) (wrapB (headS (l.ep + 1) s)), [], left, false⟩ ⟨1 - l.half, l.ep + 1, (headS (l.ep + 1) s).size + 8, false⟩ s [] := by
  have hp := headS_pos (l.ep + 1) s
  have hn := n_two D
  have hh := h.hf
  have hhn : (1 - l.half) * D.n ≤ 1 * D.n := Nat.mul_le_mul_right _ (by omega)
  obtain ⟨hw1, hw2, hw3⟩ := wiped_facts h
  have hw := wrap_sz hp h2
  have hst : (ovB (wipedB D l) ((1 - l.half) * D.n) (wrapB (headS (l.ep + 1) s))).size = D.st.size := by rw [ovB_size (by rw [hw, hw1]; omega), hw1]
  have hnn : (⟨ovB (wipedB D l) ((1 - l.half) * D.n) (wrapB (headS (l.ep + 1) s)), [], left, false⟩ : DSt).n = D.n := by show _ / 2 = _; rw [hst]; rfl
  have ha : allB [headS (l.ep + 1) s] = wrapB (headS (l.ep + 1) s) := by rw [allB, allB, bapp_nil]
  have k1 := hf_same (st := wipedB D l) (s := wrapB (headS (l.ep + 1) s)) (n := D.n) (h := 1 - l.half) (off := 0) (by rw [hw1]; exact hn) (by omega) (by rw [hw]; omega)
  have k2 := hf_other (st := wipedB D l) (s := wrapB (headS (l.ep + 1) s)) (n := D.n) (h := 1 - l.half) (off := 0) (by rw [hw1]; exact hn) (by omega) (by rw [hw]; omega)
  rw [Nat.add_zero] at k1 k2
  rw [show 1 - (1 - l.half) = l.half by omega, hw3] at k2
  rw [hw2] at k1
  have k3 := ov_put (p := ⟨#[]⟩) (s := wrapB (headS (l.ep + 1) s)) (m := D.n) (by rw [hw]; exact hfit)
  rw [nil_bapp', nil_bapp', hw] at k3
  refine ⟨⟨rfl, rfl, hleft⟩, rfl, by show 1 - l.half ≤ 1; omega, by show 1 ≤ l.ep + 1; omega, hep, fun x hx => ?_, hs, ?_, by rw [hnn]; exact hfit, ?_, .inr ?_⟩
  · simp at hx
    subst hx
    exact ⟨hp, h2⟩
  · show (headS (l.ep + 1) s).size + 8 = (allB [headS (l.ep + 1) s]).size
    rw [ha, hw]
  · show hfB (ovB (wipedB D l) ((1 - l.half) * D.n) (wrapB (headS (l.ep + 1) s))) _ (1 - l.half) = allB [headS (l.ep + 1) s] ++ zerosB (_ - ((headS (l.ep + 1) s).size + 8))
    rw [hnn, k1, ha]
    exact k3
  · show (lookB (hfB (ovB (wipedB D l) ((1 - l.half) * D.n) (wrapB (headS (l.ep + 1) s))) _ (1 - (1 - l.half)))).ep < l.ep + 1
    rw [hnn, show 1 - (1 - l.half) = l.half by omega, k2, h.look]
    show l.ep < l.ep + 1
    omega
/-- A disk whose half with the log is as it was, and whose other half begins with none. -/
theorem found_old (h : LogIs D l sn rs) {st : ByteArray} (hz : st.size = D.st.size) (h1 : hfB st D.n l.half = hfB D.st D.n l.half) (h2 : (lookB (hfB st D.n (1 - l.half))).en = 0 ∨ (lookB (hfB st D.n (1 - l.half))).ep < l.ep) : Found ⟨st, [], 0, false⟩ l sn rs := by
  have hnn : (⟨st, [], 0, false⟩ : DSt).n = D.n := by show _ / 2 = _; rw [hz]; rfl
  exact LogIs.found ⟨⟨rfl, rfl, by simp⟩, h.lb, h.hf, h.ep1, h.ep2, h.fits, h.snz, h.enz, by rw [hnn]; exact h.le, by rw [hnn]; show hfB st D.n l.half = _; rw [h1]; exact h.this, by rw [hnn]; exact h2⟩ rfl
/-- Behind a torn wiping, and a crash. -/
theorem snap_torn1 (h : LogIs D l sn rs) (j : Nat) (hj : j ≤ D.n) : Found ⟨ovB D.st ((1 - l.half) * D.n) ((zerosB D.n).extract 0 j), [], 0, false⟩ l sn rs := by
  have hn := n_two D
  have hh := h.hf
  have hhn : (1 - l.half) * D.n ≤ 1 * D.n := Nat.mul_le_mul_right _ (by omega)
  have hz : ((zerosB D.n).extract 0 j).size = j := by rw [ByteArray.size_extract, zerosB_size]; omega
  have k1 := hf_same (st := D.st) (s := (zerosB D.n).extract 0 j) (n := D.n) (h := 1 - l.half) (off := 0) hn (by omega) (by rw [hz]; omega)
  have k2 := hf_other (st := D.st) (s := (zerosB D.n).extract 0 j) (n := D.n) (h := 1 - l.half) (off := 0) hn (by omega) (by rw [hz]; omega)
  rw [Nat.add_zero] at k1 k2
  rw [show 1 - (1 - l.half) = l.half by omega] at k2
  refine found_old h (ovB_size (by rw [hz]; omega)) k2 ?_
  rw [k1]
  by_cases h0 : j = 0
  · subst h0
    have : ovB (hfB D.st D.n (1 - l.half)) 0 ((zerosB D.n).extract 0 0) = hfB D.st D.n (1 - l.half) := ovB_nil _ _ _
    rw [this]
    exact h.oth
  · refine .inl (look_none (gB_zero_none ?_))
    have hfz := hfB_size hn (show 1 - l.half ≤ 1 by omega)
    rw [gB_ov (by rw [hz, hfz]; omega), if_pos (by rw [hz]; omega), gB_cut]
    split
    · exact gB_zb _ _
    · rfl
/-- Behind a torn record of a head, and a crash. -/
theorem snap_torn2 (h : LogIs D l sn rs) {s : ByteArray} (hs : s.size ≤ 32768) (hep : l.ep + 1 < 18446744073709551616) (h2 : (headS (l.ep + 1) s).size ≤ 80) (hfit : (headS (l.ep + 1) s).size + 8 ≤ D.n) (j : Nat) (hj : j ≤ (wrapB (headS (l.ep + 1) s)).size) :
    Found ⟨ovB (wipedB D l) ((1 - l.half) * D.n) ((wrapB (headS (l.ep + 1) s)).extract 0 j), [], 0, false⟩ l sn rs ∨
    Found ⟨ovB (wipedB D l) ((1 - l.half) * D.n) ((wrapB (headS (l.ep + 1) s)).extract 0 j), [], 0, false⟩ ⟨1 - l.half, l.ep + 1, (headS (l.ep + 1) s).size + 8, false⟩ s [] := by
  have hp := headS_pos (l.ep + 1) s
  have hw := wrap_sz hp (by omega : (headS (l.ep + 1) s).size ≤ 32768)
  by_cases hjj : j = (wrapB (headS (l.ep + 1) s)).size
  · subst hjj
    rw [show (wrapB (headS (l.ep + 1) s)).extract 0 (wrapB (headS (l.ep + 1) s)).size = wrapB (headS (l.ep + 1) s) from ByteArray.extract_zero_size]
    exact .inr ((snap_is h hs hep (by omega) hfit 0 (by omega)).found rfl)
  · left
    have hn := n_two D
    have hh := h.hf
    have hhn : (1 - l.half) * D.n ≤ 1 * D.n := Nat.mul_le_mul_right _ (by omega)
    obtain ⟨hw1, hw2, hw3⟩ := wiped_facts h
    have hz : ((wrapB (headS (l.ep + 1) s)).extract 0 j).size = j := by rw [ByteArray.size_extract]; omega
    have k1 := hf_same (st := wipedB D l) (s := (wrapB (headS (l.ep + 1) s)).extract 0 j) (n := D.n) (h := 1 - l.half) (off := 0) (by rw [hw1]; exact hn) (by omega) (by rw [hz]; omega)
    have k2 := hf_other (st := wipedB D l) (s := (wrapB (headS (l.ep + 1) s)).extract 0 j) (n := D.n) (h := 1 - l.half) (off := 0) (by rw [hw1]; exact hn) (by omega) (by rw [hz]; omega)
    rw [Nat.add_zero] at k1 k2
    rw [show 1 - (1 - l.half) = l.half by omega, hw3] at k2
    rw [hw2] at k1
    have k3 := ov_put (p := ⟨#[]⟩) (s := (wrapB (headS (l.ep + 1) s)).extract 0 j) (m := D.n) (by rw [hz]; omega)
    rw [nil_bapp', nil_bapp', hz] at k3
    refine found_old h (by rw [ovB_size (by rw [hz, hw1]; omega), hw1]) k2 (.inl ?_)
    rw [k1]
    refine look_none ?_
    have k4 : ovB (zerosB D.n) 0 ((wrapB (headS (l.ep + 1) s)).extract 0 j) = (wrapB (headS (l.ep + 1) s)).extract 0 j ++ zerosB (D.n - j) := k3
    rw [k4]
    exact torn_none hp h2 (by omega)
end
end Go.Proofs.Ytembnjpflllpbaa

/- A disk that is formatted, and one try of the law of safety, in plain Lean. -/
namespace Go.Proofs.Ytembnjpflllpbaa
open Go.RowKit
set_option linter.unusedVariables false
set_option linter.unusedSimpArgs false

theorem putS_ok {D : DSt} (hc : D.clean) (hl : D.left = 0) {k : Nat} {s : ByteArray} (hk : k + s.size ≤ D.st.size) : putS (k : Int) s D = (⟨ovB D.st k s, [], 0, false⟩, 0) := by
  rw [putS_at hc hk, if_neg (by omega), hl]
  rfl
/-- A disk of bytes 0 has no log. -/
theorem newest_zero (m : Nat) : newestS ⟨zerosB m, [], 0, false⟩ = (0, noHd) := by
  have hz : ∀ h, (lookB (hfB (zerosB m) (DSt.n ⟨zerosB m, [], 0, false⟩) h)).en = 0 := fun h => look_none (gB_zero_none (by
    rw [hfB, gB_cut]
    split
    · exact gB_zb _ _
    · rfl))
  have hc : (⟨zerosB m, [], 0, false⟩ : DSt).clean := ⟨rfl, rfl, by simp⟩
  have hs : ∀ (h : Nat) (x : Hd) (b : Nat × Hd), x.en = 0 → stepH h x b = b := fun h x b hx => by rw [stepH, if_pos (by simp [skipH, hx])]
  rw [newestS, clean_half hc, clean_half hc, hs 1 _ _ (hz 1), hs 0 _ _ (hz 0)]
/-- What Format makes. -/
theorem fmt_is {D : DSt} (hc : D.clean) (hl : D.left = 0) {ep : Nat} {s : ByteArray} (h1 : 1 ≤ ep) (h2 : ep < 18446744073709551616) (hs : s.size ≤ 32768) (h3 : (headS ep s).size ≤ 32768) (hfit : (headS ep s).size + 8 ≤ D.n) :
    (fmtS D ep s).2 = 0 ∧ (fmtS D ep s).1.left = 0 ∧ (fmtS D ep s).1.st.size = D.st.size ∧ LogIs (fmtS D ep s).1 ⟨0, ep, (headS ep s).size + 8, false⟩ s [] := by
  have hp := headS_pos ep s
  have hw := wrap_sz hp h3
  have hn := n_two D
  have hzs := zerosB_size D.n
  obtain ⟨st1, e1⟩ : ∃ st1, ovB D.st 0 (zerosB D.n) = st1 := ⟨_, rfl⟩
  have z1 : st1.size = D.st.size := by rw [← e1]; exact ovB_size (by omega)
  obtain ⟨st2, e2⟩ : ∃ st2, ovB st1 0 (wrapB (headS ep s)) = st2 := ⟨_, rfl⟩
  have z2 : st2.size = D.st.size := by rw [← e2, ovB_size (by omega), z1]
  obtain ⟨st3, e3⟩ : ∃ st3, ovB st2 D.n (zerosB D.n) = st3 := ⟨_, rfl⟩
  have z3 : st3.size = D.st.size := by rw [← e3, ovB_size (by omega), z2]
  have hf : fmtS D ep s = (⟨st3, [], 0, false⟩, 0) := by
    have p1 : putS 0 (zerosB D.n) D = (⟨ovB D.st 0 (zerosB D.n), [], 0, false⟩, 0) := putS_ok hc hl (k := 0) (s := zerosB D.n) (by omega)
    have p2 : putS 0 (wrapB (headS ep s)) ⟨st1, [], 0, false⟩ = (⟨ovB st1 0 (wrapB (headS ep s)), [], 0, false⟩, 0) := putS_ok (D := ⟨st1, [], 0, false⟩) ⟨rfl, rfl, by simp⟩ rfl (k := 0) (s := wrapB (headS ep s)) (by show _ ≤ st1.size; omega)
    have p3 := putS_ok (D := ⟨st2, [], 0, false⟩) ⟨rfl, rfl, by simp⟩ rfl (k := D.n) (s := zerosB D.n) (by show _ ≤ st2.size; omega)
    rw [e1] at p1
    simp only at p3
    rw [e2] at p2
    rw [e3] at p3
    rw [fmtS, seqS, p1]
    simp only [if_true]
    rw [seqS, p2]
    simp only [if_true]
    rw [seqS_one, p3]
  rw [hf]
  have hnn : (⟨st3, [], 0, false⟩ : DSt).n = D.n := by show _ / 2 = _; rw [z3]; rfl
  -- the halves
  have a1 := hf_same (st := D.st) (s := zerosB D.n) (n := D.n) (h := 0) (off := 0) hn (by omega) (by omega)
  have a2 := hf_same (st := st1) (s := wrapB (headS ep s)) (n := D.n) (h := 0) (off := 0) (by rw [z1]; exact hn) (by omega) (by omega)
  have a3 := hf_other (st := st2) (s := zerosB D.n) (n := D.n) (h := 1) (off := 0) (by rw [z2]; exact hn) (by omega) (by omega)
  have a4 := hf_same (st := st2) (s := zerosB D.n) (n := D.n) (h := 1) (off := 0) (by rw [z2]; exact hn) (by omega) (by omega)
  rw [Nat.zero_mul, Nat.zero_add, e1] at a1
  rw [Nat.zero_mul, Nat.zero_add, e2] at a2
  rw [Nat.one_mul, Nat.add_zero, e3] at a3 a4
  have hz0 := hfB_size hn (show 0 ≤ 1 by omega)
  have hz1 := hfB_size (st := st2) (n := D.n) (by rw [z2]; exact hn) (show 1 ≤ 1 by omega)
  have t1 := ov_tail (p := ⟨#[]⟩) (q := hfB D.st D.n 0)
  rw [nil_bapp', nil_bapp', hz0] at t1
  have t1' : ovB (hfB D.st D.n 0) 0 (zerosB D.n) = zerosB D.n := t1
  have t2 := ov_put (p := ⟨#[]⟩) (s := wrapB (headS ep s)) (m := D.n) (by omega)
  rw [nil_bapp', nil_bapp', hw] at t2
  have t2' : ovB (zerosB D.n) 0 (wrapB (headS ep s)) = wrapB (headS ep s) ++ zerosB (D.n - ((headS ep s).size + 8)) := t2
  have t3 := ov_tail (p := ⟨#[]⟩) (q := hfB st2 D.n 1)
  rw [nil_bapp', nil_bapp', hz1] at t3
  have t3' : ovB (hfB st2 D.n 1) 0 (zerosB D.n) = zerosB D.n := t3
  rw [t1'] at a1
  rw [a1, t2'] at a2
  rw [t3'] at a4
  have ha : allB [headS ep s] = wrapB (headS ep s) := by rw [allB, allB, bapp_nil]
  refine ⟨rfl, rfl, z3, ⟨⟨rfl, rfl, by simp⟩, rfl, by show 0 ≤ 1; omega, h1, h2, fun x hx => ?_, hs, ?_, by rw [hnn]; exact hfit, ?_, .inl ?_⟩⟩
  · simp at hx
    subst hx
    exact ⟨hp, h3⟩
  · show (headS ep s).size + 8 = (allB [headS ep s]).size
    rw [ha, hw]
  · rw [hnn]
    show hfB st3 D.n 0 = allB [headS ep s] ++ zerosB (D.n - ((headS ep s).size + 8))
    rw [show (0 : Nat) = 1 - 1 from rfl, a3, show (1 - 1 : Nat) = 0 from rfl, a2, ha]
  · rw [hnn]
    show (lookB (hfB st3 D.n (1 - 0))).en = 0
    rw [Nat.sub_zero, a4]
    exact look_none (zeros_none _)
end Go.Proofs.Ytembnjpflllpbaa

/- A disk and a log that were made in the call; the chapter's example. -/
namespace Go.Proofs.Ytembnjpflllpbaa
open Go.RowKit
set_option linter.unusedVariables false
set_option linter.unusedSimpArgs false

/-- A disk and a log on it, made since w0. -/
structure LW (w0 w : World) (d L : Nat) (D : DSt) (l : LSt) (S : List Nat) : Prop where
  dh : DH w d D S
  lg : LG w L d l
  ne : L ∉ S
  new : ∀ k, k ∈ L :: S → w0.heap.size ≤ k
  fr : Fr [] w0 w
theorem LW.step {w0 w w' : World} {d L : Nat} {D : DSt} {l : LSt} {S : List Nat} {x : DSt × LSt} (h : LW w0 w d L D l S) (hp : HLPost w L d x S w') : ∃ S', LW w0 w' d L x.1 x.2 S' ∧ Fr (L :: S) w w' ∧ ∀ k, k ∈ S' → k ∈ S ∨ w.heap.size ≤ k := by
  obtain ⟨S', h1, h2, h3, h4, h5⟩ := hp
  refine ⟨S', ⟨h1, h2, h3, fun k hk => ?_, h.fr.trans h4 (fun k hk => .inr (h.new k hk))⟩, h4, h5⟩
  rcases List.mem_cons.1 hk with rfl | hk
  · exact h.new _ (.head _)
  · rcases h5 k hk with h' | h'
    · exact h.new k (.tail _ h')
    · exact Nat.le_trans h.fr.size h'
theorem LW.other {w0 w w' : World} {d L : Nat} {D : DSt} {l : LSt} {S T : List Nat} (h : LW w0 w d L D l S) (hf : Fr T w w') (hT : ∀ k, k ∈ L :: S → k ∉ T) (hn : ∀ k, k ∈ T → w0.heap.size ≤ k) : LW w0 w' d L D l S :=
  ⟨h.dh.keep hf (fun k hk => hT k (.tail _ hk)), h.lg.keep hf (hT L (.head _)), h.ne, h.new, h.fr.trans hf (fun k hk => .inr (hn k hk))⟩
theorem LW.keep0 {w0 w w' : World} {d L : Nat} {D : DSt} {l : LSt} {S : List Nat} (h : LW w0 w d L D l S) (hf : Fr [] w w') : LW w0 w' d L D l S := h.other hf (fun _ _ => by simp) (fun _ h => by cases h)
theorem LW.lt {w0 w : World} {d L : Nat} {D : DSt} {l : LSt} {S : List Nat} (h : LW w0 w d L D l S) : ∀ k, k ∈ L :: S → k < w.heap.size := by
  intro k hk
  rcases List.mem_cons.1 hk with rfl | hk
  · exact lt_of_heap h.lg
  · exact h.dh.lt k hk
/-- An append, a snapshot. -/
theorem LW.append {w0 w : World} {d L : Nat} {D : DSt} {l : LSt} {S : List Nat} {sn : ByteArray} {rs : List ByteArray} (h : LW w0 w d L D l S) (hh : l.half ≤ 1) (hen : l.en ≤ 1000000) (hwl : D.wl.length ≤ 700) {s : ByteArray} (hs : s.size ≤ 1000000) {x : DSt × LSt} {c : Int} (hx : appS D l s = (x, c)) :
    Calls Try.prog 12 #[.pointer (some ⟨L, 0, none⟩), .string s] w fun e w' => e = .returned (.int .i64 c) ∧ ∃ S', LW w0 w' d L x.1 x.2 S' ∧ Fr (L :: S) w w' ∧ ∀ k, k ∈ S' → k ∈ S ∨ w.heap.size ≤ k := by
  refine (HAppend_calls w L d l D S h.lg h.dh h.ne hh hen hwl s hs).mono ?_
  rw [hx]
  rintro e w' ⟨rfl, hp⟩
  exact ⟨rfl, h.step hp⟩
theorem LW.snap {w0 w : World} {d L : Nat} {D : DSt} {l : LSt} {S : List Nat} (h : LW w0 w d L D l S) (hh : l.half ≤ 1) (hep : l.ep + 1 < 18446744073709551616) (hwl : D.wl.length ≤ 700) {s : ByteArray} (hs : s.size ≤ 1000000) {x : DSt × LSt} {c : Int} (hx : snpS D l s = (x, c)) :
    Calls Try.prog 17 #[.pointer (some ⟨L, 0, none⟩), .string s] w fun e w' => e = .returned (.int .i64 c) ∧ ∃ S', LW w0 w' d L x.1 x.2 S' ∧ Fr (L :: S) w w' ∧ ∀ k, k ∈ S' → k ∈ S ∨ w.heap.size ≤ k := by
  refine (HSnap_calls w L d l D S h.lg h.dh h.ne hh hep hwl s hs).mono ?_
  rw [hx]
  rintro e w' ⟨rfl, hp⟩
  exact ⟨rfl, h.step hp⟩
/-- An append that goes well, on a disk that does not break. -/
theorem app_good {D : DSt} {l : LSt} {sn : ByteArray} {rs : List ByteArray} (h : LogIs D l sn rs) (hl : D.left = 0) {s : ByteArray} (hin : 1 ≤ s.size ∧ s.size ≤ 32768) (hr : l.en + (s.size + 8) ≤ D.n) :
    ∃ D', appS D l s = ((D', ⟨l.half, l.ep, l.en + (s.size + 8), false⟩), 0) ∧ LogIs D' ⟨l.half, l.ep, l.en + (s.size + 8), false⟩ sn (rs ++ [s]) ∧ D'.left = 0 ∧ D'.st.size = D.st.size := by
  rcases app_cases h s with ⟨h1, -⟩ | ⟨-, h1, -⟩ | ⟨-, -, h1⟩
  · exact absurd hin h1
  · exact absurd hr h1
  · rw [if_neg (by omega), hl] at h1
    exact ⟨_, h1, app_is h hin hr _ (by simp [stepL]), rfl, ovB_size (by rw [wrap_sz hin.1 hin.2]; exact app_room h hr)⟩
theorem snap_good {D : DSt} {l : LSt} {sn : ByteArray} {rs : List ByteArray} (h : LogIs D l sn rs) (hl : D.left = 0) {s : ByteArray} (hs : s.size ≤ 32768) (hep : l.ep + 1 < 18446744073709551616) (h2 : (headS (l.ep + 1) s).size ≤ 32768) (hfit : (headS (l.ep + 1) s).size + 8 ≤ D.n) :
    ∃ D', snpS D l s = ((D', ⟨1 - l.half, l.ep + 1, (headS (l.ep + 1) s).size + 8, false⟩), 0) ∧ LogIs D' ⟨1 - l.half, l.ep + 1, (headS (l.ep + 1) s).size + 8, false⟩ s [] ∧ D'.left = 0 ∧ D'.st.size = D.st.size := by
  have hc := snap_cases h h2 hfit
  have hs1 : stepL (stepL D.left) = 0 := by rw [hl]; rfl
  rw [if_neg (by omega), if_neg (by omega), hs1] at hc
  refine ⟨_, hc, snap_is h hs hep h2 hfit _ (by simp [stepL]), rfl, ?_⟩
  obtain ⟨hw1, -, -⟩ := wiped_facts h
  have hhn : (1 - l.half) * D.n ≤ 1 * D.n := Nat.mul_le_mul_right _ (by omega)
  have := n_two D
  show (ovB (wipedB D l) _ _).size = _
  rw [ovB_size (by rw [wrap_sz (headS_pos _ _) h2, hw1]; omega), hw1]
/-- Format of a new disk. -/
theorem LW.format {w0 w : World} (hf0 : Fr [] w0 w) {d m : Nat} {S : List Nat} (hd : DH w d ⟨zerosB m, [], 0, false⟩ S) (hn : ∀ k, k ∈ S → w0.heap.size ≤ k) {s : ByteArray} (hs : s.size ≤ 100) (hm : 130 ≤ m / 2 ∨ (headS 1 s).size + 8 ≤ m / 2) :
    Calls Try.prog 9 #[.pointer (some ⟨d, 0, none⟩), .string s] w fun e w' => ∃ L D' S', e = .returned (.tuple #[.pointer (some ⟨L, 0, none⟩), .int .i64 0]) ∧ LW w0 w' d L D' ⟨0, 1, (headS 1 s).size + 8, false⟩ S' ∧ LogIs D' ⟨0, 1, (headS 1 s).size + 8, false⟩ s [] ∧ D'.left = 0 ∧ D'.st.size = m ∧ Fr S w w' := by
  have hns : (DSt.n ⟨zerosB m, [], 0, false⟩) = m / 2 := by show (zerosB m).size / 2 = _; rw [zerosB_size]
  have hhs := headS_size 1 (by omega) s (by omega)
  have hfit : (headS 1 s).size + 8 ≤ DSt.n ⟨zerosB m, [], 0, false⟩ := by rw [hns]; omega
  obtain ⟨f1, f2, f3, f4⟩ := fmt_is (D := ⟨zerosB m, [], 0, false⟩) ⟨rfl, rfl, by simp⟩ rfl (ep := 1) (s := s) (by omega) (by omega) (by omega) (by omega) hfit
  refine (HFormat_calls w d _ S hd rfl (by simp) s (by omega) 1 (by rw [newest_zero]; rfl) (by omega)).mono ?_
  rintro e w' (⟨h1, -⟩ | ⟨-, h1, -⟩ | ⟨-, -, L, S', rfl, k1, k2, k3, k4, k5, k6⟩)
  · rw [fitsS_iff.2 ⟨⟨headS_pos _ _, by omega⟩, hfit⟩] at h1
    cases h1
  · exact absurd f1 h1
  · refine ⟨L, _, S', rfl, ⟨k2, k1, k6, fun k hk => ?_, hf0.trans k3 (fun k hk => .inr (hn k hk))⟩, f4, f2, by rw [f3]; exact zerosB_size m, k3⟩
    rcases List.mem_cons.1 hk with rfl | hk
    · exact Nat.le_trans hf0.size k5
    · rcases k4 k hk with h | h
      · exact hn k h
      · exact Nat.le_trans hf0.size h
/-- Open of a disk with a log. -/
theorem open_found {w : World} {d : Nat} {D : DSt} {S : List Nat} (hd : DH w d D S) (hbad : D.bad = false) (hwl : D.wl.length ≤ 700) {l : LSt} {sn : ByteArray} {rs : List ByteArray} (hf : Found D l sn rs) :
    Calls Try.prog 15 #[.pointer (some ⟨d, 0, none⟩)] w fun e w' => ∃ L A cap S', e = .returned (.tuple #[.pointer (some ⟨L, 0, none⟩), .agg #[.int .u64 l.ep, .string sn, .slice A rs.length cap], .int .i64 0]) ∧ LG w' L d l ∧ RdV w' A (rs.map .string) ∧
      DH w' d (tailS D).1 S' ∧ Fr S w w' ∧ (∀ k, k ∈ S' → k ∈ S ∨ w.heap.size ≤ k) ∧ w.heap.size ≤ L ∧ L ∉ S' ∧ (∀ ad, A = some ad → w.heap.size ≤ ad.block ∧ ad.block < w'.heap.size ∧ ad.block ∉ S' ∧ ad.block ≠ L) := by
  refine (HOpen_calls w d D S hd hbad hwl).mono ?_
  have hp := hf.is.pos
  have hlb := hf.is.lb
  obtain ⟨half, ep, en, bad⟩ := l
  simp only at hlb hp
  subst hlb
  rintro e w' (⟨h1, -⟩ | ⟨-, h1, -⟩ | ⟨-, -, L, A, cap, S', h1, h2, h3, h4, h5⟩)
  · rw [hf.nw] at h1
    simp only at h1
    omega
  · exact absurd hf.ok h1
  · rw [hf.nw] at h1 h2 h3
    exact ⟨L, A, cap, S', h1, h2, h3, h4, h5⟩
end Go.Proofs.Ytembnjpflllpbaa

/- The contract of 'short' of the statements of layer 05: a text of at most so many bytes. -/
namespace Go.Proofs.Ytembnjpflllpbaa
open Go.RowKit
set_option linter.unusedVariables false
set_option linter.unusedSimpArgs false

set_option maxHeartbeats 400000 in
set_option maxRecDepth 100000 in
theorem short05_calls (s : ByteArray) (n : Int) (m : Nat) (hn : n = m) (w : World) (hs : s.size ≤ 9223372036854775807) (h1 : m ≤ 9223372036854775807) :
    Calls Try.prog 10 #[.string s, .int .i64 n] w fun e w' => e = .returned (.string (shortB s m)) ∧ w = w' := by
  subst hn
  by_cases h : s.size > m
  · have e : shortB s m = s.extract 0 m := if_pos h
    rw [e]
    clear e
    go_enter Try.func10, Try.ntmps10
    go_wp2
    go_ret
    exact ⟨rfl, rfl⟩
  · have e : shortB s m = s := if_neg h
    rw [e]
    clear e
    go_enter Try.func10, Try.ntmps10
    go_wp2
    go_ret
    exact ⟨rfl, rfl⟩

end Go.Proofs.Ytembnjpflllpbaa

namespace Go.Proofs.Ytembnjpflllpbaa
open Go.RowKit
set_option linter.unusedVariables false
set_option linter.unusedSimpArgs false

theorem headS_small {n : Nat} {s : ByteArray} (h1 : n < 128) (h2 : s.size < 128) : (headS n s).size = s.size + 2 := by
  rw [headS, txtB, ByteArray.size_append, ByteArray.size_append, numB_small h1, numB_small h2]
  show 1 + (1 + s.size) = s.size + 2
  omega
/-- What is handed on from step to step. -/
structure Good (D : DSt) (l : LSt) (sn : ByteArray) (rs : List ByteArray) (m : Nat) : Prop where
  is : LogIs D l sn rs
  left : D.left = 0
  sz : D.st.size = m
theorem Good.n {D : DSt} {l : LSt} {sn : ByteArray} {rs : List ByteArray} {m : Nat} (h : Good D l sn rs m) : D.n = m / 2 := by unfold DSt.n; rw [h.sz]
theorem Good.bounds {D : DSt} {l : LSt} {sn : ByteArray} {rs : List ByteArray} {m : Nat} (h : Good D l sn rs m) (hm : m ≤ 131072) : l.half ≤ 1 ∧ l.en ≤ 1000000 ∧ D.wl.length ≤ 700 ∧ D.bad = false := by
  have h1 := h.is.le
  have h2 := n_two D
  have h3 := h.sz
  refine ⟨h.is.hf, by omega, by rw [h.is.cl.1]; simp, h.is.cl.2.1⟩
theorem Good.app {D : DSt} {l : LSt} {sn : ByteArray} {rs : List ByteArray} {m : Nat} (h : Good D l sn rs m) {s : ByteArray} (hin : 1 ≤ s.size ∧ s.size ≤ 32768) (hr : l.en + (s.size + 8) ≤ m / 2) :
    ∃ D', appS D l s = ((D', ⟨l.half, l.ep, l.en + (s.size + 8), false⟩), 0) ∧ Good D' ⟨l.half, l.ep, l.en + (s.size + 8), false⟩ sn (rs ++ [s]) m := by
  obtain ⟨D', a, b, c, d⟩ := app_good h.is h.left hin (by rw [h.n]; exact hr)
  exact ⟨D', a, b, c, by rw [d]; exact h.sz⟩
theorem Good.snap {D : DSt} {l : LSt} {sn : ByteArray} {rs : List ByteArray} {m : Nat} (h : Good D l sn rs m) {s : ByteArray} (hep : l.ep + 1 < 128) (hs : s.size < 128) (hfit : s.size + 10 ≤ m / 2) :
    ∃ D', snpS D l s = ((D', ⟨1 - l.half, l.ep + 1, s.size + 10, false⟩), 0) ∧ Good D' ⟨1 - l.half, l.ep + 1, s.size + 10, false⟩ s [] m := by
  have hh := headS_small (n := l.ep + 1) (s := s) hep hs
  obtain ⟨D', a, b, c, d⟩ := snap_good h.is h.left (s := s) (by omega) (by omega) (by omega) (by rw [h.n]; omega)
  rw [hh] at a b
  exact ⟨D', a, b, c, by rw [d]; exact h.sz⟩
theorem Good.found {D : DSt} {l : LSt} {sn : ByteArray} {rs : List ByteArray} {m : Nat} (h : Good D l sn rs m) : Found D l sn rs := h.is.found h.left
theorem Good.opened {D : DSt} {l : LSt} {sn : ByteArray} {rs : List ByteArray} {m : Nat} (h : Good D l sn rs m) : Good (tailS D).1 l sn rs m :=
  ⟨h.found.is, h.found.lf, by rw [h.found.sz]; exact h.sz⟩
set_option maxHeartbeats 4000000 in
set_option maxRecDepth 100000 in
theorem awake05_calls (w : World) : Calls Try.prog 7 #[] w fun e w' => e = .returned (.bool true) ∧ Fr [] w w' := by
  have hnew := HNew w 80 (mi := 80) rfl (by omega) (by omega)
  have h3 : (headS 1 ⟨#[115]⟩).size = 3 := headS_small (by omega) (by decide)
  have hfm := fun w1 h d S hd hn => LW.format (w0 := w) (w := w1) h (d := d) (m := 80) (S := S) hd hn (s := ⟨#[115]⟩) (by decide) (.inr (by rw [h3]; decide))
  rw [h3] at hfm
  have HNW := Lib.hid hnew
  have HFM := Lib.hid hfm
  clear hnew hfm h3
  go_enter Try.func7, Try.ntmps7
  go_wp2_with fail
  (with_reducible refine HNW.out.mono ?_)
  rintro e w1 ⟨d, rfl, S, hd, hf1, hn1⟩
  have HD := Lib.hid hd
  have HF1 := Lib.hid hf1
  have HN1 := Lib.hid (show ∀ k, k ∈ S → w.heap.size ≤ k from fun k hk => (hn1 k hk).elim (fun h => by cases h) id)
  clear hd hf1 hn1 HNW
  go_wp2_with fail
  (with_reducible refine (HFM.out w1 HF1.out d S HD.out HN1.out).mono ?_)
  rintro e w2 ⟨L, D0, S0, rfl, hw0, hi0, hl0, hz0, -⟩
  have g0 : Good D0 ⟨0, 1, 11, false⟩ ⟨#[115]⟩ [] 80 := ⟨hi0, hl0, hz0⟩
  obtain ⟨D1, e1, g1⟩ := g0.app (s := ⟨#[97]⟩) (by decide) (by decide)
  obtain ⟨D2, e2, g2⟩ := g1.app (s := ⟨#[98]⟩) (by decide) (by decide)
  obtain ⟨D3, e3, g3⟩ := g2.snap (s := ⟨#[116]⟩) (by decide) (by decide) (by decide)
  obtain ⟨D4, e4, g4⟩ := g3.app (s := ⟨#[99]⟩) (by decide) (by decide)
  have B0 := Lib.hid (g0.bounds (by omega))
  have B1 := Lib.hid (g1.bounds (by omega))
  have B2 := Lib.hid (g2.bounds (by omega))
  have B3 := Lib.hid (g3.bounds (by omega))
  have B4 := Lib.hid (g4.bounds (by omega))
  have E1 := Lib.hid e1
  have E2 := Lib.hid e2
  have E3 := Lib.hid e3
  have E4 := Lib.hid e4
  have G0 := Lib.hid g0
  have G1 := Lib.hid g1
  have G2 := Lib.hid g2
  have G3 := Lib.hid g3
  have G4 := Lib.hid g4
  have HW0 := Lib.hid hw0
  clear hi0 hl0 hz0 g0 g1 g2 g3 g4 e1 e2 e3 e4 hw0 HFM HD HN1 HF1
  go_wp2_with fail
  (with_reducible refine (LW.append (sn := ⟨#[115]⟩) (rs := []) HW0.out B0.out.1 B0.out.2.1 B0.out.2.2.1 (by decide) E1.out).mono ?_)
  rintro e w3 ⟨rfl, S1, h1, -, -⟩
  have HW1 := Lib.hid h1
  clear h1 HW0
  go_wp2_with fail
  (with_reducible refine (LW.append (sn := ⟨#[115]⟩) (rs := []) HW1.out B1.out.1 B1.out.2.1 B1.out.2.2.1 (by decide) E2.out).mono ?_)
  rintro e w4 ⟨rfl, S2, h1, -, -⟩
  have HW2 := Lib.hid h1
  clear h1 HW1
  go_wp2_with fail
  (with_reducible refine (LW.snap HW2.out B2.out.1 (by decide) B2.out.2.2.1 (by decide) E3.out).mono ?_)
  rintro e w5 ⟨rfl, S3, h1, -, -⟩
  have HW3 := Lib.hid h1
  clear h1 HW2
  go_wp2_with fail
  (with_reducible refine (LW.append (sn := ⟨#[115]⟩) (rs := []) HW3.out B3.out.1 B3.out.2.1 B3.out.2.2.1 (by decide) E4.out).mono ?_)
  rintro e w6 ⟨rfl, S4, h1, -, -⟩
  have HW4 := Lib.hid h1
  clear h1 HW3
  go_wp2_with fail
  (with_reducible refine (open_found HW4.out.dh B4.out.2.2.2 B4.out.2.2.1 G4.out.found).mono ?_)
  rintro e w7 ⟨L2, A, cap, S5, rfl, -, hrd, -, hf7, -, -, -, hnw⟩
  obtain ⟨ad, rfl, c0⟩ := hrd 0 (.string ⟨#[99]⟩) rfl
  have HF7 := Lib.hid (HW4.out.fr.trans hf7 (fun k hk => .inr (HW4.out.new k (.tail _ hk))))
  have HLT := Lib.hid (hnw ad rfl).2.1
  clear hrd hf7 hnw HW4
  simp only [List.nil_append, List.length_cons, List.length_nil, Nat.zero_add, Nat.reduceAdd]
  rw [show (((2 : Nat)) : Int) = (2 : Int) from rfl]
  have c0 : w7.cell? ad = some (.string ⟨#[99]⟩) := c0
  have c1 : ∀ o, (w7.alloc o).cell? ad = some (.string ⟨#[99]⟩) := fun o => ((Fr.refl [] w7).alloc o).cell' c0 (by simp)
  have c2 : ∀ o, (w7.alloc o).cell? (ad.add 0) = some (.string ⟨#[99]⟩) := c1
  clear c0
  go_wp2_with fail
  go_ret
  exact ⟨rfl, HF7.out.alloc _⟩
end Go.Proofs.Ytembnjpflllpbaa
