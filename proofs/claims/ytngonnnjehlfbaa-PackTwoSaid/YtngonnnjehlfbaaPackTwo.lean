/- The law PackTwo: for any two rows of texts the Go function returns true (its walk). -/
import Derived.Test.YtngonnnjehlfbaaFew03
import Derived.Test.YtngonnnjehlfbaaPackPure2
import Derived.Test.YtngonnnjehlfbaaAwake03
namespace Go.Proofs.Ytngonnnjehlfbaa
open Go.RowKit
set_option linter.unusedVariables false
set_option linter.unusedSimpArgs false

theorem fewB_size (l : List ByteArray) : ∀ x, x ∈ fewB l → x.size ≤ 200 := by
  intro x hx
  obtain ⟨y, _, rfl⟩ := List.mem_map.1 hx
  exact shortB_size y 200
theorem fewB_length (l : List ByteArray) : (fewB l).length ≤ 8 := by
  unfold fewB
  rw [List.length_map, List.length_take]
  omega
theorem sizes_few {m : List ByteArray} (h : ∀ x, x ∈ m → x.size ≤ 200) : sizes m ≤ 210 * m.length := by
  induction m with
  | nil => simp [sizes]
  | cons x m ih =>
    have h1 := h x (by simp)
    have h2 := ih (fun y hy => h y (by simp [hy]))
    simp only [sizes, List.length_cons]
    omega

set_option maxHeartbeats 2000000 in
set_option maxRecDepth 100000 in
theorem PackTwo_core (A B : Option Addr) (ca cb : Nat) (la lb m1 m2 : List ByteArray) (hm1 : fewB la = m1) (hm2 : fewB lb = m2) (w : World) (hra : RdV w A (la.map .string)) (hrb : RdV w B (lb.map .string)) (hsa : ∀ x, x ∈ la → x.size ≤ maxLen) (hsb : ∀ x, x ∈ lb → x.size ≤ maxLen) (hla : la.length ≤ maxLen) (hlb : lb.length ≤ maxLen) :
    Calls Try.prog 5 #[.slice A la.length ca, .slice B lb.length cb] w fun e w' => e = .returned (.bool true) ∧ Fr [] w w' := by
  have hA : ∀ (W : World), Fr [] w W → Calls Try.prog 18 #[.slice A la.length ca] W fun e w' => ∃ v r, e = .returned v ∧ SRow 9 1 w' v r m1.length (m1.map .string) ∧ Fr [] W w' ∧ (∀ k, k ∈ r → W.heap.size ≤ k) := by
    intro W hW
    rw [← hm1]
    exact few03_calls W A ca la (hra.keep hW (by simp)) hsa hla
  have hB : ∀ (W : World), Fr [] w W → Calls Try.prog 18 #[.slice B lb.length cb] W fun e w' => ∃ v r, e = .returned v ∧ SRow 9 1 w' v r m2.length (m2.map .string) ∧ Fr [] W w' ∧ (∀ k, k ∈ r → W.heap.size ≤ k) := by
    intro W hW
    rw [← hm2]
    exact few03_calls W B cb lb (hrb.keep hW (by simp)) hsb hlb
  have h1s : ∀ x, x ∈ m1 → x.size ≤ 200 := hm1 ▸ fewB_size la
  have h2s : ∀ x, x ∈ m2 → x.size ≤ 200 := hm2 ▸ fewB_size lb
  have h1l : m1.length ≤ 8 := hm1 ▸ fewB_length la
  have h2l : m2.length ≤ 8 := hm2 ▸ fewB_length lb
  have h1z := sizes_few h1s
  have h2z := sizes_few h2s
  have HA := Lib.hid hA
  have HB := Lib.hid hB
  have HS1 := Lib.hid h1s
  have HS2 := Lib.hid h2s
  clear hm1 hm2 hA hB h1s h2s hra hrb hsa hsb
  unfold maxLen at hla hlb
  go_enter Try.func5, Try.ntmps5
  go_wp2_with fail
  refine (awake03_calls _).mono ?_
  rintro e w1 ⟨rfl, hf1⟩
  go_wp2_with fail
  have hx0 : BldN 32 5 w _ w1.heap.size [] ⟨#[]⟩ := (BldN.make 32 5 hf1 rfl).other (S := []) ((Fr.refl _ _).alloc (.cells #[.pointer none, .slice none 0 0] 32)) (by simp) (by simp)
  have hy0 : BldN 32 5 w _ (w1.heap.size + 1) [] ⟨#[]⟩ := BldN.make 32 5 (hf1.alloc (.cells #[.pointer none, .slice none 0 0] 32)) (by simp)
  have e0 : (⟨#[]⟩ : ByteArray).size = 0 := rfl
  refine (HA.out _ hy0.fr).mono ?_
  rintro e w2 ⟨v, r, rfl, hs, hf2, hn2⟩
  obtain ⟨A1, c1, rfl, hc1, hc2, hrd, hA1⟩ := hs.reads
  have hx1 := hx0.other hf2 (by simp) (by simp)
  have hy1 := hy0.other hf2 (by simp) (by simp)
  have hA2 : ∀ ad, A1 = some ad → w1.heap.size + 2 ≤ ad.block ∧ ad.block < w2.heap.size := fun ad ha => ⟨by have := hn2 _ (hA1 ad ha); simp at this; omega, hs.lt _ (hA1 ad ha)⟩
  have hs2 := hf2.size
  simp at hs2
  clear hx0 hy0 hs hA1 hn2 hf2
  go_wp2_with fail
  refine (Writer_Row_calls _ bty_writer w1.heap.size [] _ _ _ _ m1 hrd (fun ad ha hm => by have := (hA2 ad ha).1; simp at hm; omega) (fun ad ha => (hA2 ad ha).2) hx1.bld (by rw [e0]; omega)).mono ?_
  rintro e w3 ⟨rfl, r3, h3, hf3, hn3⟩
  rw [nil_app] at h3
  have hx2 := hx1.step h3 hf3 hn3
  have hy2 := hy1.other hf3 (by simp) (by intro k hk; simp at hk; have := hf1.size; omega)
  have hr3 : ∀ k, k ∈ r3 → w1.heap.size + 2 ≤ k := fun k hk => by have := hn3 k hk; simp at this; omega
  have hs3 := hf3.size
  clear hx1 hy1 h3 hf3 hn3 hrd hA2
  go_wp2_with fail
  refine (Writer_String_calls _ bty_writer w1.heap.size r3 _ _ hx2.bld).mono ?_
  rintro e w4 ⟨rfl, h4, hf4⟩
  have hy3 := hy2.other hf4 (by intro k hk hk2; have := hr3 k hk2; simp at hk; omega) (by intro k hk; have := hr3 k hk; have := hf1.size; omega)
  have hs4 := hf4.size
  clear hx2 hy2 h4 hf4 hr3
  go_wp2_with fail
  refine (HB.out _ hy3.fr).mono ?_
  rintro e w5 ⟨v5, r5, rfl, hs5', hf5, hn5⟩
  obtain ⟨A5, c5, rfl, hc5, hc6, hrd5, hA5⟩ := hs5'.reads
  have hy4 := hy3.other hf5 (by simp) (by simp)
  have hA6 : ∀ ad, A5 = some ad → w1.heap.size + 2 ≤ ad.block ∧ ad.block < w5.heap.size := fun ad ha => ⟨by have := hn5 _ (hA5 ad ha); omega, hs5'.lt _ (hA5 ad ha)⟩
  have hs5 := hf5.size
  clear hy3 hs5' hA5 hn5 hf5
  go_wp2_with fail
  refine (Writer_Row_calls _ bty_writer (w1.heap.size + 1) [] _ _ _ _ m2 hrd5 (fun ad ha hm => by have := (hA6 ad ha).1; simp at hm; omega) (fun ad ha => (hA6 ad ha).2) hy4.bld (by rw [e0]; omega)).mono ?_
  rintro e w6 ⟨rfl, r6, h6, hf6, hn6⟩
  rw [nil_app] at h6
  have hy5 := hy4.step h6 hf6 hn6
  clear hy4 h6 hf6 hn6 hrd5 hA6
  go_wp2_with fail
  refine (Writer_String_calls _ bty_writer (w1.heap.size + 1) r6 _ _ hy5.bld).mono ?_
  rintro e w7 ⟨rfl, h7, hf7⟩
  have hF7 : Fr [] w w7 := hy5.fr.trans hf7 (fun k hk => .inr (hy5.new k (by simp [hk])))
  clear hy5 h7 hf7
  go_wp2_with fail
  refine (HA.out _ hF7).mono ?_
  rintro e w8 ⟨v8, r8, rfl, hs8, hf8, hn8⟩
  obtain ⟨A8, c8, rfl, hc8, hc9, hrd8, hA8⟩ := hs8.reads
  have hF8 := hF7.then hf8
  clear hs8 hA8 hn8 hf8 hF7
  go_wp2_with fail
  refine (HB.out _ hF8).mono ?_
  rintro e w9 ⟨v9, r9, rfl, hs9, hf9, hn9⟩
  obtain ⟨A9, c9, rfl, hc10, hc11, hrd9, hA9⟩ := hs9.reads
  have hF9 := hF8.then hf9
  have hrd8' := hrd8.keep hf9 (by simp)
  clear hs9 hA9 hn9 hf9 hF8 hrd8
  go_wp2_with fail
  refine (Same03_calls _ _ _ _ _ m1 m2 hrd8' hrd9 (by simp only [maxLen]; omega) (by simp only [maxLen]; omega)).mono ?_
  rintro e w10 ⟨rfl, hf10⟩
  have hF10 := hF9.then hf10
  clear hrd8' hrd9 hf10 hF9 HA HB hs2 hs3 hs4 hs5
  clear hc1 hc2 hc5 hc6 hc8 hc9 hc10 hc11
  by_cases hm : m1 = m2
  · subst hm
    have hsame : sameB m1 m1 = true := decide_eq_true rfl
    have hex : (rowB m1).extract 0 (rowB m1).size = rowB m1 := by
      apply ByteArray.ext
      rw [ByteArray.data_extract]
      exact Array.extract_size
    rw [hsame]
    generalize rowB m1 = s at hex
    have HEX := Lib.hid hex
    clear hsame hex
    go_wp2
    all_goals (go_ret; exact ⟨rfl, hF10⟩)
  · have hsame : sameB m1 m2 = false := decide_eq_false hm
    have hs1 : ∀ x, x ∈ m1 → x.size < 18446744073709551616 := fun x hx => by have := HS1.out x hx; omega
    have hs2 : ∀ x, x ∈ m2 → x.size < 18446744073709551616 := fun x hx => by have := HS2.out x hx; omega
    have hne : (rowB m1).toList = (rowB m2).toList → False := fun h => hm (rowB_inj hs1 (by omega) (toList_inj h))
    have hb1 : ((rowB m2).extract 0 (rowB m1).size).toList = (rowB m1).toList → False := fun h => hm (rowB_begins hs1 (by omega) (toList_inj h))
    have hb2 : ((rowB m1).extract 0 (rowB m2).size).toList = (rowB m2).toList → False := fun h => hm (rowB_begins hs2 (by omega) (toList_inj h)).symm
    rw [hsame]
    generalize rowB m1 = s at hne hb1 hb2
    generalize rowB m2 = t at hne hb1 hb2
    have hn1 : (s.toList == t.toList) = false := beq_eq_false_iff_ne.2 hne
    have hn2 : ((t.extract 0 s.size).toList == s.toList) = false := beq_eq_false_iff_ne.2 hb1
    have hn3 : ((s.extract 0 t.size).toList == t.toList) = false := beq_eq_false_iff_ne.2 hb2
    clear hne hb1 hb2 hs1 hs2 hsame hm
    go_wp2
    all_goals (go_ret; exact ⟨rfl, hF10⟩)

/-- For any two rows of texts the law returns true. -/
theorem PackTwo_walk (w : World) (A : Option Addr) (ca : Nat) (la : List ByteArray) (hra : RdV w A (la.map .string)) (hsa : ∀ x, x ∈ la → x.size ≤ maxLen) (hla : la.length ≤ maxLen) (B : Option Addr) (cb : Nat) (lb : List ByteArray) (hrb : RdV w B (lb.map .string)) (hsb : ∀ x, x ∈ lb → x.size ≤ maxLen) (hlb : lb.length ≤ maxLen) :
    Calls Try.prog 5 #[.slice A la.length ca, .slice B lb.length cb] w fun e w' => e = .returned (.bool true) ∧ Fr [] w w' :=
  PackTwo_core A B ca cb la lb _ _ rfl rfl w hra hrb hsa hsb hla hlb

end Go.Proofs.Ytngonnnjehlfbaa
