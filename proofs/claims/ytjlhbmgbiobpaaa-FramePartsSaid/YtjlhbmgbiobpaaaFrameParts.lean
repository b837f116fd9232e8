/- The law FrameParts: for any two rows of texts the Go function returns true (its walk). -/
import Derived.Test.YtjlhbmgbiobpaaaFrameTorn
import Derived.Test.YtjlhbmgbiobpaaaRows3
namespace Go.Proofs.Ytjlhbmgbiobpaaa
open Go.RowKit
set_option linter.unusedVariables false
set_option linter.unusedSimpArgs false

set_option maxHeartbeats 1000000 in
set_option maxRecDepth 100000 in
theorem FrameParts_walk (w : World) (A1 : Option Addr) (cap1 : Nat) (l1 : List ByteArray) (hr1 : RdV w A1 (l1.map .string)) (hsz1 : ∀ x, x ∈ l1 → x.size ≤ maxLen) (hl1 : l1.length ≤ maxLen) (A2 : Option Addr) (cap2 : Nat) (l2 : List ByteArray) (hr2 : RdV w A2 (l2.map .string)) (hsz2 : ∀ x, x ∈ l2 → x.size ≤ maxLen) (hl2 : l2.length ≤ maxLen) :
    Calls Try.prog 6 #[.slice A1 l1.length cap1, .slice A2 l2.length cap2] w fun e w' => e = .returned (.bool true) ∧ Fr [] w w' := by
  obtain ⟨hfx, hx80, hx6⟩ := few04_fits l1
  obtain ⟨hfy, hy80, hy6⟩ := few04_fits l2
  have HX := Lib.hid (fun (W : World) (h : RdV W A1 (l1.map .string)) => few04_calls W A1 cap1 l1 h hsz1 hl1)
  have HY := Lib.hid (fun (W : World) (h : RdV W A2 (l2.map .string)) => few04_calls W A2 cap2 l2 h hsz2 hl2)
  generalize few04B l1 = x at hfx hx80 hx6 HX
  generalize few04B l2 = y at hfy hy80 hy6 HY
  have hxl := allB_le x hx80
  have hyl := allB_le y hy80
  have HA := Lib.hid (allB_app x y)
  have HT := Lib.hid (texts_all0 hfy)
  have HE := Lib.hid (extract_right (allB x) (allB y))
  go_enter Try.func6, Try.ntmps6
  go_wp2_with fail
  (with_reducible refine (awake04_calls _).mono ?_)
  rintro e w1 ⟨rfl, hf1⟩
  have HR1 := Lib.hid (hr1.keep hf1 (by simp))
  have HR2 := Lib.hid (hr2.keep hf1 (by simp))
  clear hr1 hr2
  go_wp2_with fail
  (with_reducible refine (HX.out _ HR1.out).mono ?_)
  rintro e w2 ⟨v, r, rfl, hs2, hf2, hn2⟩
  obtain ⟨B, c2, rfl, hc2, hc3, hb2, hbr⟩ := hs2.reads
  have HB2 := Lib.hid hb2
  have HF2 := Lib.hid (hf1.then hf2)
  have HR3 := Lib.hid (HR2.out.keep hf2 (by simp))
  clear hs2 hf1 hf2 hn2 hb2 hbr HR1 HX HR2
  go_wp2_with fail
  (with_reducible refine (HY.out _ HR3.out).mono ?_)
  rintro e w3 ⟨v, r3, rfl, hs3, hf3, hn3⟩
  obtain ⟨C, c3, rfl, hc4, hc5, hb3, hbr3⟩ := hs3.reads
  have HC3 := Lib.hid hb3
  have HB3 := Lib.hid (HB2.out.keep hf3 (by simp))
  have HF3 := Lib.hid (HF2.out.then hf3)
  clear hs3 hf3 hn3 hb3 hbr3 HR3 HY HB2 HF2
  have hm6 : x.length + y.length ≤ 1000000 := by omega
  have hxm : ∀ u ∈ x.map Value.string, u.oneCell' = true := fun u hu => by obtain ⟨s, _, rfl⟩ := List.mem_map.1 hu; rfl
  have hym : ∀ u ∈ y.map Value.string, u.oneCell' = true := fun u hu => by obtain ⟨s, _, rfl⟩ := List.mem_map.1 hu; rfl
  have HXM := Lib.hid hxm
  have HYM := Lib.hid hym
  have HX8 := Lib.hid hx80
  have HY8 := Lib.hid hy80
  clear hxm hym hx80 hy80
  go_wp2_with (at_builtin; refine wpList_sapp_any rfl _ _ 29 rfl 9 Try.underlying29 (.string ⟨#[]⟩) 1 16 infoString rfl (by decide) (.slice (some ⟨w3.heap.size, 0, none⟩) 0 0) [w3.heap.size] 0 [] rfl (SRow.empty _ _ _ rfl) B x.length c2 (x.map .string) rfl (by simp) (HB3.out.keep ((Fr.refl [] _).alloc _) (by simp)) HXM.out (by simp only [maxLen]; omega) (by omega) ?_)
  intro v4 w4 r4 h4 hf4 hn4
  have hr4 : ∀ k, k ∈ r4 → w3.heap.size ≤ k := fun k hk => by
    rcases hn4 k hk with h | h
    · first | omega | (simp at h; omega)
    · first | omega | (simp at h; omega)
  have hfa : Fr [] w3 w4 := ((Fr.refl _ _).alloc _).trans hf4 (fun k hk => .inr (by simp at hk; omega))
  have HC4 := Lib.hid (HC3.out.keep hfa (by simp))
  have HF4 := Lib.hid (HF3.out.then hfa)
  have HS4 := Lib.hid h4
  have HR4 := Lib.hid hr4
  have HFA := Lib.hid hfa
  clear h4 hf4 hn4 hr4 hfa
  go_wp2_with (at_builtin; refine wpList_sapp_any rfl _ _ 29 rfl 9 Try.underlying29 (.string ⟨#[]⟩) 1 16 infoString rfl (by decide) v4 r4 x.length (x.map .string) rfl HS4.out C y.length c3 (y.map .string) rfl (by simp) HC4.out HYM.out (by simp only [maxLen]; omega) (by omega) ?_)
  intro v5 w5 r5 h5 hf5 hn5
  have hfb : Fr [] w3 w5 := HFA.out.trans hf5 (fun k hk => .inr (HR4.out k hk))
  obtain ⟨D, c5, rfl, -, -, hb5, -⟩ := h5.reads
  rw [← List.map_append] at hb5
  have HD5 := Lib.hid hb5
  have HF5 := Lib.hid (HF4.out.trans hf5 (fun k hk => .inr (Nat.le_trans HF3.out.size (HR4.out k hk))))
  have HB5 := Lib.hid (HB3.out.keep hfb (by simp))
  have HC5 := Lib.hid (HC3.out.keep hfb (by simp))
  clear h5 hf5 hn5 hfb HB3 HC3 HF3 HC4 HF4 HS4 HR4 HFA HXM HYM
  have hm1 : ∀ u, u ∈ x → u.size ≤ 1000 := fun u hu => by have := HX8.out u hu; omega
  have hm2 : ∀ u, u ∈ y → u.size ≤ 1000 := fun u hu => by have := HY8.out u hu; omega
  have hm3 : ∀ u, u ∈ x ++ y → u.size ≤ 1000 := fun u hu => by
    rcases List.mem_append.1 hu with h | h
    · exact hm1 u h
    · exact hm2 u h
  have HM1 := Lib.hid hm1
  have HM2 := Lib.hid hm2
  have HALL : Hid (∀ W, RdV W D ((x ++ y).map .string) → Calls Try.prog 12 #[.slice D (x.length + y.length) c5] W fun e w' => e = .returned (.string (allB x ++ allB y)) ∧ Fr [] W w') := Lib.hid (fun W h => by
    rw [← List.length_append, ← HA.out]
    exact All_calls W D c5 (x ++ y) h hm3 (by rw [List.length_append]; omega))
  have hx6' : x.length ≤ 1000000 := by omega
  have hy6' : y.length ≤ 1000000 := by omega
  have HAX := Lib.hid (fun W h => All_calls W B c2 x h HM1.out hx6')
  have HAY := Lib.hid (fun W h => All_calls W C c3 y h HM2.out hy6')
  clear hm1 hm2 hm3 HX8 HY8 HA HM1 HM2
  generalize allB x = X at *
  generalize allB y = Y at *
  have hX : X.size ≤ 600 := by omega
  have hY : Y.size ≤ 600 := by omega
  have HXY := Lib.hid (show (X ++ Y).size = X.size + Y.size from ByteArray.size_append)
  clear hxl hyl
  go_wp2_with fail
  (with_reducible refine (HALL.out _ HD5.out).mono ?_)
  rintro e w6 ⟨rfl, hf6⟩
  have HB6 := Lib.hid (HB5.out.keep hf6 (by simp))
  have HC6 := Lib.hid (HC5.out.keep hf6 (by simp))
  have HF6 := Lib.hid (HF5.out.then hf6)
  clear hf6 HB5 HC5 HF5 HD5 HALL
  go_wp2_with fail
  (with_reducible refine (HAX.out _ HB6.out).mono ?_)
  rintro e w7 ⟨rfl, hf7⟩
  have HB7 := Lib.hid (HB6.out.keep hf7 (by simp))
  have HC7 := Lib.hid (HC6.out.keep hf7 (by simp))
  have HF7 := Lib.hid (HF6.out.then hf7)
  clear hf7 HB6 HC6 HF6
  have hxy : (X ++ Y).size = X.size + Y.size := HXY.out
  have hle : X.size ≤ (X ++ Y).size := by omega
  have HEX : Hid ((X ++ Y).extract X.size (X.size + Y.size) = Y) := Lib.hid (by rw [← hxy]; exact HE.out)
  clear hxy
  go_wp2_with fail
  rw [HEX.out]
  (with_reducible refine (Scan_calls _ Y (by omega)).mono ?_)
  rintro e w8 ⟨E, c8, r8, rfl, h8, hf8, hn8⟩
  rw [HT.out.1] at h8 ⊢
  rw [HT.out.2]
  obtain ⟨E', c8', he8, -, -, hb8, -⟩ := h8.reads
  obtain ⟨rfl, rfl⟩ : E = E' ∧ c8 = c8' := by injection he8 with a b c; exact ⟨a, c⟩
  have HE8 := Lib.hid hb8
  have HB8 := Lib.hid (HB7.out.keep hf8 (by simp))
  have HC8 := Lib.hid (HC7.out.keep hf8 (by simp))
  have HF8 := Lib.hid (HF7.out.then hf8)
  clear h8 he8 hb8 hf8 hn8 HB7 HC7 HF7 HEX hle
  go_wp2_with fail
  (with_reducible refine (Same03_calls _ E C c8 c3 y y HE8.out HC8.out (by simp only [maxLen]; omega) (by simp only [maxLen]; omega)).mono ?_)
  rintro e w9 ⟨rfl, hf9⟩
  rw [sameB_self]
  have HB9 := Lib.hid (HB8.out.keep hf9 (by simp))
  have HC9 := Lib.hid (HC8.out.keep hf9 (by simp))
  have HF9 := Lib.hid (HF8.out.then hf9)
  clear hf9 HB8 HC8 HF8 HE8
  go_wp2_with fail
  (with_reducible refine (HAX.out _ HB9.out).mono ?_)
  rintro e w10 ⟨rfl, hf10⟩
  have HC10 := Lib.hid (HC9.out.keep hf10 (by simp))
  have HF10 := Lib.hid (HF9.out.then hf10)
  clear hf10 HB9 HC9 HF9
  go_wp2_with fail
  (with_reducible refine (HAY.out _ HC10.out).mono ?_)
  rintro e w11 ⟨rfl, hf11⟩
  have HF11 := Lib.hid (HF10.out.then hf11)
  clear hf11 HC10 HF10
  have hs : X.size + Y.size ≤ 9223372036854775807 := by omega
  have hb1 : ((X ++ Y).toList == (X ++ Y).toList) = true := beq_iff_eq.2 rfl
  have hb2 : ((Y.size : Int) == (X.size : Int) + (Y.size : Int) - (X.size : Int)) = true := beq_iff_eq.2 (by omega)
  go_wp2_with fail
  go_ret
  exact ⟨rfl, HF11.out⟩

end Go.Proofs.Ytjlhbmgbiobpaaa
