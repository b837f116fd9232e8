/- Addresses: the contracts of Mask and Split. -/
import Derived.Test.YtfaopjoglgmoiaaDoorAddr5
import Derived.Test.YtfaopjoglgmoiaaDoorAddrQ
import Derived.Test.YtfaopjoglgmoiaaDoorMild3
namespace Go.Proofs.YtfaopjoglgmoiaaDoor
open Go.RowKit Go.Lib
set_option linter.unusedVariables false
set_option linter.unusedSimpArgs false
attribute [local go_sem] mildAt mildUpon

theorem bL_of {s : ByteArray} {l : List UInt8} (h : s.data.toList = l) : s = bL l := by rw [← h, bL_list]
theorem ext_take (s : ByteArray) (k : Nat) : (s.extract 0 k).data.toList = s.data.toList.take k := by
  rw [ByteArray.data_extract, Array.toList_extract, List.extract_eq_take_drop, List.drop_zero, Nat.sub_zero]
theorem ext_drop (s : ByteArray) (k : Nat) : (s.extract k s.size).data.toList = s.data.toList.drop k := by
  rw [ByteArray.data_extract, Array.toList_extract, List.extract_eq_take_drop]
  exact List.take_of_length_le (by rw [List.length_drop, len_size]; omega)
set_option maxHeartbeats 2000000 in
set_option maxRecDepth 100000 in
theorem Mask_calls (w : World) (hM : ML w) (s : ByteArray) (hs : s.size ≤ 100000) :
    Calls Tryd.prog 15 #[.string s] w fun e w' => e = .returned (.string (bL (maskL s.data.toList))) ∧ Fr [] w w' := by
  have hk := Kind_calls w hM s (by omega)
  have HM := Lib.hid hM
  have hl := len_size s
  clear hM
  by_cases h1 : mailL s.data.toList = true
  · obtain ⟨a, b, hab, e, h40, hna, hho⟩ := mail_parts h1
    rw [(kind_one _).2 h1] at hk
    have ha1 : 1 ≤ a.length := by
      cases a with
      | nil => cases hna
      | cons x a => simp
    have hsz : a.length + 1 + b.length = s.size := by
      rw [← hl, e, List.length_append, List.length_cons]; omega
    have hres : s.extract 0 1 ++ ⟨#[42, 42, 42]⟩ ++ s.extract a.length s.size = bL (maskL s.data.toList) := by
      apply bL_of
      rw [ByteArray.data_append, ByteArray.data_append, Array.toList_append, Array.toList_append, ext_take, ext_drop]
      unfold maskL
      rw [if_pos h1, hab]
      simp only [Option.map_some, Option.getD_some]
      congr 1
      conv => lhs; rw [e]
      exact List.drop_left' rfl
    have hix : ∀ W, ML W → Calls Tryd.prog 29 #[.string s, .string ⟨#[64]⟩] W fun e w' => e = .returned (.int .i64 (a.length : Nat)) ∧ Fr [] W w' := fun W hW => by
      obtain ⟨m, hm⟩ := hW
      have h := Tryd.strings_Index s ⟨#[64]⟩ m W (by omega) hm
      rw [show (⟨#[64]⟩ : ByteArray).data.toList = [64] from rfl, index_one, hab] at h
      exact h.mono fun e w' ⟨he, hw⟩ => ⟨he, by rw [hw]; exact Fr.refl _ _⟩
    have z1 : (s.extract 0 1).size = 1 := by rw [ByteArray.size_extract]; omega
    have z2 : (s.extract a.length s.size).size ≤ 40 := by rw [ByteArray.size_extract]; omega
    rw [← hres]
    clear hres hab e hna hho h1
    obtain ⟨k, hkk⟩ : ∃ k, k = a.length := ⟨_, rfl⟩
    rw [← hkk] at hix z2 ⊢
    have k0 : (0 : Int) ≤ (k : Int) := by omega
    have k1 : (k : Int) ≤ (s.size : Int) := by omega
    have k2 : k ≤ s.size := by omega
    have k3 : (1 : Int) ≤ (s.size : Int) := by omega
    have k4 : 1 ≤ s.size := by omega
    have g1 : (9223372036854775807 < (s.extract 0 1).size + 3) = False := eq_false (by omega)
    have g2 : (9223372036854775807 < (s.extract 0 1).size + 3 + (s.extract k s.size).size) = False := eq_false (by omega)
    have g3 : (9223372036854775807 < min 1 s.size + 3) = False := eq_false (by omega)
    have g4 : (9223372036854775807 < min 1 s.size + 3 + (s.size - k)) = False := eq_false (by omega)
    have g5 : (9223372036854775807 < 4 + (s.size - k)) = False := eq_false (by omega)
    have HIX := Lib.hid hix
    clear hix hkk hsz h40 ha1 z1 z2
    go_enter Tryd.func15, Tryd.ntmps15
    go_wp2_with fail
    (with_reducible refine hk.mono ?_)
    rintro e w1 ⟨rfl, hf1⟩
    have HF := Lib.hid hf1
    clear hf1 hk
    go_wp2_with fail
    refine wp_region_mild 9 (by kernel_rfl) (by kernel_rfl) ?_
    simp only [List.take_succ_cons, List.take_zero, List.drop_succ_cons, List.drop_zero, List.take_nil, List.drop_nil]
    repeat (first
      | ((apply mild_det0; (· rfl); (· intro W hW K hK; have hW' : Fr [] w1 W := ⟨hW.os, hW.tape, hW.output, hW.size, hW.block⟩; go_simp; with_reducible exact mild_call (HIX.out W (HM.out.keep (HF.out.then hW'))) hK)); simp only [Act.put, List.setIfInBounds_toArray, List.set_cons_succ, List.set_cons_zero, Nat.reduceAdd])
      | (apply mild_det0; (· rfl); (· intro W hW K hK; go_simp; exact hK _ (Fr.refl _ _)); simp only [Act.put, List.setIfInBounds_toArray, List.set_cons_succ, List.set_cons_zero, Nat.reduceAdd])
      | (apply mild_slice; (· rfl); (· intro W hW K hK; go_simp; exact hK _ _ ((Fr.refl _ _).alloc _) ⟨_, rfl, heap_alloc_new _ _⟩); simp only [Act.put, List.setIfInBounds_toArray, List.set_cons_succ, List.set_cons_zero, Nat.reduceAdd]))
    refine mild_nil ?_
    intro W2 hW2
    have HF2 := Lib.hid (HF.out.then (c := W2) ⟨hW2.os, hW2.tape, hW2.output, hW2.size, hW2.block⟩)
    clear hW2
    simp only [subAll]
    (try simp only [Act.put, List.setIfInBounds_toArray, List.set_cons_succ, List.set_cons_zero])
    go_wp2_with fail
    go_ret
    exact ⟨rfl, HF2.out⟩
  · have hm0 : mailL s.data.toList = false := by simpa using h1
    by_cases h2 : phoneL s.data.toList = true
    · rw [(kind_two _).2 h2] at hk
      have h16 := phone_short h2
      have h9 : 9 ≤ s.size := by
        unfold phoneL at h2
        simp only [Bool.and_eq_true, decide_eq_true_eq] at h2
        omega
      have hres : ⟨#[43, 42, 42, 42]⟩ ++ s.extract (s.size - 2) s.size = bL (maskL s.data.toList) := by
        apply bL_of
        rw [ByteArray.data_append, Array.toList_append, ext_drop]
        unfold maskL
        rw [hm0, h2, hl]
        rfl
      rw [← hres]
      have q1 : (0 : Int) ≤ (s.size : Int) - 2 := by omega
      have q2 : (s.size : Int) - 2 ≤ (s.size : Int) := by omega
      have q3 : ((s.size : Int) - 2).toNat = s.size - 2 := by omega
      have z2 : (s.extract (s.size - 2) s.size).size ≤ 40 := by rw [ByteArray.size_extract]; omega
      have g1 : (9223372036854775807 < 4 + (s.extract (s.size - 2) s.size).size) = False := eq_false (by omega)
      clear hres h2 hm0 h1 hl
      go_enter Tryd.func15, Tryd.ntmps15
      go_wp2_with fail
      (with_reducible refine hk.mono ?_)
      rintro e w1 ⟨rfl, hf1⟩
      have HF := Lib.hid hf1
      clear hf1 hk
      go_wp2_with fail
      go_ret
      exact ⟨rfl, HF.out⟩
    · have hp0 : phoneL s.data.toList = false := by simpa using h2
      rw [show kindL s.data.toList = 0 from by unfold kindL; rw [hm0, hp0]; rfl] at hk
      rw [show maskL s.data.toList = [42, 42, 42] from by unfold maskL; rw [hm0, hp0]; rfl]
      clear h1 h2 hm0 hp0 hl
      go_enter Tryd.func15, Tryd.ntmps15
      go_wp2_with fail
      (with_reducible refine hk.mono ?_)
      rintro e w1 ⟨rfl, hf1⟩
      have HF := Lib.hid hf1
      clear hf1 hk
      go_wp2_with fail
      go_ret
      exact ⟨rfl, HF.out⟩
set_option maxRecDepth 100000 in
theorem Split_calls (w : World) (hM : ML w) (s : ByteArray) (hs : s.size ≤ 100000) {x y : ByteArray} {ok : Bool} (hx : (if mailL s.data.toList then cutS 64 s else (⟨#[]⟩, ⟨#[]⟩, false)) = (x, y, ok)) :
    Calls Tryd.prog 23 #[.string s] w fun e w' => e = .returned (.tuple #[.string x, .string y, .bool ok]) ∧ Fr [] w w' := by
  have hk := Kind_calls w hM s (by omega)
  have hc := fun W h => cut_calls W h s 64 (by omega)
  have HM := Lib.hid hM
  clear hM
  by_cases h1 : mailL s.data.toList = true
  · rw [(kind_one _).2 h1] at hk
    rw [if_pos h1] at hx
    rw [hx] at hc
    simp only at hc
    have HC := Lib.hid hc
    clear hx hc h1
    go_enter Tryd.func23, Tryd.ntmps23
    go_wp2_with fail
    (with_reducible refine hk.mono ?_)
    rintro e w1 ⟨rfl, hf1⟩
    have HF := Lib.hid hf1
    clear hf1 hk
    go_wp2_with fail
    (with_reducible refine (HC.out _ (HM.out.keep HF.out)).mono ?_)
    rintro e w2 ⟨rfl, hf2⟩
    have HF2 := Lib.hid (HF.out.then hf2)
    clear hf2
    go_wp2_with fail
    go_ret3
    exact ⟨rfl, HF2.out⟩
  · rw [if_neg h1] at hx
    simp only [Prod.mk.injEq] at hx
    obtain ⟨rfl, rfl, rfl⟩ := hx
    have hk1 : kindL s.data.toList ≠ 1 := fun h => h1 ((kind_one _).1 h)
    generalize kindL s.data.toList = kd at *
    have hb : ((kd : Int) != 1) = true := bne_iff_ne.2 (by omega)
    clear hc h1 hk1
    go_enter Tryd.func23, Tryd.ntmps23
    go_wp2_with fail
    (with_reducible refine hk.mono ?_)
    rintro e w1 ⟨rfl, hf1⟩
    have HF := Lib.hid hf1
    clear hf1 hk
    go_wp2_with fail
    go_ret3
    exact ⟨rfl, HF.out⟩
end Go.Proofs.YtfaopjoglgmoiaaDoor
