/- The law AddressMasks: for any numbers the Go function returns true (its walk). -/
import Derived.Test.YtfaopjoglgmoiaaDoorAddr7
import Derived.Test.YtfaopjoglgmoiaaDoorAddrL
namespace Go.Proofs.YtfaopjoglgmoiaaDoor
open Go.RowKit Go.Lib
set_option linter.unusedVariables false
set_option linter.unusedSimpArgs false
attribute [local go_sem] mildAt mildUpon

def digT : ByteArray := ⟨#[48, 49, 50, 51, 52, 53, 54, 55, 56, 57]⟩
theorem mask_ends : ∀ x, x < 10 → ∀ y, y < 10 → maskL ([43, 52, 57, 49, 50, 51, 52, 53] ++ (digT.data.toList.drop x).take 1 ++ (digT.data.toList.drop y).take 1) = [43, 42, 42, 42] ++ (digT.data.toList.drop x).take 1 ++ (digT.data.toList.drop y).take 1 ∧
    maskL ([43, 48, 57, 49, 50, 51, 52, 53] ++ (digT.data.toList.drop x).take 1 ++ (digT.data.toList.drop y).take 1) = [42, 42, 42] := by decide +kernel
theorem dig_cut (x : Nat) : (digT.extract x (x + 1)).data.toList = (digT.data.toList.drop x).take 1 := by
  rw [ByteArray.data_extract, Array.toList_extract, List.extract_eq_take_drop, Nat.add_sub_cancel_left]
theorem lets_facts (l : List Int) : (madeS letT (l.take 10) ⟨#[120]⟩).data.toList.all lowN = true ∧ (madeS letT (l.take 10) ⟨#[120]⟩).size ≤ 11 := by
  refine ⟨madeS_all lowN letT (by decide) _ _ (by decide), ?_⟩
  have h := madeS_size letT (l.take 10) ⟨#[120]⟩
  rw [List.length_take] at h
  have e : (⟨#[120]⟩ : ByteArray).size = 1 := rfl
  omega
theorem lets_head (tab : ByteArray) (x : UInt8) : ∀ (l : List Int) (s : ByteArray), (∃ t, s.data.toList = x :: t) → ∃ t, (madeS tab l s).data.toList = x :: t
  | [], s, h => h
  | k :: l, s, h => by
    obtain ⟨t, h⟩ := h
    rw [madeS]
    exact lets_head tab x l _ ⟨_, by rw [ByteArray.data_append, Array.toList_append, h]; rfl⟩
/-- A name of letters at h.org: its mask. -/
theorem mask_made (l : List Int) : maskL (madeS letT (l.take 10) ⟨#[120]⟩ ++ ⟨#[64, 104, 46, 111, 114, 103]⟩ : ByteArray).data.toList = [120, 42, 42, 42, 64, 104, 46, 111, 114, 103] := by
  obtain ⟨ha, hz⟩ := lets_facts l
  obtain ⟨t, ht⟩ := lets_head letT 120 (l.take 10) ⟨#[120]⟩ ⟨[], rfl⟩
  rw [ByteArray.data_append, Array.toList_append]
  have hl := len_size (madeS letT (l.take 10) ⟨#[120]⟩)
  exact mask_letters (h := [104, 46, 111, 114, 103]) 120 t ht ha (by decide) (by rw [hl]; simp; omega)

set_option maxHeartbeats 4000000 in
set_option maxRecDepth 100000 in
theorem AddressMasks_walk (w : World) (hM : ML w) (A : Option Addr) (cap : Nat) (l : List Int) (hr : RdV w A (l.map (.int .i64))) (hb : ∀ x, x ∈ l → Bd .i64 x) (hl : l.length ≤ maxLen) (B : Option Addr) (cap2 : Nat) (m : List Int) (hr2 : RdV w B (m.map (.int .i64))) (hb2 : ∀ x, x ∈ m → Bd .i64 x) (hl2 : m.length ≤ maxLen) (n0 : Int) (hn0 : Bd .u64 n0) :
    Calls Tryd.prog 7 #[.slice A l.length cap, .slice B m.length cap2, .int .u64 n0] w fun e w' => e = .returned (.bool true) ∧ Fr [] w w' := by
  unfold maxLen at hl hl2
  have haw := awake09_calls w hM
  have hmk : ∀ W, Fr [] w W → ∀ x : ByteArray, x.size ≤ 1000 → Calls Tryd.prog 15 #[.string x] W fun e w' => e = .returned (.string (bL (maskL x.data.toList))) ∧ Fr [] W w' := fun W hf x hx => Mask_calls W (hM.keep hf) x (by omega)
  have HR := Lib.hid hr
  have HR2 := Lib.hid hr2
  have HMK := Lib.hid hmk
  obtain ⟨x, hx1, hx2, hx10⟩ : ∃ x : Nat, n0.tmod 10 = (x : Int) ∧ n0 % 10 = (x : Int) ∧ x < 10 := by
    have h := hn0.u64
    exact ⟨(n0 % 10).toNat, by rw [Int.tmod_eq_emod_of_nonneg h.1]; omega, by omega, by omega⟩
  obtain ⟨q, hq1, hq2, hq0⟩ : ∃ q : Int, n0.tdiv 10 = q ∧ n0 / 10 = q ∧ 0 ≤ q := by
    have h := hn0.u64
    exact ⟨n0 / 10, Int.tdiv_eq_ediv_of_nonneg h.1, rfl, by omega⟩
  obtain ⟨y, hy1, hy2, hy10⟩ : ∃ y : Nat, q.tmod 10 = (y : Int) ∧ q % 10 = (y : Int) ∧ y < 10 := by
    exact ⟨(q % 10).toNat, by rw [Int.tmod_eq_emod_of_nonneg hq0]; omega, by omega, by omega⟩
  have ⟨hn1, hn2⟩ := hn0.u64
  clear hr hb hr2 hb2 hmk hM hn0
  go_enter Tryd.func7, Tryd.ntmps7
  go_wp2_with fail
  (with_reducible refine haw.mono ?_)
  rintro e w1 ⟨rfl, hf1⟩
  have HF := Lib.hid hf1
  clear hf1 haw
  go_wp2_with fail
  go_loop [9, 11] (fun v9 v11 => ∃ (i : Nat) (s : ByteArray), v9 = .string s ∧ v11 = .int .i64 i ∧ i ≤ l.length ∧ i ≤ 10 ∧ s.size ≤ 1 + i ∧ Hid (s = madeS letT (l.take i) ⟨#[120]⟩)) (fun _ v11 => 10 - (intOf v11).toNat)
  case atStart => exact ⟨0, _, rfl, rfl, Nat.zero_le _, Nat.zero_le _, by decide, Lib.hid rfl⟩
  case round =>
    obtain ⟨i, sl, rfl, rfl, hil, hi10, hss, H⟩ := hrel
    rcases (by omega : (i < l.length ∧ i < 10) ∨ (i < l.length ∧ ¬ i < 10) ∨ ¬ i < l.length) with ⟨h1, h2⟩ | ⟨h1, h2⟩ | h1
    · obtain ⟨ad, rfl, hc0⟩ := HR.out i (.int .i64 l[i]) (by simp [h1])
      have hc := HF.out.cell' hc0 (by simp)
      obtain ⟨k, hk, hk16⟩ : ∃ k : Nat, l[i] % 16 = (k : Int) ∧ k < 16 := ⟨(l[i] % 16).toNat, by omega, by omega⟩
      have hand : bits .and .i64 l[i] 15 = (k : Int) := by rw [i64_and15, hk]
      have hn : madeS letT (l.take (i + 1)) ⟨#[120]⟩ = madeS letT (l.take i) ⟨#[120]⟩ ++ letT.extract k (k + 1) := by
        rw [List.take_succ_eq_append_getElem h1, madeS_snoc, hk, Int.toNat_natCast]
      have HN := Lib.hid hn
      clear hk hn hc0
      generalize l[i] = z at *
      have hk0 : (0 : Int) ≤ (k : Int) := by omega
      have g1 : (9223372036854775807 < sl.size + 1) = False := eq_false (by omega)
      clear hx1 hx2 hq1 hq2 hy1 hy2
      go_wp2_with fail
      refine ⟨⟨i + 1, _, rfl, by go_num, by omega, by omega, ?_, Lib.hid ?_⟩, by simp only [intOf]; omega⟩
      · rw [ByteArray.size_append, ByteArray.size_extract]; omega
      · rw [HN.out, ← H.out]; rfl
    all_goals
      have HSl : Hid (sl = madeS letT (l.take 10) ⟨#[120]⟩) := Lib.hid (by
        rw [H.out]
        first
        | rw [show i = 10 from by omega]
        | rw [List.take_of_length_le (show l.length ≤ i by omega), List.take_of_length_le (show l.length ≤ 10 by omega)])
      have hzl : sl.size ≤ 11 := by omega
      clear H hss
      go_wp2_with fail
      go_loop [10, 13] (fun v9 v11 => ∃ (i : Nat) (s : ByteArray), v9 = .string s ∧ v11 = .int .i64 i ∧ i ≤ m.length ∧ i ≤ 10 ∧ s.size ≤ 1 + i ∧ Hid (s = madeS letT (m.take i) ⟨#[120]⟩)) (fun _ v11 => 10 - (intOf v11).toNat)
      case atStart => exact ⟨0, _, rfl, rfl, Nat.zero_le _, Nat.zero_le _, by decide, Lib.hid rfl⟩
      case round =>
        obtain ⟨i, sm, rfl, rfl, hil, hi10, hss, H⟩ := hrel
        rcases (by omega : (i < m.length ∧ i < 10) ∨ (i < m.length ∧ ¬ i < 10) ∨ ¬ i < m.length) with ⟨h1, h2⟩ | ⟨h1, h2⟩ | h1
        · obtain ⟨ad, rfl, hc0⟩ := HR2.out i (.int .i64 m[i]) (by simp [h1])
          have hc := HF.out.cell' hc0 (by simp)
          obtain ⟨k, hk, hk16⟩ : ∃ k : Nat, m[i] % 16 = (k : Int) ∧ k < 16 := ⟨(m[i] % 16).toNat, by omega, by omega⟩
          have hand : bits .and .i64 m[i] 15 = (k : Int) := by rw [i64_and15, hk]
          have hn : madeS letT (m.take (i + 1)) ⟨#[120]⟩ = madeS letT (m.take i) ⟨#[120]⟩ ++ letT.extract k (k + 1) := by
            rw [List.take_succ_eq_append_getElem h1, madeS_snoc, hk, Int.toNat_natCast]
          have HN := Lib.hid hn
          clear hk hn hc0
          generalize m[i] = z at *
          have hk0 : (0 : Int) ≤ (k : Int) := by omega
          have g1 : (9223372036854775807 < sm.size + 1) = False := eq_false (by omega)
          clear hx1 hx2 hq1 hq2 hy1 hy2
          go_wp2_with fail
          refine ⟨⟨i + 1, _, rfl, by go_num, by omega, by omega, ?_, Lib.hid ?_⟩, by simp only [intOf]; omega⟩
          · rw [ByteArray.size_append, ByteArray.size_extract]; omega
          · rw [HN.out, ← H.out]; rfl
        all_goals
          have HSm : Hid (sm = madeS letT (m.take 10) ⟨#[120]⟩) := Lib.hid (by
            rw [H.out]
            first
            | rw [show i = 10 from by omega]
            | rw [List.take_of_length_le (show m.length ≤ i by omega), List.take_of_length_le (show m.length ≤ 10 by omega)])
          have hzm : sm.size ≤ 11 := by omega
          clear H hss
          go_wp2_with fail
          have wx : IntKind.i64.wrap ((x : Int) + 1) = (x : Int) + 1 := by rw [IntKind.wrap_i64]; omega
          have wy : IntKind.i64.wrap ((y : Int) + 1) = (y : Int) + 1 := by rw [IntKind.wrap_i64]; omega
          have x0 : (0 : Int) ≤ (x : Int) := by omega
          have x1 : (x : Int) ≤ 10 := by omega
          have x2 : (x : Int) + 1 ≤ 10 := by omega
          have x3 : (0 : Int) ≤ (x : Int) + 1 := by omega
          have x4 : (x : Int) ≤ (x : Int) + 1 := by omega
          have x5 : ((x : Int) + 1).toNat = x + 1 := by omega
          have y0 : (0 : Int) ≤ (y : Int) := by omega
          have y1 : (y : Int) ≤ 10 := by omega
          have y2 : (y : Int) + 1 ≤ 10 := by omega
          have y3 : (0 : Int) ≤ (y : Int) + 1 := by omega
          have y4 : (y : Int) ≤ (y : Int) + 1 := by omega
          have y5 : ((y : Int) + 1).toNat = y + 1 := by omega
          have zx : (digT.extract x (x + 1)).size = 1 := by rw [ByteArray.size_extract]; show min (x + 1) 10 - x = 1; omega
          have zy : (digT.extract y (y + 1)).size = 1 := by rw [ByteArray.size_extract]; show min (y + 1) 10 - y = 1; omega
          obtain ⟨DX, hdx⟩ : ∃ D, (⟨#[48, 49, 50, 51, 52, 53, 54, 55, 56, 57]⟩ : ByteArray).extract x (x + 1) = D := ⟨_, rfl⟩
          obtain ⟨DY, hdy⟩ : ∃ D, (⟨#[48, 49, 50, 51, 52, 53, 54, 55, 56, 57]⟩ : ByteArray).extract y (y + 1) = D := ⟨_, rfl⟩
          have zDX : DX.size = 1 := by rw [← hdx]; exact zx
          have zDY : DY.size = 1 := by rw [← hdy]; exact zy
          obtain ⟨E, hE⟩ : ∃ E, DX ++ DY = E := ⟨_, rfl⟩
          have zE : E.size = 2 := by rw [← hE, ByteArray.size_append]; omega
          have hEl : E.data.toList = (digT.data.toList.drop x).take 1 ++ (digT.data.toList.drop y).take 1 := by
            rw [← hE, ByteArray.data_append, Array.toList_append, ← dig_cut, ← dig_cut, ← hdx, ← hdy]
            rfl
          obtain ⟨me1, me2⟩ := mask_ends x hx10 y hy10
          have hm1 : ∀ W, Fr [] w W → Calls Tryd.prog 15 #[.string (⟨#[43, 52, 57, 49, 50, 51, 52, 53]⟩ ++ E)] W fun e w' => e = .returned (.string (⟨#[43, 42, 42, 42]⟩ ++ E)) ∧ Fr [] W w' := fun W hf => by
            have h := HMK.out W hf (⟨#[43, 52, 57, 49, 50, 51, 52, 53]⟩ ++ E) (by rw [ByteArray.size_append, zE]; decide)
            rw [ByteArray.data_append, Array.toList_append, hEl, ← List.append_assoc, show (⟨#[43, 52, 57, 49, 50, 51, 52, 53]⟩ : ByteArray).data.toList = [43, 52, 57, 49, 50, 51, 52, 53] from rfl, me1] at h
            rw [show (⟨#[43, 42, 42, 42]⟩ ++ E : ByteArray) = bL ([43, 42, 42, 42] ++ (digT.data.toList.drop x).take 1 ++ (digT.data.toList.drop y).take 1) from bL_of (by rw [ByteArray.data_append, Array.toList_append, hEl, ← List.append_assoc])]
            exact h
          have hm2 : ∀ W, Fr [] w W → Calls Tryd.prog 15 #[.string (⟨#[43, 48, 57, 49, 50, 51, 52, 53]⟩ ++ E)] W fun e w' => e = .returned (.string ⟨#[42, 42, 42]⟩) ∧ Fr [] W w' := fun W hf => by
            have h := HMK.out W hf (⟨#[43, 48, 57, 49, 50, 51, 52, 53]⟩ ++ E) (by rw [ByteArray.size_append, zE]; decide)
            rw [ByteArray.data_append, Array.toList_append, hEl, ← List.append_assoc, show (⟨#[43, 48, 57, 49, 50, 51, 52, 53]⟩ : ByteArray).data.toList = [43, 48, 57, 49, 50, 51, 52, 53] from rfl, me2] at h
            exact h
          have hml : ∀ W, Fr [] w W → Calls Tryd.prog 15 #[.string (sl ++ ⟨#[64, 104, 46, 111, 114, 103]⟩)] W fun e w' => e = .returned (.string ⟨#[120, 42, 42, 42, 64, 104, 46, 111, 114, 103]⟩) ∧ Fr [] W w' := fun W hf => by
            have h := HMK.out W hf (sl ++ ⟨#[64, 104, 46, 111, 114, 103]⟩) (by rw [ByteArray.size_append]; show sl.size + 6 ≤ _; omega)
            rw [HSl.out, mask_made, ← HSl.out] at h
            exact h
          have hmm : ∀ W, Fr [] w W → Calls Tryd.prog 15 #[.string (sm ++ ⟨#[64, 104, 46, 111, 114, 103]⟩)] W fun e w' => e = .returned (.string ⟨#[120, 42, 42, 42, 64, 104, 46, 111, 114, 103]⟩) ∧ Fr [] W w' := fun W hf => by
            have h := HMK.out W hf (sm ++ ⟨#[64, 104, 46, 111, 114, 103]⟩) (by rw [ByteArray.size_append]; show sm.size + 6 ≤ _; omega)
            rw [HSm.out, mask_made, ← HSm.out] at h
            exact h
          have H1 := Lib.hid hml
          have H2 := Lib.hid hmm
          have H3 := Lib.hid hm1
          have H4 := Lib.hid hm2
          have u1 : (9223372036854775807 < DX.size + DY.size) = False := eq_false (by omega)
          have u2 : (9223372036854775807 < sl.size + 6) = False := eq_false (by omega)
          have u3 : (9223372036854775807 < sm.size + 6) = False := eq_false (by omega)
          have u4 : (9223372036854775807 < 8 + E.size) = False := eq_false (by omega)
          have u5 : (9223372036854775807 < 4 + E.size) = False := eq_false (by omega)
          clear hml hmm hm1 hm2 me1 me2 hEl zx zy HSl HSm HMK hx1 hx2 hq1 hq2 hy1 hy2
          refine wp_region_mild 12 (by kernel_rfl) (by kernel_rfl) ?_
          simp only [List.take_succ_cons, List.take_zero, List.drop_succ_cons, List.drop_zero, List.take_nil, List.drop_nil]
          repeat (first
            | (apply mild_det0; (· rfl); (· intro W hW K hK; go_simp; exact hK _ (Fr.refl _ _)); simp only [Act.put, List.setIfInBounds_toArray, List.set_cons_succ, List.set_cons_zero, Nat.reduceAdd])
            | (apply mild_slice; (· rfl); (· intro W hW K hK; go_simp; exact hK _ _ ((Fr.refl _ _).alloc _) ⟨_, rfl, heap_alloc_new _ _⟩); simp only [Act.put, List.setIfInBounds_toArray, List.set_cons_succ, List.set_cons_zero, Nat.reduceAdd]))
          refine mild_nil ?_
          intro W2 hW2
          have HF2 := Lib.hid (HF.out.then (c := W2) ⟨hW2.os, hW2.tape, hW2.output, hW2.size, hW2.block⟩)
          clear hW2
          simp only [subAll]
          (try simp only [Act.put, List.setIfInBounds_toArray, List.set_cons_succ, List.set_cons_zero])
          go_wp2_with fail
          (with_reducible refine (H1.out _ HF2.out).mono ?_)
          rintro e w3 ⟨rfl, hf3⟩
          have HF3 := Lib.hid (HF2.out.then hf3)
          clear hf3
          go_wp2_with fail
          (with_reducible refine (H2.out _ HF3.out).mono ?_)
          rintro e w4 ⟨rfl, hf4⟩
          have HF4 := Lib.hid (HF3.out.then hf4)
          clear hf4
          go_wp2_with fail
          (with_reducible refine (H3.out _ HF4.out).mono ?_)
          rintro e w5 ⟨rfl, hf5⟩
          have HF5 := Lib.hid (HF4.out.then hf5)
          clear hf5
          go_wp2_with fail
          (with_reducible refine (H4.out _ HF5.out).mono ?_)
          rintro e w6 ⟨rfl, hf6⟩
          have HF6 := Lib.hid (HF5.out.then hf6)
          clear hf6
          go_wp2_with fail
          go_ret
          exact ⟨rfl, HF6.out⟩
end Go.Proofs.YtfaopjoglgmoiaaDoor
