/- The law TokenClean: for any texts and gaps the Go function returns true (its walk). -/
import Derived.Test.YtbfpfmnkmpcgpaaTok2
namespace Go.Proofs.Ytbfpfmnkmpcgpaa
open Go.RowKit
set_option linter.unusedVariables false
set_option linter.unusedSimpArgs false

theorem clean_add (T : ByteArray) (c d : UInt8) (h : lowC c = d) (hb : besideC d = false) : cleanL (T ++ bOf (c.toNat : Int)).data.toList = cleanL T.data.toList ++ [d] := by
  have e : (T ++ bOf (c.toNat : Int)).data.toList = T.data.toList ++ [c] := by simp [bOf]
  rw [e]
  exact cleanL_keep _ c d h hb
theorem clean_gap (T : ByteArray) : cleanL (T ++ ⟨#[32, 45]⟩).data.toList = cleanL T.data.toList := by
  have e : (T ++ ⟨#[32, 45]⟩ : ByteArray).data.toList = T.data.toList ++ [32] ++ [45] := by simp
  rw [e, cleanL_skip _ _ (by decide), cleanL_skip _ _ (by decide)]

set_option maxHeartbeats 4000000 in
set_option maxRecDepth 100000 in
theorem TokenClean_walk (w : World) (s : ByteArray) (hs : s.size ≤ 140737488351232) (q : Int) (hq : Bd .u64 q) (o : ByteArray) (ho : o.size ≤ 140737488351232) :
    Calls Try.prog 7 #[.string s, .int .u64 q, .string o] w fun e w' => e = .returned (.bool true) ∧ Fr [] w w' := by
  have hqb := hq.u64
  have h10 := draw_size s
  have hs10 : s.size + (⟨#[48, 49, 50, 51, 52, 53, 54, 55, 56, 57]⟩ : ByteArray).size ≤ 9223372036854775807 := by show s.size + 10 ≤ _; omega
  have hsh := fun W => short08_calls (s ++ ⟨#[48, 49, 50, 51, 52, 53, 54, 55, 56, 57]⟩) 10 10 rfl W (by rw [ByteArray.size_append]; show s.size + 10 ≤ _; omega) (by decide)
  generalize shortB (s ++ ⟨#[48, 49, 50, 51, 52, 53, 54, 55, 56, 57]⟩) 10 = r at hsh h10
  have hTk := fun W => Token_ten W r h10
  have hz := encB_size r
  have hok := encB_ok r
  have hIT := fun W => IsToken_calls W (encB r) (by omega)
  rw [isTokB_enc r h10] at hIT
  have hzd : (encB r).size = 16 := by omega
  clear hz h10
  generalize encB r = d at hTk hok hIT hzd
  have hso := fun W => short08_calls o 40 40 rfl W (by omega) (by decide)
  have h40 := shortB_size o 40
  generalize shortB o 40 = y at hso h40
  have hC1 := fun W => Clean_calls W y (by omega)
  have hcs := cleanB_size y
  have hC2 := fun W => Clean_calls W (cleanB y) (by omega)
  rw [cleanB_twice] at hC2
  generalize cleanB y = x at hC1 hC2 hcs
  have HC := Lib.hid (And.intro hTk (And.intro hIT (And.intro hC1 hC2)))
  have HSH := Lib.hid (And.intro hsh hso)
  have HOK := Lib.hid hok
  have HZ := Lib.hid hzd
  clear hTk hIT hC1 hC2 hsh hso hok hs ho hq
  have hd16 : d.size ≤ 16 := by omega
  have hd16' : 16 ≤ d.size := by omega
  clear hzd
  go_enter Try.func7, Try.ntmps7
  go_wp2_with fail
  (with_reducible refine (awake08_calls _).mono ?_)
  rintro e w1 ⟨rfl, hf1⟩
  have HF1 := Lib.hid hf1
  clear hf1
  go_wp2_with fail
  (with_reducible refine (HSH.out.1 _).mono ?_)
  rintro e w2 ⟨rfl, rfl⟩
  go_wp2_with fail
  (with_reducible refine (HC.out.1 _).mono ?_)
  rintro e w3 ⟨rfl, hf3⟩
  have HF3 := Lib.hid (HF1.out.then hf3)
  clear hf3 HF1 hs10
  go_wp2_with fail
  go_loopw [9, 10, 11] (fun v9 v10 v11 wr => ∃ (i : Nat) (T : ByteArray), i ≤ d.size ∧ v10 = .int .i64 i ∧ v9 = .string T ∧ T.size ≤ 3 * i ∧ Hid (cleanL T.data.toList = d.data.toList.take i ∧ Fr [] w wr)) (fun _ v10 _ _ => d.size - (intOf v10).toNat)
  case atStart => exact ⟨0, ⟨#[]⟩, Nat.zero_le _, rfl, rfl, Nat.le_refl _, Lib.hid ⟨rfl, HF3.out⟩⟩
  case round =>
    clear HF3
    obtain ⟨i, T, hi, rfl, rfl, hT, H⟩ := hrel
    by_cases hlt : i < d.size
    · have htk : d.data.toList.take (i + 1) = d.data.toList.take i ++ [d[i]] := by
        rw [List.take_succ_eq_append_getElem (by rw [Array.length_toList]; exact hlt)]; rfl
      have hokc := HOK.out i hlt
      have hi0 : (0 : Int) ≤ (i : Int) := by omega
      have hi1 : (i : Int) < (d.size : Int) := by omega
      have hg2 : (T ++ ⟨#[32, 45]⟩ : ByteArray).size = T.size + 2 := ByteArray.size_append
      have hcg := clean_gap T
      have hc256 := (d[i]).toNat_lt
      have HTK := Lib.hid htk
      clear htk
      have hT100 : T.size ≤ 48 := by omega
      have hbs := bOf_size
      have hsum1 : ∀ x : Int, T.size + (bOf x).size ≤ 9223372036854775807 := fun x => by rw [bOf_size]; omega
      have hsum2 : T.size + (⟨#[32, 45]⟩ : ByteArray).size ≤ 9223372036854775807 := by show T.size + 2 ≤ _; omega
      have HSZ : Hid ((∀ x : Int, (T ++ bOf x).size ≤ 3 * (i + 1)) ∧ (∀ x : Int, (T ++ ⟨#[32, 45]⟩ ++ bOf x).size ≤ 3 * (i + 1))) := Lib.hid ⟨fun x => by rw [ByteArray.size_append, bOf_size]; omega, fun x => by rw [ByteArray.size_append, hg2, bOf_size]; omega⟩
      have hcA := fun W => conv_one W ((d[i]).toNat : Int) (by omega) (by omega)
      have hbc : besideC (d[i]) = false := by unfold besideC; simp; omega
      have hlc : lowC (d[i]) = d[i] := by unfold lowC; rw [if_neg (by omega)]
      have HA1 : Hid (cleanL (T ++ bOf ((d[i]).toNat : Int)).data.toList = d.data.toList.take (i + 1)) := Lib.hid (by rw [clean_add T (d[i]) (d[i]) hlc hbc, H.out.1, HTK.out])
      have HA2 : Hid (cleanL (T ++ ⟨#[32, 45]⟩ ++ bOf ((d[i]).toNat : Int)).data.toList = d.data.toList.take (i + 1)) := Lib.hid (by rw [clean_add _ (d[i]) (d[i]) hlc hbc, hcg, H.out.1, HTK.out])
      by_cases hlet : 97 ≤ (d[i]).toNat ∧ (d[i]).toNat ≤ 122
      · obtain ⟨h97, h122⟩ := hlet
        have hcB := fun W => conv_one W (((d[i]).toNat : Int) - 32) (by omega) (by omega)
        obtain ⟨u, hu, hui⟩ : ∃ u : UInt8, u.toNat = (d[i]).toNat - 32 ∧ (u.toNat : Int) = ((d[i]).toNat : Int) - 32 := ⟨UInt8.ofNat ((d[i]).toNat - 32), by rw [UInt8.toNat_ofNat']; omega, by rw [UInt8.toNat_ofNat']; omega⟩
        have hlu : lowC u = d[i] := by
          unfold lowC
          rw [if_pos (by omega)]
          apply UInt8.toNat_inj.1
          rw [UInt8.toNat_ofNat', hu]
          omega
        have HB1 : Hid (cleanL (T ++ bOf (((d[i]).toNat : Int) - 32)).data.toList = d.data.toList.take (i + 1)) := Lib.hid (by rw [← hui, clean_add T u (d[i]) hlu hbc, H.out.1, HTK.out])
        have HB2 : Hid (cleanL (T ++ ⟨#[32, 45]⟩ ++ bOf (((d[i]).toNat : Int) - 32)).data.toList = d.data.toList.take (i + 1)) := Lib.hid (by rw [← hui, clean_add _ u (d[i]) hlu hbc, hcg, H.out.1, HTK.out])
        have h97' : (97 : Int) ≤ ((d[i]).toNat : Int) := by omega
        have h122' : ((d[i]).toNat : Int) ≤ 122 := by omega
        clear hlu hu hui hlc hbc hcg
        go_wp2_with fail
        all_goals first
          | exact ⟨⟨i + 1, _, by omega, by go_num, rfl, HSZ.out.1 _, Lib.hid ⟨HA1.out, H.out.2.alloc _⟩⟩, by simp only [intOf]; omega⟩
          | exact ⟨⟨i + 1, _, by omega, by go_num, rfl, HSZ.out.2 _, Lib.hid ⟨HA2.out, H.out.2.alloc _⟩⟩, by simp only [intOf]; omega⟩
          | exact ⟨⟨i + 1, _, by omega, by go_num, rfl, HSZ.out.1 _, Lib.hid ⟨HB1.out, H.out.2.alloc _⟩⟩, by simp only [intOf]; omega⟩
          | exact ⟨⟨i + 1, _, by omega, by go_num, rfl, HSZ.out.2 _, Lib.hid ⟨HB2.out, H.out.2.alloc _⟩⟩, by simp only [intOf]; omega⟩
      · have hno : ¬ (97 : Int) ≤ ((d[i]).toNat : Int) := by omega
        clear hlc hbc hcg
        go_wp2_with fail
        all_goals first
          | exact ⟨⟨i + 1, _, by omega, by go_num, rfl, HSZ.out.1 _, Lib.hid ⟨HA1.out, H.out.2.alloc _⟩⟩, by simp only [intOf]; omega⟩
          | exact ⟨⟨i + 1, _, by omega, by go_num, rfl, HSZ.out.2 _, Lib.hid ⟨HA2.out, H.out.2.alloc _⟩⟩, by simp only [intOf]; omega⟩
    · obtain rfl : i = d.size := by omega
      have hTd : cleanB T = d := by
        apply ByteArray.ext
        apply Array.toList_inj.1
        show cleanL T.data.toList = _
        rw [H.out.1, List.take_of_length_le (by rw [Array.length_toList]; exact Nat.le_refl _)]
      have HCT := Lib.hid (fun W => Clean_calls W T (by omega))
      rw [hTd] at HCT
      have HF := Lib.hid H.out.2
      clear hTd H hi hlt
      have h16 : ((d.size : Int) == 16) = true := beq_iff_eq.2 (by omega)
      go_wp2_with fail
      (with_reducible refine (HSH.out.2 _).mono ?_)
      rintro e w2 ⟨rfl, rfl⟩
      go_wp2_with fail
      (with_reducible refine (HC.out.2.2.1 _).mono ?_)
      rintro e w5 ⟨rfl, hf5⟩
      have HF5 := Lib.hid (HF.out.then hf5)
      clear hf5 HF
      go_wp2_with fail
      (with_reducible refine (HC.out.2.1 _).mono ?_)
      rintro e w6 ⟨rfl, hf6⟩
      have HF6 := Lib.hid (HF5.out.then hf6)
      clear hf6 HF5
      go_wp2_with fail
      (with_reducible refine (HCT.out _).mono ?_)
      rintro e w7 ⟨rfl, hf7⟩
      have HF7 := Lib.hid (HF6.out.then hf7)
      clear hf7 HF6
      go_wp2_with fail
      (with_reducible refine (HC.out.2.2.2 _).mono ?_)
      rintro e w8 ⟨rfl, hf8⟩
      have HF8 := Lib.hid (HF7.out.then hf8)
      clear hf8 HF7
      go_wp2_with fail
      (with_reducible refine (HSH.out.2 _).mono ?_)
      rintro e w9 ⟨rfl, rfl⟩
      have hle : (x.size : Int) ≤ (y.size : Int) := by omega
      go_wp2_with fail
      go_ret
      exact ⟨rfl, HF8.out⟩
end Go.Proofs.Ytbfpfmnkmpcgpaa
