/- Contracts of the document's layer 8: Clean, value. -/
import Derived.Test.YtbfpfmnkmpcgpaaDoorRefBit
namespace Go.Proofs.YtbfpfmnkmpcgpaaDoor
open Go.RowKit
set_option linter.unusedVariables false
set_option linter.unusedSimpArgs false

set_option maxHeartbeats 4000000 in
set_option maxRecDepth 100000 in
theorem RClean_calls (w : World) (s : ByteArray) (hs : s.size ≤ 1000000) :
    Calls Tryd.prog 24 #[.string s] w fun e w' => e = .returned (.string (cleanB s)) ∧ Fr [] w w' := by
  have HRES : Hid (cleanB s = bL (cleanL s.data.toList)) := Lib.hid rfl
  generalize cleanB s = R at HRES ⊢
  go_enter Tryd.func24, Tryd.ntmps24
  go_wp2_with fail
  go_loopw [3, 4] (fun v3 v4 wr => ∃ (i n : Nat) (r : List Nat), v4 = .int .i64 i ∧ i ≤ s.size ∧ Hid ((cleanL (s.data.toList.take i)).length = n ∧ SRow 5 1 wr v3 r n (Lib.strCells (bL (cleanL (s.data.toList.take i)))) ∧ Fr [] w wr ∧ ∀ i, i ∈ r → w.heap.size ≤ i)) (fun _ v4 _ => s.size - (intOf v4).toNat)
  case atStart => exact ⟨0, 0, [], rfl, Nat.zero_le _, Lib.hid ⟨rfl, SRow.nil _ _ _, Fr.refl _ _, by simp⟩⟩
  case round =>
    obtain ⟨i, n, r, rfl, hi, HH⟩ := hrel
    have HNL := Lib.hid HH.out.1
    have H := Lib.hid HH.out.2
    clear HH
    by_cases hlt : i < s.size
    · have htk := take_nxt s i hlt
      have hFl := cleanL_len (s.data.toList.take i)
      rw [List.length_take] at hFl
      have hni : n ≤ i := by have := HNL.out; omega
      have hi0 : (0 : Int) ≤ (i : Int) := by omega
      have hi1 : (i : Int) < (s.size : Int) := by omega
      have hc256 : ((s[i]).toNat : Int) ≤ 255 := by have := (s[i]).toNat_lt; omega
      generalize hF : cleanL (s.data.toList.take i) = F at H HNL hFl
      obtain ⟨A2, cap2, rfl, hnc, hcm, hrd, hblk⟩ := H.out.1.reads
      clear hrd hblk hFl
      by_cases hup : 65 ≤ (s[i]).toNat ∧ (s[i]).toNat ≤ 90
      · obtain ⟨h65, h90⟩ := hup
        obtain ⟨d, hd⟩ : ∃ d, UInt8.ofNat ((s[i]).toNat + 32) = d := ⟨_, rfl⟩
        have hdn : d.toNat = (s[i]).toNat + 32 := by rw [← hd, UInt8.toNat_ofNat']; omega
        have HSN := Lib.hid (show cleanL (s.data.toList.take (i + 1)) = F ++ [d] by rw [htk, ← hF]; exact cleanL_keep _ _ _ (by unfold lowC; rw [if_pos ⟨h65, h90⟩, hd]) (by unfold besideC; rw [hdn]; simp; omega))
        have h65' : (65 : Int) ≤ ((s[i]).toNat : Int) := by omega
        have h90' : ((s[i]).toNat : Int) ≤ 90 := by omega
        have hw1 : IntKind.u8.wrap (((s[i]).toNat : Int) - 65) = ((s[i]).toNat : Int) - 65 := by rw [IntKind.wrap_u8]; omega
        have hw2 : IntKind.u8.wrap (((s[i]).toNat : Int) - 65 + 97) = (d.toNat : Int) := by rw [IntKind.wrap_u8, hdn]; omega
        have hsm : ((s[i]).toNat : Int) - 65 + 97 = (d.toNat : Int) := by omega
        have h32' : ((d.toNat : Int) != 32) = true := bne_iff_ne.2 (by omega)
        have h9' : ((d.toNat : Int) != 9) = true := bne_iff_ne.2 (by omega)
        have h45' : ((d.toNat : Int) != 45) = true := bne_iff_ne.2 (by omega)
        clear htk hF hd hdn
        go_wp2_with (at_builtin; refine wpList_sapp rfl _ _ 34 rfl 5 Tryd.underlying34 _ 1 1 infoByte rfl (by decide) (.slice A2 n cap2) r n _ rfl (H.out.1.keep ((Fr.refl [] _).alloc _) (by simp)) ⟨wr.heap.size, 0, none⟩ 1 1 [.int .u8 (d.toNat : Int)] rfl rfl (by exact RdV.new _ #[.int .u8 (d.toNat : Int)] 5 rfl rfl) (by simp [Value.oneCell']) (by simp only [maxLen]; omega) (by omega) ?_)
        intro v' w2 r' h6 hf2 hn2
        go_wp2_with fail
        have h7 : Fr r wr w2 := ((Fr.refl r wr).alloc _).trans hf2 (fun k hk => .inl hk)
        refine ⟨⟨i + 1, n + 1, r', by go_num, by omega, Lib.hid ⟨?_, ?_, H.out.2.1.trans h7 (fun i hi => .inr (H.out.2.2 i hi)), fun i hi => (hn2 i hi).elim (H.out.2.2 i) (fun h9 => by have := H.out.2.1.size; first | omega | (simp at h9; omega))⟩⟩, by simp only [intOf]; omega⟩
        · rw [HSN.out, List.length_append, HNL.out]; rfl
        · rw [HSN.out, ← strCells_snoc]; exact h6
      · by_cases h32 : (s[i]).toNat = 32
        · have hc : (s[i]).toNat = 32 := h32
          have hlo : lowC s[i] = s[i] := by unfold lowC; rw [if_neg (by omega)]
          have HSK := Lib.hid (show cleanL (s.data.toList.take (i + 1)) = F by rw [htk, ← hF]; exact cleanL_skip _ _ (by rw [hlo]; unfold besideC; rw [hc]; rfl))
          have h32' : (((s[i]).toNat : Int) != 32) = false := bne_eq_false_iff_eq.2 (by omega)
          have h9' : (((s[i]).toNat : Int) != 9) = true := bne_iff_ne.2 (by omega)
          have h45' : (((s[i]).toNat : Int) != 45) = true := bne_iff_ne.2 (by omega)
          have h65' : ¬ (65 : Int) ≤ ((s[i]).toNat : Int) := by omega
          clear hc hlo htk hF
          go_wp2_with fail
          exact ⟨⟨i + 1, n, r, by go_num, by omega, Lib.hid ⟨by rw [HSK.out]; exact HNL.out, by rw [HSK.out]; exact H.out.1, H.out.2⟩⟩, by simp only [intOf]; omega⟩
        · by_cases h9 : (s[i]).toNat = 9
          · have hc : (s[i]).toNat = 9 := h9
            have hlo : lowC s[i] = s[i] := by unfold lowC; rw [if_neg (by omega)]
            have HSK := Lib.hid (show cleanL (s.data.toList.take (i + 1)) = F by rw [htk, ← hF]; exact cleanL_skip _ _ (by rw [hlo]; unfold besideC; rw [hc]; rfl))
            have h32' : (((s[i]).toNat : Int) != 32) = true := bne_iff_ne.2 (by omega)
            have h9' : (((s[i]).toNat : Int) != 9) = false := bne_eq_false_iff_eq.2 (by omega)
            have h45' : (((s[i]).toNat : Int) != 45) = true := bne_iff_ne.2 (by omega)
            have h65' : ¬ (65 : Int) ≤ ((s[i]).toNat : Int) := by omega
            clear hc hlo htk hF
            go_wp2_with fail
            exact ⟨⟨i + 1, n, r, by go_num, by omega, Lib.hid ⟨by rw [HSK.out]; exact HNL.out, by rw [HSK.out]; exact H.out.1, H.out.2⟩⟩, by simp only [intOf]; omega⟩
          · by_cases h45 : (s[i]).toNat = 45
            · have hc : (s[i]).toNat = 45 := h45
              have hlo : lowC s[i] = s[i] := by unfold lowC; rw [if_neg (by omega)]
              have HSK := Lib.hid (show cleanL (s.data.toList.take (i + 1)) = F by rw [htk, ← hF]; exact cleanL_skip _ _ (by rw [hlo]; unfold besideC; rw [hc]; rfl))
              have h32' : (((s[i]).toNat : Int) != 32) = true := bne_iff_ne.2 (by omega)
              have h9' : (((s[i]).toNat : Int) != 9) = true := bne_iff_ne.2 (by omega)
              have h45' : (((s[i]).toNat : Int) != 45) = false := bne_eq_false_iff_eq.2 (by omega)
              have h65' : ¬ (65 : Int) ≤ ((s[i]).toNat : Int) := by omega
              clear hc hlo htk hF
              go_wp2_with fail
              exact ⟨⟨i + 1, n, r, by go_num, by omega, Lib.hid ⟨by rw [HSK.out]; exact HNL.out, by rw [HSK.out]; exact H.out.1, H.out.2⟩⟩, by simp only [intOf]; omega⟩
            · by_cases h65 : 65 ≤ (s[i]).toNat
              · have hlo : lowC s[i] = s[i] := by unfold lowC; rw [if_neg (by omega)]
                have HSN := Lib.hid (show cleanL (s.data.toList.take (i + 1)) = F ++ [s[i]] by rw [htk, ← hF]; exact cleanL_keep _ _ _ hlo (by unfold besideC; simp; omega))
                have h32' : (((s[i]).toNat : Int) != 32) = true := bne_iff_ne.2 (by omega)
                have h9' : (((s[i]).toNat : Int) != 9) = true := bne_iff_ne.2 (by omega)
                have h45' : (((s[i]).toNat : Int) != 45) = true := bne_iff_ne.2 (by omega)
                have h65' : (65 : Int) ≤ ((s[i]).toNat : Int) := by omega
                have h90' : ¬ ((s[i]).toNat : Int) ≤ 90 := by omega
                clear hlo htk hF
                go_wp2_with (at_builtin; refine wpList_sapp rfl _ _ 34 rfl 5 Tryd.underlying34 _ 1 1 infoByte rfl (by decide) (.slice A2 n cap2) r n _ rfl (H.out.1.keep ((Fr.refl [] _).alloc _) (by simp)) ⟨wr.heap.size, 0, none⟩ 1 1 [.int .u8 ((s[i]).toNat : Int)] rfl rfl (by exact RdV.new _ #[.int .u8 ((s[i]).toNat : Int)] 5 rfl rfl) (by simp [Value.oneCell']) (by simp only [maxLen]; omega) (by omega) ?_)
                intro v' w2 r' h6 hf2 hn2
                go_wp2_with fail
                have h7 : Fr r wr w2 := ((Fr.refl r wr).alloc _).trans hf2 (fun k hk => .inl hk)
                refine ⟨⟨i + 1, n + 1, r', by go_num, by omega, Lib.hid ⟨?_, ?_, H.out.2.1.trans h7 (fun i hi => .inr (H.out.2.2 i hi)), fun i hi => (hn2 i hi).elim (H.out.2.2 i) (fun h9 => by have := H.out.2.1.size; first | omega | (simp at h9; omega))⟩⟩, by simp only [intOf]; omega⟩
                · rw [HSN.out, List.length_append, HNL.out]; rfl
                · rw [HSN.out, ← strCells_snoc]; exact h6
              · have hlo : lowC s[i] = s[i] := by unfold lowC; rw [if_neg (by omega)]
                have HSN := Lib.hid (show cleanL (s.data.toList.take (i + 1)) = F ++ [s[i]] by rw [htk, ← hF]; exact cleanL_keep _ _ _ hlo (by unfold besideC; simp; omega))
                have h32' : (((s[i]).toNat : Int) != 32) = true := bne_iff_ne.2 (by omega)
                have h9' : (((s[i]).toNat : Int) != 9) = true := bne_iff_ne.2 (by omega)
                have h45' : (((s[i]).toNat : Int) != 45) = true := bne_iff_ne.2 (by omega)
                have h65' : ¬ (65 : Int) ≤ ((s[i]).toNat : Int) := by omega
                clear hlo htk hF
                go_wp2_with (at_builtin; refine wpList_sapp rfl _ _ 34 rfl 5 Tryd.underlying34 _ 1 1 infoByte rfl (by decide) (.slice A2 n cap2) r n _ rfl (H.out.1.keep ((Fr.refl [] _).alloc _) (by simp)) ⟨wr.heap.size, 0, none⟩ 1 1 [.int .u8 ((s[i]).toNat : Int)] rfl rfl (by exact RdV.new _ #[.int .u8 ((s[i]).toNat : Int)] 5 rfl rfl) (by simp [Value.oneCell']) (by simp only [maxLen]; omega) (by omega) ?_)
                intro v' w2 r' h6 hf2 hn2
                go_wp2_with fail
                have h7 : Fr r wr w2 := ((Fr.refl r wr).alloc _).trans hf2 (fun k hk => .inl hk)
                refine ⟨⟨i + 1, n + 1, r', by go_num, by omega, Lib.hid ⟨?_, ?_, H.out.2.1.trans h7 (fun i hi => .inr (H.out.2.2 i hi)), fun i hi => (hn2 i hi).elim (H.out.2.2 i) (fun h9 => by have := H.out.2.1.size; first | omega | (simp at h9; omega))⟩⟩, by simp only [intOf]; omega⟩
                · rw [HSN.out, List.length_append, HNL.out]; rfl
                · rw [HSN.out, ← strCells_snoc]; exact h6
    · obtain rfl : i = s.size := by omega
      have hH := H.out
      have hnl := HNL.out
      rw [List.take_of_length_le (by rw [Array.length_toList]; exact Nat.le_refl _)] at hH hnl
      have hz : (bL (cleanL s.data.toList)).size = n := by rw [bL_size]; exact hnl
      rw [← HRES.out] at hH hz
      obtain ⟨A2, cap2, rfl, hnc, hcm, hrd, hblk⟩ := hH.1.reads
      have hsp : ∀ ad, A2 = some ad → ad.spot = none := by
        rintro ad rfl
        rcases hH.1.1.2 with ⟨h1, _⟩ | ⟨g, cap, cur, h1, _⟩ <;> cases h1
        rfl
      have hcv := fun c => run_toString (P := Tryd.prog) (w := wr) (c := c) Tryd.underlying34 Tryd.underlying5 Tryd.underlying9 hz.symm hrd hsp
      have HF := Lib.hid hH.2.1
      clear hH H hrd hblk hnl HNL
      go_wp2_with fail
      go_ret
      exact ⟨rfl, HF.out⟩
end Go.Proofs.YtbfpfmnkmpcgpaaDoor
