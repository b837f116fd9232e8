/- Addresses: the document's Phone (printed by wip/genrphone.py). -/
import Derived.Test.YtfaopjoglgmoiaaDoorRAddr5
import Derived.Test.YtfaopjoglgmoiaaDoorRows2
namespace Go.Proofs.YtfaopjoglgmoiaaDoor
open Go.RowKit Go.Lib
set_option linter.unusedVariables false
set_option linter.unusedSimpArgs false

theorem take_nxt (s : ByteArray) (k : Nat) (h : k < s.size) : s.data.toList.take (k + 1) = s.data.toList.take k ++ [s[k]] := by
  rw [List.take_succ_eq_append_getElem (by rw [len_size]; exact h)]
  rfl
theorem strCells_snoc (l : List UInt8) (c : UInt8) : Lib.strCells (bL l) ++ [.int .u8 (c.toNat : Int)] = Lib.strCells (bL (l ++ [c])) := by
  unfold Lib.strCells bL
  simp
theorem phoneOf_keep (l : List UInt8) (c : UInt8) (h : besN c.toNat = false) : phoneOf (l ++ [c]) = phoneOf l ++ [c] := by
  unfold phoneOf
  rw [List.filter_append]
  simp [h]
theorem phoneOf_skip (l : List UInt8) (c : UInt8) (h : besN c.toNat = true) : phoneOf (l ++ [c]) = phoneOf l := by
  unfold phoneOf
  rw [List.filter_append]
  simp [h]
theorem phoneOf_len (l : List UInt8) : (phoneOf l).length ≤ l.length := List.length_filter_le _ _

set_option maxHeartbeats 4000000 in
set_option maxRecDepth 100000 in
theorem RPhone_calls (w : World) (s : ByteArray) (hs : s.size ≤ 100000) :
    Calls Tryd.prog 26 #[.string s] w fun e w' => e = .returned (.tuple #[.string (phoneS s.data.toList).1, .bool (phoneS s.data.toList).2]) ∧ Fr [] w w' := by
  obtain ⟨T, hT⟩ : ∃ T, T = phoneOf s.data.toList := ⟨_, rfl⟩
  have hTl : T.length ≤ s.size := by rw [hT, ← len_size]; exact phoneOf_len _
  have hres : ∀ b, phoneL T = b → phoneS s.data.toList = if b then (bL T, true) else (⟨#[]⟩, false) := fun b h => by
    unfold phoneS phoneR
    rw [← hT, h]
    cases b <;> rfl
  have hc := fun W => rphone_calls W (bL T) (by rw [bL_size]; omega)
  rw [bL_data] at hc
  generalize phoneL T = pb at hc hres
  have hres2 := hres pb rfl
  obtain ⟨R1, R2, hR⟩ : ∃ a b, phoneS s.data.toList = (a, b) := ⟨_, _, rfl⟩
  rw [hR] at hres2 ⊢
  simp only
  have HC := Lib.hid hc
  have HT := Lib.hid hT
  have HR := Lib.hid hres2
  clear hc hT hR hres2 hres hTl
  go_enter Tryd.func26, Tryd.ntmps26
  go_wp2_with fail
  go_loopw [4, 5] (fun v4 v5 wr => ∃ (i n : Nat) (r : List Nat), v5 = .int .i64 i ∧ i ≤ s.size ∧ Hid ((phoneOf (s.data.toList.take i)).length = n ∧ SRow 5 1 wr v4 r n (Lib.strCells (bL (phoneOf (s.data.toList.take i)))) ∧ Fr [] w wr ∧ ∀ i, i ∈ r → w.heap.size ≤ i)) (fun _ v5 _ => s.size - (intOf v5).toNat)
  case atStart => exact ⟨0, 0, [], rfl, Nat.zero_le _, Lib.hid ⟨rfl, SRow.nil _ _ _, Fr.refl _ _, by simp⟩⟩
  case round =>
    obtain ⟨i, n, r, rfl, hi, HH⟩ := hrel
    have HNL := Lib.hid HH.out.1
    have H := Lib.hid HH.out.2
    clear HH
    by_cases hlt : i < s.size
    · have htk := take_nxt s i hlt
      have hFl := phoneOf_len (s.data.toList.take i)
      rw [List.length_take] at hFl
      have hni : n ≤ i := by have := HNL.out; omega
      have hi0 : (0 : Int) ≤ (i : Int) := by omega
      have hi1 : (i : Int) < (s.size : Int) := by omega
      have hc256 : ((s[i]).toNat : Int) ≤ 255 := by have := (s[i]).toNat_lt; omega
      generalize hF : phoneOf (s.data.toList.take i) = F at H HNL hFl
      obtain ⟨A2, cap2, rfl, hnc, hcm, hrd, hblk⟩ := H.out.1.reads
      clear hrd hblk hFl
      by_cases h32 : (s[i]).toNat = 32
      · have HSK := Lib.hid (show phoneOf (s.data.toList.take (i + 1)) = F by rw [htk, ← hF]; exact phoneOf_skip _ _ (by rw [h32]; rfl))
        have h32' : (((s[i]).toNat : Int) != 32) = false := bne_eq_false_iff_eq.2 (by omega)
        clear htk hF h32
        go_wp2_with fail
        exact ⟨⟨i + 1, n, r, by go_num, by omega, Lib.hid ⟨by rw [HSK.out]; exact HNL.out, by rw [HSK.out]; exact H.out.1, H.out.2⟩⟩, by simp only [intOf]; omega⟩
      · by_cases h9 : (s[i]).toNat = 9
        · have HSK := Lib.hid (show phoneOf (s.data.toList.take (i + 1)) = F by rw [htk, ← hF]; exact phoneOf_skip _ _ (by rw [h9]; rfl))
          have h32' : (((s[i]).toNat : Int) != 32) = true := bne_iff_ne.2 (by omega)
          have h9' : (((s[i]).toNat : Int) != 9) = false := bne_eq_false_iff_eq.2 (by omega)
          clear htk hF h32 h9
          go_wp2_with fail
          exact ⟨⟨i + 1, n, r, by go_num, by omega, Lib.hid ⟨by rw [HSK.out]; exact HNL.out, by rw [HSK.out]; exact H.out.1, H.out.2⟩⟩, by simp only [intOf]; omega⟩
        · by_cases h45 : (s[i]).toNat = 45
          · have HSK := Lib.hid (show phoneOf (s.data.toList.take (i + 1)) = F by rw [htk, ← hF]; exact phoneOf_skip _ _ (by rw [h45]; rfl))
            have h32' : (((s[i]).toNat : Int) != 32) = true := bne_iff_ne.2 (by omega)
            have h9' : (((s[i]).toNat : Int) != 9) = true := bne_iff_ne.2 (by omega)
            have h45' : (((s[i]).toNat : Int) != 45) = false := bne_eq_false_iff_eq.2 (by omega)
            clear htk hF h32 h9 h45
            go_wp2_with fail
            exact ⟨⟨i + 1, n, r, by go_num, by omega, Lib.hid ⟨by rw [HSK.out]; exact HNL.out, by rw [HSK.out]; exact H.out.1, H.out.2⟩⟩, by simp only [intOf]; omega⟩
          · by_cases h46 : (s[i]).toNat = 46
            · have HSK := Lib.hid (show phoneOf (s.data.toList.take (i + 1)) = F by rw [htk, ← hF]; exact phoneOf_skip _ _ (by rw [h46]; rfl))
              have h32' : (((s[i]).toNat : Int) != 32) = true := bne_iff_ne.2 (by omega)
              have h9' : (((s[i]).toNat : Int) != 9) = true := bne_iff_ne.2 (by omega)
              have h45' : (((s[i]).toNat : Int) != 45) = true := bne_iff_ne.2 (by omega)
              have h46' : (((s[i]).toNat : Int) != 46) = false := bne_eq_false_iff_eq.2 (by omega)
              clear htk hF h32 h9 h45 h46
              go_wp2_with fail
              exact ⟨⟨i + 1, n, r, by go_num, by omega, Lib.hid ⟨by rw [HSK.out]; exact HNL.out, by rw [HSK.out]; exact H.out.1, H.out.2⟩⟩, by simp only [intOf]; omega⟩
            · by_cases h40 : (s[i]).toNat = 40
              · have HSK := Lib.hid (show phoneOf (s.data.toList.take (i + 1)) = F by rw [htk, ← hF]; exact phoneOf_skip _ _ (by rw [h40]; rfl))
                have h32' : (((s[i]).toNat : Int) != 32) = true := bne_iff_ne.2 (by omega)
                have h9' : (((s[i]).toNat : Int) != 9) = true := bne_iff_ne.2 (by omega)
                have h45' : (((s[i]).toNat : Int) != 45) = true := bne_iff_ne.2 (by omega)
                have h46' : (((s[i]).toNat : Int) != 46) = true := bne_iff_ne.2 (by omega)
                have h40' : (((s[i]).toNat : Int) != 40) = false := bne_eq_false_iff_eq.2 (by omega)
                clear htk hF h32 h9 h45 h46 h40
                go_wp2_with fail
                exact ⟨⟨i + 1, n, r, by go_num, by omega, Lib.hid ⟨by rw [HSK.out]; exact HNL.out, by rw [HSK.out]; exact H.out.1, H.out.2⟩⟩, by simp only [intOf]; omega⟩
              · by_cases h41 : (s[i]).toNat = 41
                · have HSK := Lib.hid (show phoneOf (s.data.toList.take (i + 1)) = F by rw [htk, ← hF]; exact phoneOf_skip _ _ (by rw [h41]; rfl))
                  have h32' : (((s[i]).toNat : Int) != 32) = true := bne_iff_ne.2 (by omega)
                  have h9' : (((s[i]).toNat : Int) != 9) = true := bne_iff_ne.2 (by omega)
                  have h45' : (((s[i]).toNat : Int) != 45) = true := bne_iff_ne.2 (by omega)
                  have h46' : (((s[i]).toNat : Int) != 46) = true := bne_iff_ne.2 (by omega)
                  have h40' : (((s[i]).toNat : Int) != 40) = true := bne_iff_ne.2 (by omega)
                  have h41' : (((s[i]).toNat : Int) != 41) = false := bne_eq_false_iff_eq.2 (by omega)
                  clear htk hF h32 h9 h45 h46 h40 h41
                  go_wp2_with fail
                  exact ⟨⟨i + 1, n, r, by go_num, by omega, Lib.hid ⟨by rw [HSK.out]; exact HNL.out, by rw [HSK.out]; exact H.out.1, H.out.2⟩⟩, by simp only [intOf]; omega⟩
                · have HSN := Lib.hid (show phoneOf (s.data.toList.take (i + 1)) = F ++ [s[i]] by rw [htk, ← hF]; exact phoneOf_keep _ _ (by unfold besN; simp only [Bool.or_eq_false_iff, decide_eq_false_iff_not]; exact ⟨⟨⟨⟨⟨h32, h9⟩, h45⟩, h46⟩, h40⟩, h41⟩))
                  have h32' : (((s[i]).toNat : Int) != 32) = true := bne_iff_ne.2 (by omega)
                  have h9' : (((s[i]).toNat : Int) != 9) = true := bne_iff_ne.2 (by omega)
                  have h45' : (((s[i]).toNat : Int) != 45) = true := bne_iff_ne.2 (by omega)
                  have h46' : (((s[i]).toNat : Int) != 46) = true := bne_iff_ne.2 (by omega)
                  have h40' : (((s[i]).toNat : Int) != 40) = true := bne_iff_ne.2 (by omega)
                  have h41' : (((s[i]).toNat : Int) != 41) = true := bne_iff_ne.2 (by omega)
                  clear htk hF h32 h9 h45 h46 h40 h41
                  go_wp2_with (at_builtin; refine wpList_sapp rfl _ _ 30 rfl 5 Tryd.underlying30 _ 1 1 infoByte rfl (by decide) (.slice A2 n cap2) r n _ rfl (H.out.1.keep ((Fr.refl [] _).alloc _) (by simp)) ⟨wr.heap.size, 0, none⟩ 1 1 [.int .u8 ((s[i]).toNat : Int)] rfl rfl (by exact RdV.new _ #[.int .u8 ((s[i]).toNat : Int)] 5 rfl rfl) (by simp [Value.oneCell']) (by simp only [maxLen]; omega) (by omega) ?_)
                  intro v' w2 r' h6 hf2 hn2
                  go_wp2_with fail
                  have h7 : Fr r wr w2 := ((Fr.refl r wr).alloc _).trans hf2 (fun k hk => .inl hk)
                  refine ⟨⟨i + 1, n + 1, r', by go_num, by omega, Lib.hid ⟨?_, ?_, H.out.2.1.trans h7 (fun i hi => .inr (H.out.2.2 i hi)), fun i hi => (hn2 i hi).elim (H.out.2.2 i) (fun h9 => by have := H.out.2.1.size; first | omega | (simp at h9; omega))⟩⟩, by simp only [intOf]; omega⟩
                  · rw [HSN.out, List.length_append, HNL.out]; rfl
                  · rw [HSN.out, ← strCells_snoc]; exact h6
    · obtain rfl : i = s.size := by omega
      have hH := H.out
      have hnl := HNL.out
      rw [List.take_of_length_le (by rw [len_size]; exact Nat.le_refl _), ← HT.out] at hH hnl
      have hz : (bL T).size = n := by rw [bL_size]; exact hnl
      have hH1 := hH.1
      obtain ⟨A2, cap2, rfl, hnc, hcm, hrd, hblk⟩ := hH1.reads
      have hsp : ∀ ad, A2 = some ad → ad.spot = none := by
        rintro ad rfl
        rcases hH1.1.2 with ⟨h1, _⟩ | ⟨g, cap, cur, h1, _⟩ <;> cases h1
        rfl
      have hcv := fun c => run_toString (P := Tryd.prog) (w := wr) (c := c) Tryd.underlying30 Tryd.underlying5 Tryd.underlying9 hz.symm hrd hsp
      have hcv2 : ∀ w1, Fr [] wr w1 → ∀ c, (convert 30 9 (.slice A2 n c)).run Tryd.prog w1 = .ok (.string (bL T)) w1 := fun w1 hf c => run_toString (P := Tryd.prog) (w := w1) (c := c) Tryd.underlying30 Tryd.underlying5 Tryd.underlying9 hz.symm (hrd.keep hf (by simp)) hsp
      have HF := Lib.hid hH.2.1
      have HV := Lib.hid hcv2
      have HRE := Lib.hid HR.out
      clear hcv2 hH hH1 H hrd hblk hnl HNL hz hsp
      cases pb
      · have hE := HRE.out
        simp only [Bool.false_eq_true, if_false] at hE
        injection hE with hE1 hE2
        subst hE1 hE2
        clear HRE HR
        go_wp2_with fail
        (with_reducible refine (HC.out _).mono ?_)
        rintro e w1 ⟨rfl, rfl⟩
        go_wp2_with fail
        go_ret2
        exact ⟨rfl, HF.out⟩
      · have hE := HRE.out
        simp only [if_true] at hE
        injection hE with hE1 hE2
        subst hE1 hE2
        clear HRE HR
        go_wp2_with fail
        (with_reducible refine (HC.out _).mono ?_)
        rintro e w1 ⟨rfl, rfl⟩
        go_wp2_with fail
        go_ret2
        exact ⟨rfl, HF.out⟩
end Go.Proofs.YtfaopjoglgmoiaaDoor
