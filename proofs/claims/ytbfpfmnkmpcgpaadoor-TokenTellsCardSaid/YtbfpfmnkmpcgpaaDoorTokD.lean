/- Contracts of token.Token, IsToken, Group. -/
import Derived.Test.YtbfpfmnkmpcgpaaDoorDec
import Derived.Test.YtbfpfmnkmpcgpaaDoorEnc2
import Derived.Test.YtbfpfmnkmpcgpaaDoorClean
namespace Go.Proofs.YtbfpfmnkmpcgpaaDoor
open Go.RowKit
set_option linter.unusedVariables false
set_option linter.unusedSimpArgs false

theorem Token_ten (w : World) (s : ByteArray) (hs : s.size = 10) :
    Calls Tryd.prog 19 #[.string s] w fun e w' => e = .returned (.string (encB s)) ∧ Fr [] w w' := by
  have HE := Lib.hid (fun W => Encode_calls W s (by omega))
  have h10 : ((s.size : Int) != 10) = false := bne_eq_false_iff_eq.2 (by omega)
  clear hs
  go_enter Tryd.func19, Tryd.ntmps19
  go_wp2_with fail
  (with_reducible refine (HE.out _).mono ?_)
  rintro e w1 ⟨rfl, hf1⟩
  have HF := Lib.hid hf1
  clear hf1
  go_wp2_with fail
  go_ret
  exact ⟨rfl, HF.out⟩
def isTokB (s : ByteArray) : Bool := match decB s with | some t => t.size == 10 | none => false
set_option maxRecDepth 100000 in
theorem IsToken_calls (w : World) (s : ByteArray) (hs : s.size ≤ 1000000) :
    Calls Tryd.prog 8 #[.string s] w fun e w' => e = .returned (.bool (isTokB s)) ∧ Fr [] w w' := by
  have HD := Lib.hid (fun W => Decode_calls W s hs)
  unfold isTokB
  cases hd : decB s with
  | none =>
    rw [hd] at HD
    clear hd hs
    go_enter Tryd.func8, Tryd.ntmps8
    go_wp2_with fail
    (with_reducible refine (HD.out _).mono ?_)
    rintro e w1 ⟨rfl, hf1⟩
    have HF := Lib.hid hf1
    clear hf1
    go_wp2_with fail
    go_ret
    exact ⟨rfl, HF.out⟩
  | some t =>
    rw [hd] at HD
    clear hd hs
    simp only [Option.getD_some, Option.isSome_some] at HD
    obtain ⟨B, hB⟩ : ∃ B, (t.size == 10) = B := ⟨_, rfl⟩
    have hBi : ((t.size : Int) == 10) = B := by
      rw [← hB]
      by_cases h : t.size = 10
      · rw [h]; rfl
      · rw [beq_eq_false_iff_ne.2 h]; exact beq_eq_false_iff_ne.2 (by omega)
    simp only [hB]
    clear hB
    go_enter Tryd.func8, Tryd.ntmps8
    go_wp2_with fail
    (with_reducible refine (HD.out _).mono ?_)
    rintro e w1 ⟨rfl, hf1⟩
    have HF := Lib.hid hf1
    clear hf1
    go_wp2_with fail
    go_ret
    exact ⟨rfl, HF.out⟩
theorem isTokB_enc (s : ByteArray) (h : s.size = 10) : isTokB (encB s) = true := by
  unfold isTokB
  rw [decB_enc]
  simp [h]
/-- The draw of ten bytes. -/
theorem draw_size (s : ByteArray) : (shortB (s ++ ⟨#[48, 49, 50, 51, 52, 53, 54, 55, 56, 57]⟩) 10).size = 10 := by
  have h : (s ++ ⟨#[48, 49, 50, 51, 52, 53, 54, 55, 56, 57]⟩ : ByteArray).size = s.size + 10 := ByteArray.size_append
  unfold shortB
  split
  · rw [ByteArray.size_extract]; omega
  · omega
/-- All its bytes are digits. -/
theorem digC_ok (v : Nat) : (97 ≤ (digC v).toNat ∧ (digC v).toNat ≤ 122) ∨ (50 ≤ (digC v).toNat ∧ (digC v).toNat ≤ 55) := by
  have h := digV_digC v
  unfold digV at h
  split at h
  · exact .inl (by assumption)
  · split at h
    · exact .inr (by assumption)
    · cases h
theorem emitL_ok (v m : Nat) : ∀ c, c ∈ emitL v m → (97 ≤ c.toNat ∧ c.toNat ≤ 122) ∨ (50 ≤ c.toNat ∧ c.toNat ≤ 55) := by
  induction m using Nat.strongRecOn with
  | _ m ih =>
    intro c hc
    by_cases h : 5 ≤ m
    · rw [emitL_step h] at hc
      rcases List.mem_cons.1 hc with rfl | hc
      · exact digC_ok _
      · exact ih (m - 5) (by omega) c hc
    · rw [emitL_end (by omega)] at hc
      cases hc
theorem encL_ok : ∀ (l : List UInt8) (b n : Nat), ∀ c, c ∈ encL b n l → (97 ≤ c.toNat ∧ c.toNat ≤ 122) ∨ (50 ≤ c.toNat ∧ c.toNat ≤ 55)
  | [], b, n, c, hc => by
    rw [encL] at hc
    split at hc
    · exact emitL_ok _ _ c hc
    · cases hc
  | x :: l, b, n, c, hc => by
    rw [encL, List.mem_append] at hc
    rcases hc with hc | hc
    · exact emitL_ok _ _ c hc
    · exact encL_ok l _ _ c hc
theorem encB_ok (s : ByteArray) (i : Nat) (hi : i < (encB s).size) : (97 ≤ ((encB s)[i]).toNat ∧ ((encB s)[i]).toNat ≤ 122) ∨ (50 ≤ ((encB s)[i]).toNat ∧ ((encB s)[i]).toNat ≤ 55) :=
  encL_ok s.data.toList 0 0 _ (by
    show (encB s).data[i] ∈ encL 0 0 s.data.toList
    exact Array.getElem_mem_toList _)
theorem lowC_low (c : UInt8) : lowC (lowC c) = lowC c := by
  unfold lowC
  by_cases h : 65 ≤ c.toNat ∧ c.toNat ≤ 90
  · have e : (UInt8.ofNat (c.toNat + 32)).toNat = c.toNat + 32 := by rw [UInt8.toNat_ofNat']; omega
    rw [if_pos h, e, if_neg (by omega)]
  · rw [if_neg h, if_neg h]
theorem cleanL_twice (l : List UInt8) : cleanL (cleanL l) = cleanL l := by
  unfold cleanL
  have h : ∀ m : List UInt8, (∀ c, c ∈ m → lowC c = c ∧ besideC c = false) → (m.map lowC).filter (fun c => !besideC c) = m := by
    intro m
    induction m with
    | nil => intro _; rfl
    | cons c m ih =>
      intro hm
      obtain ⟨h1, h2⟩ := hm c (by simp)
      rw [List.map_cons, h1, List.filter_cons_of_pos (by simp [h2]), ih (fun x hx => hm x (by simp [hx]))]
  apply h
  intro c hc
  rw [List.mem_filter, List.mem_map] at hc
  obtain ⟨⟨x, _, rfl⟩, h2⟩ := hc
  exact ⟨lowC_low x, by simpa using h2⟩
theorem cleanB_twice (s : ByteArray) : cleanB (cleanB s) = cleanB s := by
  show bL (cleanL (cleanL s.data.toList)) = bL (cleanL s.data.toList)
  rw [cleanL_twice]
theorem cleanB_size (s : ByteArray) : (cleanB s).size ≤ s.size := by
  rw [cleanB, bL_size]
  have := cleanL_len s.data.toList
  rw [Array.length_toList] at this
  exact this
end Go.Proofs.YtbfpfmnkmpcgpaaDoor
