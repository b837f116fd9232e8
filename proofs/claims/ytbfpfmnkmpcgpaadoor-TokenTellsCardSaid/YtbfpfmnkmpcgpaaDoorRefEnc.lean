/- Contracts of the document's layer 8: Encode, Token. -/
import Derived.Test.YtbfpfmnkmpcgpaaDoorRefBit
namespace Go.Proofs.YtbfpfmnkmpcgpaaDoor
open Go.RowKit
set_option linter.unusedVariables false
set_option linter.unusedSimpArgs false

theorem index_dig (d : Nat) (hd : d < 32) (w : World) : (Instr.index 9 (.string ⟨#[97, 98, 99, 100, 101, 102, 103, 104, 105, 106, 107, 108, 109, 110, 111, 112, 113, 114, 115, 116, 117, 118, 119, 120, 121, 122, 50, 51, 52, 53, 54, 55]⟩) (.int .i64 (d : Int))).run Tryd.prog w = .ok (.int .u8 ((digC d).toNat : Int)) w := by
  match d, hd with
  | 0, _ => rfl
  | 1, _ => rfl
  | 2, _ => rfl
  | 3, _ => rfl
  | 4, _ => rfl
  | 5, _ => rfl
  | 6, _ => rfl
  | 7, _ => rfl
  | 8, _ => rfl
  | 9, _ => rfl
  | 10, _ => rfl
  | 11, _ => rfl
  | 12, _ => rfl
  | 13, _ => rfl
  | 14, _ => rfl
  | 15, _ => rfl
  | 16, _ => rfl
  | 17, _ => rfl
  | 18, _ => rfl
  | 19, _ => rfl
  | 20, _ => rfl
  | 21, _ => rfl
  | 22, _ => rfl
  | 23, _ => rfl
  | 24, _ => rfl
  | 25, _ => rfl
  | 26, _ => rfl
  | 27, _ => rfl
  | 28, _ => rfl
  | 29, _ => rfl
  | 30, _ => rfl
  | 31, _ => rfl
  | _ + 32, h => exact absurd h (by omega)
def pk (f : Nat → Nat) (p : Nat) : Nat → Nat
  | 0 => 0
  | k + 1 => 2 * pk f p k + f (p + k)
theorem pk_five (f : Nat → Nat) (p : Nat) : pk f p 5 = v5 f p := by
  simp only [pk, v5, Nat.add_zero]
  omega
theorem pk_lt (s : ByteArray) (p : Nat) : ∀ k, k ≤ 5 → pk (bitN s) p k < 32 ∧ (k < 5 → pk (bitN s) p k < 16) := by
  have h0 := bitN_lt s p
  have h1 := bitN_lt s (p + 1)
  have h2 := bitN_lt s (p + 2)
  have h3 := bitN_lt s (p + 3)
  have h4 := bitN_lt s (p + 4)
  intro k hk
  have e : k = 0 ∨ k = 1 ∨ k = 2 ∨ k = 3 ∨ k = 4 ∨ k = 5 := by omega
  rcases e with rfl | rfl | rfl | rfl | rfl | rfl <;> simp only [pk, Nat.add_zero] <;> omega
set_option maxHeartbeats 4000000 in
set_option maxRecDepth 100000 in
theorem REncode_calls (w : World) (s : ByteArray) (hs : s.size ≤ 1000000) :
    Calls Tryd.prog 18 #[.string s] w fun e w' => e = .returned (.string (encB s)) ∧ Fr [] w w' := by
  obtain ⟨M, hM, hz⟩ : ∃ M, (8 * s.size + 4) / 5 = M ∧ (encB s).size = M := ⟨_, rfl, encB_size s⟩
  have HAT := Lib.hid (encB_at s)
  have HB := Lib.hid (fun W (i : Nat) (hi : i ≤ 10000000) (ii : Int) (hii : ii = i) => bit_calls W s i hs hi hii)
  have HPL := Lib.hid (pk_lt s)
  generalize bitN s = f at HAT HB HPL
  generalize encB s = d at hz HAT ⊢
  have hM8 : ∀ j, j < M ↔ 5 * j < 8 * s.size := fun j => by omega
  have HM := Lib.hid hM8
  have hMb : M ≤ 1600001 := by omega
  have hsz : (8 : Int) * (s.size : Int) ≤ 8000000 := by omega
  clear hM8 hM
  go_enter Tryd.func18, Tryd.ntmps18
  go_wp2_with fail
  go_loopw [3, 4] (fun v3 v4 wr => ∃ (j : Nat) (r : List Nat), v4 = .int .i64 ((5 * j : Nat) : Int) ∧ j ≤ M ∧ Hid (SRow 5 1 wr v3 r j (Lib.strCells (bL (d.data.toList.take j))) ∧ Fr [] w wr ∧ ∀ i, i ∈ r → w.heap.size ≤ i)) (fun _ v4 _ => 5 * M - (intOf v4).toNat)
  case atStart => exact ⟨0, [], rfl, Nat.zero_le _, Lib.hid ⟨SRow.nil _ _ _, Fr.refl _ _, by simp⟩⟩
  case round =>
    obtain ⟨j, r, rfl, hj, H⟩ := hrel
    have hj5 : ((5 * j : Nat) : Int) = 5 * (j : Int) := by omega
    by_cases hlt : j < M
    · have hl8 : ((5 * j : Nat) : Int) < 8 * (s.size : Int) := by have := (HM.out j).1 hlt; omega
      have hjb : ((5 * j : Nat) : Int) ≤ 9000000 := by omega
      obtain ⟨A2, cap2, rfl, hnc, hcm, hrd, hblk⟩ := H.out.1.reads
      clear hrd hblk
      generalize hP : 5 * j = P at *
      have HPJ := Lib.hid hP
      have HPJ2 := Lib.hid (show (P : Int) + 5 = ((5 * (j + 1) : Nat) : Int) by omega)
      clear hP hj5
      go_wp2_with fail
      go_loopw [5, 6] (fun v5 v6 wq => ∃ k : Nat, k ≤ 5 ∧ v6 = .int .i64 k ∧ v5 = .int .i64 (pk f P k) ∧ Hid (Fr [] wr wq)) (fun _ v6 _ => 5 - (intOf v6).toNat)
      case atStart => exact ⟨0, by omega, rfl, rfl, Lib.hid (Fr.refl _ _)⟩
      case round =>
        obtain ⟨k, hk, rfl, rfl, HF⟩ := hrel
        have hpl := HPL.out P k hk
        by_cases hk5 : k < 5
        · have hfb := (HPL.out P (k + 1) (by omega)).1
          obtain ⟨p, hp⟩ : ∃ p, pk f P k = p := ⟨_, rfl⟩
          have hp1 : pk f P (k + 1) = 2 * p + f (P + k) := by rw [pk, hp]
          rw [hp] at hpl ⊢
          rw [hp1] at hfb
          have HP1 := Lib.hid hp1
          generalize hq : f (P + k) = q at *
          have HB2 := Lib.hid (fun W => HB.out W (P + k) (by omega))
          rw [hq] at HB2
          obtain ⟨N, hN, hNi⟩ : ∃ N : Nat, P + k = N ∧ (P : Int) + (k : Int) = (N : Int) := ⟨_, rfl, by omega⟩
          rw [hN] at HB2
          clear hp hp1 hq hN
          go_wp2_with fail
          (with_reducible refine (HB2.out _ _ rfl).mono ?_)
          rintro e w1 ⟨rfl, hf1⟩
          have HF1 := Lib.hid (HF.out.then hf1)
          clear hf1
          go_wp2_with fail
          exact ⟨⟨k + 1, by omega, by go_num, by rw [HP1.out]; go_num, HF1⟩, by simp only [intOf]; omega⟩
        · obtain rfl : k = 5 := by omega
          rw [pk_five]
          rw [pk_five] at hpl
          have hat := HAT.out j (by omega)
          rw [HPJ.out] at hat
          have hx := index_dig (v5 f P) hpl.1
          generalize v5 f P = V at *
          rw [← hat] at hx
          generalize hc : d[j] = c at hx
          have hts : d.data.toList.take (j + 1) = d.data.toList.take j ++ [c] := by rw [take_nxt d j (by omega), hc]
          have HTS := Lib.hid hts
          have hV0 : (0 : Int) ≤ (V : Int) := by omega
          have hV1 : (V : Int) < 32 := by omega
          have H2 := Lib.hid (And.intro (H.out.1.keep HF.out (by simp)) (And.intro (H.out.2.1.then HF.out) H.out.2.2))
          clear hat hts hc H hpl
          go_wp2_with (at_builtin; refine wpList_sapp rfl _ _ 34 rfl 5 Tryd.underlying34 _ 1 1 infoByte rfl (by decide) (.slice A2 j cap2) r j _ rfl (H2.out.1.keep ((Fr.refl [] _).alloc _) (by simp)) ⟨wr.heap.size, 0, none⟩ 1 1 [.int .u8 (c.toNat : Int)] rfl rfl (by exact RdV.new _ #[.int .u8 (c.toNat : Int)] 5 rfl rfl) (by simp [Value.oneCell']) (by simp only [maxLen]; omega) (by omega) ?_)
          intro v' w2 r' h6 hf2 hn2
          clear hx
          go_wp2_with fail
          have h7 : Fr r wr w2 := ((Fr.refl r wr).alloc _).trans hf2 (fun k hk => .inl hk)
          refine ⟨⟨j + 1, r', by rw [HPJ2.out], by omega, Lib.hid ⟨?_, H2.out.2.1.trans h7 (fun i hi => .inr (H2.out.2.2 i hi)), fun i hi => (hn2 i hi).elim (H2.out.2.2 i) (fun h9 => by have := H2.out.2.1.size; first | omega | (simp at h9; omega))⟩⟩, by have := HPJ.out; simp only [intOf]; omega⟩
          rw [HTS.out, ← strCells_snoc]
          exact h6
    · obtain rfl : j = M := by omega
      have hl8 : ¬ ((5 * j : Nat) : Int) < 8 * (s.size : Int) := fun h => hlt ((HM.out _).2 (by omega))
      have hH := H.out
      rw [List.take_of_length_le (by rw [Array.length_toList]; exact Nat.le_of_eq hz)] at hH
      obtain ⟨A2, cap2, rfl, hnc, hcm, hrd, hblk⟩ := hH.1.reads
      have hsp : ∀ ad, A2 = some ad → ad.spot = none := by
        rintro ad rfl
        rcases hH.1.1.2 with ⟨h1, _⟩ | ⟨g, cap, cur, h1, _⟩ <;> cases h1
        rfl
      have hcv := fun c => run_toString (P := Tryd.prog) (w := wr) (c := c) Tryd.underlying34 Tryd.underlying5 Tryd.underlying9 hz.symm hrd hsp
      have HF := Lib.hid hH.2.1
      clear hH H hrd hblk
      go_wp2_with fail
      go_ret
      exact ⟨rfl, HF.out⟩
theorem RToken_ten (w : World) (s : ByteArray) (hs : s.size ≤ 1000000) :
    Calls Tryd.prog 20 #[.string s] w fun e w' => e = .returned (.string (if s.size = 10 then encB s else ⟨#[]⟩)) ∧ Fr [] w w' := by
  have HE := Lib.hid (fun W => REncode_calls W s hs)
  by_cases h : s.size = 10
  · have h10 : ((s.size : Int) != 10) = false := bne_eq_false_iff_eq.2 (by omega)
    rw [if_pos h]
    clear hs h
    go_enter Tryd.func20, Tryd.ntmps20
    go_wp2_with fail
    (with_reducible refine (HE.out _).mono ?_)
    rintro e w1 ⟨rfl, hf1⟩
    have HF := Lib.hid hf1
    clear hf1
    go_wp2_with fail
    go_ret
    exact ⟨rfl, HF.out⟩
  · have h10 : ((s.size : Int) != 10) = true := by simp only [bne_iff_ne, ne_eq]; omega
    rw [if_neg h]
    clear hs h
    go_enter Tryd.func20, Tryd.ntmps20
    go_wp2_with fail
    go_ret
    exact ⟨rfl, Fr.refl _ _⟩
end Go.Proofs.YtbfpfmnkmpcgpaaDoor
