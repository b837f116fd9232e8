/- Contract of the document's layer 6: Hex. -/
import Derived.Test.YtlcfambhjclkiaaShaDSum
import Derived.Test.YtlcfambhjclkiaaShaHex
import Derived.Deep.RegionHeld3
namespace Go.Proofs.Ytlcfambhjclkiaa
open Go.RowKit
set_option linter.unusedVariables false
set_option linter.unusedSimpArgs false

theorem hexL_snoc2 (l : List UInt8) (c : UInt8) : Lib.strCells (lB (hexL l)) ++ Lib.strCells (lB [hexDig.getD (c.toNat / 16) 0, hexDig.getD (c.toNat % 16) 0]) = Lib.strCells (lB (hexL (l ++ [c]))) := by
  rw [← strCells_app, lB_app, hexL, hexL, List.flatMap_append]
  simp
set_option maxHeartbeats 4000000 in
set_option maxRecDepth 100000 in
theorem DHex_calls (w : World) (s : ByteArray) (hs : s.size ≤ 1000000) :
    Calls Try.prog 19 #[.string s] w fun e w' => e = .returned (.string (hexB s)) ∧ Fr [] w w' := by
  have HE := Lib.hid (hexB_eq s)
  have HZ := Lib.hid (show (hexB s).size = 2 * s.size from by rw [hexB_eq, lB_size, hexL_len, Array.length_toList]; rfl)
  go_enter Try.func19, Try.ntmps19
  go_wp2_with fail
  go_loopw [4, 5] (fun v4 v5 wr => ∃ (k : Nat) (r : List Nat), v5 = .int .i64 k ∧ k ≤ s.size ∧ Hid (SRow 5 1 wr v4 r (2 * k) (Lib.strCells (lB (hexL (s.data.toList.take k)))) ∧ Fr [] w wr ∧ ∀ i, i ∈ r → w.heap.size ≤ i)) (fun _ v5 _ => s.size - (intOf v5).toNat)
  case atStart => exact ⟨0, [], rfl, Nat.zero_le _, Lib.hid ⟨SRow.nil _ _ _, Fr.refl _ _, by simp⟩⟩
  case round =>
    obtain ⟨k, r, rfl, hk, H⟩ := hrel
    by_cases hlt : k < s.size
    · obtain ⟨A2, cap2, rfl, hnc, hcm, hrd, hblk⟩ := H.out.1.reads
      have hsn := hexL_snoc2 (s.data.toList.take k) s[k]
      rw [← take_next s k hlt] at hsn
      have hc := (s[k]).toNat_lt
      have hx1 := index_hex ((s[k]).toNat / 16) (by omega)
      have hx2 := index_hex ((s[k]).toNat % 16) (by omega)
      obtain ⟨p, hp, hpi, hp16⟩ : ∃ p : Nat, (s[k]).toNat / 16 = p ∧ ((s[k]).toNat : Int).tdiv 16 = (p : Int) ∧ p < 16 := ⟨_, rfl, by rw [Int.tdiv_eq_ediv_of_nonneg (by omega)]; omega, by omega⟩
      obtain ⟨q, hq, hqi, hq16⟩ : ∃ q : Nat, (s[k]).toNat % 16 = q ∧ ((s[k]).toNat : Int).tmod 16 = (q : Int) ∧ q < 16 := ⟨_, rfl, by rw [Int.tmod_eq_emod_of_nonneg (by omega)]; omega, by omega⟩
      have hpw : IntKind.u8.wrap (p : Int) = (p : Int) := by rw [IntKind.wrap_u8']; omega
      have hqw : IntKind.u8.wrap (q : Int) = (q : Int) := by rw [IntKind.wrap_u8']; omega
      rw [hp] at hx1 hsn
      rw [hq] at hx2 hsn
      generalize hexDig.getD p 0 = d1 at hx1 hsn
      generalize hexDig.getD q 0 = d2 at hx2 hsn
      have HX : Hid (Lib.strCells (lB [d1, d2]) = [.int .u8 (d1.toNat : Int), .int .u8 (d2.toNat : Int)]) := Lib.hid rfl
      have HSN := Lib.hid hsn
      have hk0 : (0 : Int) ≤ (k : Int) := by omega
      have hk1 : (k : Int) < s.size := by omega
      have HK : Hid (2 * k + 2 = 2 * (k + 1)) := Lib.hid (by omega)
      clear hsn hp hq hrd hblk
      go_wp2_with fail
      go_region_held3 (fun _ => True) (first | trivial | go_keep)
        ((refine step_sapp (by rfl) _ _ 27 (by rfl) 5 Try.underlying27 _ 1 1 infoByte rfl (by decide) (.slice A2 (2 * k) cap2) r (2 * k) _ (by rfl) (H.out.1.keep (((Fr.refl [] _).alloc _).drew) (by simp)) ⟨wr.heap.size, 0, none⟩ 2 2 (Lib.strCells (lB [d1, d2])) (by rfl) (by rw [Lib.strCells_length, lB_size]; rfl) (rdv_drew (RdV.new _ _ 5 rfl HX.out)) (Lib.strCells_oneCell _) (by decide) (by simp only [maxLen]; omega) (by omega) ?_; intro v' w5 r' h6 hf5 hn5))
      all_goals
        clear hx1 hx2 hpi hqi hpw hqw
        go_wp2
        have hf7 : Fr r wr w5 := ((Fr.refl r wr).alloc _).drew.trans hf5 (fun k hk => .inl hk)
        refine ⟨⟨k + 1, r', by go_num, by omega, Lib.hid ⟨?_, H.out.2.1.trans hf7 (fun i hi => .inr (H.out.2.2 i hi)), fun i hi => (hn5 i hi).elim (H.out.2.2 i) (fun h9 => by have := H.out.2.1.size; first | omega | (simp at h9; omega))⟩⟩, by simp only [intOf]; omega⟩
        rw [← HSN.out, ← HK.out]
        exact h6
    · obtain rfl : k = s.size := by omega
      have hH := H.out
      rw [List.take_of_length_le (by rw [Array.length_toList]; exact Nat.le_refl _), ← HE.out] at hH
      obtain ⟨A2, cap2, rfl, hnc, hcm, hrd, hblk⟩ := hH.1.reads
      have hsp : ∀ ad, A2 = some ad → ad.spot = none := by
        rintro ad rfl
        rcases hH.1.1.2 with ⟨h1, _⟩ | ⟨g, cap, cur, h1, _⟩ <;> cases h1
        rfl
      have hcv := fun c => run_toString (P := Try.prog) (w := wr) (c := c) Try.underlying27 Try.underlying5 Try.underlying9 HZ.out.symm hrd hsp
      have HF := Lib.hid hH.2.1
      clear hH H hrd hblk
      go_wp2_with fail
      go_ret
      exact ⟨rfl, HF.out⟩
end Go.Proofs.Ytlcfambhjclkiaa
