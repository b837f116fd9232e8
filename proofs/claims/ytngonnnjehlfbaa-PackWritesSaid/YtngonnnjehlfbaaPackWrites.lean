/- The law PackWrites: for any numbers and any texts the Go function returns true (its walk). -/
import Derived.Test.YtngonnnjehlfbaaFew03
import Derived.Test.YtngonnnjehlfbaaAwake03
import Derived.Test.YtngonnnjehlfbaaRef03W
import Derived.Test.YtngonnnjehlfbaaFewSize
namespace Go.Proofs.Ytngonnnjehlfbaa
open Go.RowKit
set_option linter.unusedVariables false
set_option linter.unusedSimpArgs false

set_option maxHeartbeats 2000000 in
set_option maxRecDepth 100000 in
theorem PackWrites_core (A B : Option Addr) (ca cb : Nat) (ln : List Int) (ll m : List ByteArray) (hm : fewB ll = m) (w : World) (hra : RdV w A (ln.map (.int .u64))) (hrb : RdV w B (ll.map .string)) (hsa : ∀ x, x ∈ ln → Bd .u64 x) (hsb : ∀ x, x ∈ ll → x.size ≤ maxLen) (hla : ln.length ≤ maxLen) (hlb : ll.length ≤ maxLen) :
    Calls Try.prog 4 #[.slice A ln.length ca, .slice B ll.length cb] w fun e w' => e = .returned (.bool true) ∧ Fr [] w w' := by
  have hB : ∀ (W : World), Fr [] w W → Calls Try.prog 18 #[.slice B ll.length cb] W fun e w' => ∃ v r, e = .returned v ∧ SRow 9 1 w' v r m.length (m.map .string) ∧ Fr [] W w' ∧ (∀ k, k ∈ r → W.heap.size ≤ k) := by
    intro W hW
    rw [← hm]
    exact few03_calls W B cb ll (hrb.keep hW (by simp)) hsb hlb
  have h2s : ∀ x, x ∈ m → x.size ≤ 200 := hm ▸ fewB_size ll
  have h2l : m.length ≤ 8 := hm ▸ fewB_length ll
  have h2z := sizes_few h2s
  have HB := Lib.hid hB
  clear hm hB h2s hrb hsb
  unfold maxLen at hla hlb
  go_enter Try.func4, Try.ntmps4
  go_wp2_with fail
  refine (awake03_calls _).mono ?_
  rintro e w1 ⟨rfl, hf1⟩
  go_wp2_with fail
  refine (HB.out _ hf1).mono ?_
  rintro e w2 ⟨v, r, rfl, hs, hf2, hn2⟩
  obtain ⟨A2, c2, rfl, hc1, hc2, hrd, hA2⟩ := hs.reads
  have hF2 := hf1.then hf2
  have hlt := hs.lt
  have hA3 : ∀ ad, A2 = some ad → ad.block < w2.heap.size := fun ad ha => hlt _ (hA2 ad ha)
  clear hs hf1 hf2 hA2 hn2 HB hlt
  go_wp2_with fail
  have hx0 := BldN.make 32 5 (Fr.refl [] w2) rfl
  go_loopw [8, 9] (fun v8 v9 wr => ∃ (k : Nat) (t : ByteArray) (r : List Nat), v8 = .string t ∧ v9 = .int .i64 k ∧ k ≤ ln.length ∧ k ≤ 8 ∧ t.size ≤ 10 * k ∧ Hid (BldN 32 5 w2 wr w2.heap.size r t)) (fun _ v9 _ => 8 - (intOf v9).toNat)
  case atStart => exact ⟨0, ⟨#[]⟩, [], rfl, rfl, Nat.zero_le _, Nat.zero_le _, Nat.zero_le _, hx0⟩
  case round =>
    clear hx0
    obtain ⟨k, t, r, rfl, rfl, hk, hk8, hts, H⟩ := hrel
    by_cases hlk : k < ln.length ∧ k < 8
    · obtain ⟨hl1, hl2⟩ := hlk
      obtain ⟨ad, rfl, hc0⟩ := hra k (.int .u64 ln[k]) (by simp [hl1])
      have hc : wr.cell? (ad.add k) = some (.int .u64 ln[k]) := (hF2.then H.out.fr).cell' hc0 (by simp)
      have hx := (hsa ln[k] (List.getElem_mem hl1)).u64
      generalize hxx : ln[k] = x at hc hx hc0
      clear hxx
      go_wp2_with fail
      refine (Writer_NumV_calls _ bty_writer w2.heap.size r t _ [x] rfl rfl rfl (by simpa using hx) H.out.bld (by simp; omega)).mono ?_
      rintro e w3 ⟨rfl, r3, h3, hf3, hn3⟩
      have H3 := Lib.hid (H.out.step h3 hf3 hn3)
      have hc : w3.cell? (ad.add k) = some (.int .u64 x) := (hF2.then H3.out.fr).cell' hc0 (by simp)
      clear h3 hf3 hn3 H
      go_wp2_with fail
      refine (refNum_calls x _ hx.1 hx.2).mono ?_
      rintro e w4 ⟨rfl, hf4⟩
      have H4 := Lib.hid (H3.out.other hf4 (by simp) (by simp))
      have hnx := numB_size x.toNat (by omega)
      have e1 : numsB [x] = numB x.toNat := by simp [numsB, app_nil]
      have E1 := Lib.hid e1
      clear hf4 H3 hc hc0 e1
      go_wp2_with fail
      refine ⟨⟨k + 1, _, r3, rfl, by go_num, by omega, by omega, by rw [ByteArray.size_append]; omega, ?_⟩, by simp only [intOf]; omega⟩
      have h5 := H4.out
      rw [E1.out] at h5
      exact h5
    · have hW := H.out
      have hdA : ∀ (r : List Nat) (s : ByteArray) (W : World), BldN 32 5 w2 W w2.heap.size r s → ∀ ad, A2 = some ad → ad.block ∉ w2.heap.size :: r := fun r s W h ad ha hmem => by have := h.new _ hmem; have := hA3 ad ha; omega
      have HD := Lib.hid hdA
      clear hdA H hra hsa
      by_cases hl1 : k < ln.length
      all_goals
        have h8 : ¬ (k < 8 ∧ k < ln.length) := fun h => hlk ⟨h.2, h.1⟩
        go_wp2_with fail
        refine (Writer_Text_calls _ bty_writer w2.heap.size r t _ A2 c2 m (hrd.keep hW.fr (by simp)) (HD.out _ _ _ hW) hW.bld (by omega)).mono ?_
        rintro e w3 ⟨rfl, r3, h3, hf3, hn3⟩
        have h4 := hW.step h3 hf3 hn3
        have hsm := txtsB_size m (fun x hx => by have := size_of_sizes hx; omega)
        clear h3 hf3 hn3 hW
        go_wp2_with fail
        refine (Writer_Row_calls _ bty_writer w2.heap.size r3 _ _ A2 c2 m (hrd.keep h4.fr (by simp)) (HD.out _ _ _ h4) (fun ad ha => by have := hA3 ad ha; have := h4.fr.size; omega) h4.bld (by rw [ByteArray.size_append]; omega)).mono ?_
        rintro e w4 ⟨rfl, r4, h5, hf5, hn5⟩
        have H6 := Lib.hid (h4.step h5 hf5 hn5)
        clear h4 h5 hf5 hn5 HD
        go_wp2_with fail
        go_loopw [8, 10] (fun v8 v10 wr => ∃ (k : Nat) (u : ByteArray), v8 = .string u ∧ v10 = .int .i64 k ∧ k ≤ m.length ∧ u.size ≤ 80 + sizes (m.take k) ∧ Hid (u = t ++ txtsB (m.take k)) ∧ Hid (BldN 32 5 w2 wr w2.heap.size r4 (t ++ txtsB m ++ rowB m))) (fun _ v10 _ => m.length - (intOf v10).toNat)
        case atStart => exact ⟨0, t, rfl, rfl, Nat.zero_le _, by omega, by simp [Hid, txtsB, app_nil], H6.out⟩
        case round =>
          clear H6
          obtain ⟨j, u, rfl, rfl, hj, hus, HU, HW⟩ := hrel
          by_cases hlj : j < m.length
          · obtain ⟨ad, rfl, hc0⟩ := hrd j (.string m[j]) (by simp [hlj])
            have hc : wr.cell? (ad.add j) = some (.string m[j]) := HW.out.fr.cell' hc0 (by simp)
            have h1 := sizes_take_succ hlj
            have h2 : sizes (m.take (j + 1)) = sizes (m.take j) + (m[j].size + 10) := by
              rw [List.take_succ_eq_append_getElem hlj, sizes_append]
              simp [sizes]
            have hx := numB_size m[j].size (by omega)
            have htx : (txtB m[j]).size ≤ m[j].size + 10 := by simp only [txtB, ByteArray.size_append]; omega
            generalize hxx : m[j] = x at hc h1 h2 htx
            have HXX := Lib.hid hxx
            have H2 := Lib.hid h2
            clear hxx hc0 h2 hx
            go_wp2_with fail
            refine (refText_calls x _ (by omega)).mono ?_
            rintro e w5 ⟨rfl, hf5⟩
            go_wp2_with fail
            refine ⟨⟨j + 1, _, rfl, by go_num, by omega, ?_, ?_, HW.out.other hf5 (by simp) (by simp)⟩, by simp only [intOf]; omega⟩
            · rw [H2.out, ByteArray.size_append]
              omega
            · rw [txtsB_take hlj, HXX.out, ← app_assoc, HU.out]
              rfl
          · obtain rfl : j = m.length := by omega
            have hrs := rowB_size m (by omega)
            rw [List.take_length] at hus
            go_wp2_with fail
            refine (refRow_calls A2 c2 m _ (hrd.keep HW.out.fr (by simp)) (by omega)).mono ?_
            rintro e w5 ⟨rfl, hf5⟩
            have h7 := HW.out.other hf5 (by simp) (by simp)
            clear HW hf5
            go_wp2_with fail
            refine (Writer_String_calls _ bty_writer w2.heap.size r4 _ _ h7.bld).mono ?_
            rintro e w6 ⟨rfl, h8, hf8⟩
            have hF : Fr [] w w6 := hF2.then (h7.fr.trans hf8 (fun k hk => .inr (h7.new k (by simp [hk]))))
            have he : t ++ txtsB m ++ rowB m = u ++ rowB m := by rw [HU.out, List.take_length]
            rw [he]
            clear h7 h8 hf8 HU he
            go_wp2
            go_ret
            exact ⟨rfl, hF⟩

/-- For any numbers and any texts the law returns true. -/
theorem PackWrites_walk (w : World) (A : Option Addr) (ca : Nat) (ln : List Int) (hra : RdV w A (ln.map (.int .u64))) (hsa : ∀ x, x ∈ ln → Bd .u64 x) (hla : ln.length ≤ maxLen) (B : Option Addr) (cb : Nat) (ll : List ByteArray) (hrb : RdV w B (ll.map .string)) (hsb : ∀ x, x ∈ ll → x.size ≤ maxLen) (hlb : ll.length ≤ maxLen) :
    Calls Try.prog 4 #[.slice A ln.length ca, .slice B ll.length cb] w fun e w' => e = .returned (.bool true) ∧ Fr [] w w' :=
  PackWrites_core A B ca cb ln ll _ rfl w hra hrb hsa hsb hla hlb

end Go.Proofs.Ytngonnnjehlfbaa
