/- Contracts of the document's layer 8: Decode. -/
import Derived.Test.YtbfpfmnkmpcgpaaDoorRefDecP
namespace Go.Proofs.YtbfpfmnkmpcgpaaDoor
open Go.RowKit
set_option linter.unusedVariables false
set_option linter.unusedSimpArgs false

theorem BBN.keep {w0 w w' : World} {g : Nat} {l : List UInt8} (h : BBN w0 w g l) (hf : Fr [] w w') : BBN w0 w' g l := ⟨h.bb.keep hf (by simp), h.fr.then hf, h.new⟩
set_option maxHeartbeats 4000000 in
set_option maxRecDepth 100000 in
theorem RDecode_calls (w : World) (s : ByteArray) (hs : s.size ≤ 100000) :
    Calls Tryd.prog 17 #[.string s] w fun e w' => e = .returned (.tuple #[.string ((decB s).getD ⟨#[]⟩), .bool (decB s).isSome]) ∧ Fr [] w w' := by
  obtain ⟨m, hm, hmi⟩ : ∃ m : Nat, s.size * 5 / 8 = m ∧ ((s.size : Int) * 5).tdiv 8 = (m : Int) := ⟨_, rfl, by rw [Int.tdiv_eq_ediv_of_nonneg (by omega)]; omega⟩
  have hmi2 : (s.size : Int) * 5 / 8 = (m : Int) := by omega
  have hm6 : m ≤ 62500 := by omega
  have hz := run_zeros w m (mi := (m : Int)) rfl (by omega)
  have h0 := BBN.make (Fr.refl [] w) m
  rw [← rowF_zero (fS s) m] at h0
  have HT : Hid (decT s = bL (rowF (fS s) m (5 * s.size))) := Lib.hid (by rw [decT, hm])
  have HTZ : Hid ((decT s).size = m) := Lib.hid (by rw [decT_size, hm])
  have HDB := Lib.hid (decB_T s)
  have HBAD := Lib.hid (decB_bad s)
  have HFD : Hid (∀ i k d (hi : i < s.size), k < 5 → digV s[i] = some d → fS s (5 * i + k) = d / 2 ^ (4 - k) % 2) := Lib.hid (fun i k d hi hk h => by
    unfold fS dgN
    rw [show (5 * i + k) / 5 = i by omega, show (5 * i + k) % 5 = k by omega, List.getD_eq_getElem?_getD, List.getElem?_eq_getElem (by rw [Array.length_toList]; exact hi)]
    show (digV s[i]).getD 0 / _ % 2 = _
    rw [h]; rfl)
  have HFL := Lib.hid (fS_lt s)
  have HRE := Lib.hid (fun W => REncode_calls W (decT s) (by rw [decT_size]; omega))
  generalize fS s = f at *
  generalize decT s = T at HT HTZ HDB HRE
  generalize hE : encB T = E at HDB HRE
  clear hE
  generalize decB s = R at HDB HBAD ⊢
  generalize hW : w.alloc (.cells (Lib.strCells (zerosB m)).toArray 5) = W1 at hz h0
  have H0 := Lib.hid h0
  clear h0 hW hm
  generalize w.heap.size = g at hz H0
  have hsz : (s.size : Int) ≤ 100000 := by omega
  go_enter Tryd.func17, Tryd.ntmps17
  go_wp2_with fail
  clear hz hmi hmi2
  go_loopw [5] (fun v5 wr => ∃ i : Nat, v5 = .int .i64 i ∧ i ≤ s.size ∧ Hid (BBN w wr g (rowF f m (5 * i)))) (fun v5 _ => s.size - (intOf v5).toNat)
  case atStart => exact ⟨0, rfl, Nat.zero_le _, Lib.hid H0.out⟩
  case round =>
    clear H0
    obtain ⟨i, rfl, hi, H⟩ := hrel
    by_cases hlt : i < s.size
    · have hi0 : (0 : Int) ≤ (i : Int) := by omega
      have hi1 : (i : Int) < (s.size : Int) := by omega
      have HV := Lib.hid (fun (W : World) => value_calls W (s[i]'hlt))
      cases hdv : digV s[i] with
      | none =>
        have hR := HBAD.out i hlt hdv
        subst hR
        have HV2 := Lib.hid (fun (W : World) => (show valI s[i] = -1 by unfold valI; rw [hdv]) ▸ HV.out W)
        clear hdv HV
        go_wp2_with fail
        (with_reducible refine (HV2.out _).mono ?_)
        rintro e w1 ⟨rfl, hf1⟩
        have HF := Lib.hid (H.out.fr.then hf1)
        clear hf1
        go_wp2_with fail
        go_ret2
        exact ⟨rfl, HF.out⟩
      | some d =>
        have hd32 := (digV_some hdv).1
        have HV2 := Lib.hid (fun (W : World) => (show valI s[i] = (d : Int) by unfold valI; rw [hdv]) ▸ HV.out W)
        have HFK := Lib.hid (fun k hk => HFD.out i k d hlt hk hdv)
        clear hdv HV
        go_wp2_with fail
        (with_reducible refine (HV2.out _).mono ?_)
        rintro e w1 ⟨rfl, hf1⟩
        have H1 := Lib.hid (H.out.keep hf1)
        clear hf1 H
        go_wp2_with fail
        go_loopw [7] (fun v7 wq => ∃ k : Nat, v7 = .int .i64 k ∧ k ≤ 5 ∧ Hid (BBN w wq g (rowF f m (5 * i + k)))) (fun v7 _ => 5 - (intOf v7).toNat)
        case atStart => exact ⟨0, rfl, by omega, H1⟩
        case round =>
          clear H1
          obtain ⟨k, rfl, hk, H2⟩ := hrel
          by_cases hk5 : k < 5
          · have hfk := HFK.out k hk5
            obtain ⟨P, hP, hPi⟩ : ∃ P : Nat, 5 * i + k = P ∧ 5 * (i : Int) + (k : Int) = (P : Int) := ⟨_, rfl, by omega⟩
            have HK1 := Lib.hid (show 5 * i + (k + 1) = P + 1 by omega)
            rw [hP] at hfk H2
            have hP0 : (P : Int) ≤ 500000 := by omega
            obtain ⟨q, hq, hqi⟩ : ∃ q : Nat, P / 8 = q ∧ (P : Int).tdiv 8 = (q : Int) := ⟨_, rfl, by rw [Int.tdiv_eq_ediv_of_nonneg (by omega)]; omega⟩
            have hqi2 : (P : Int) / 8 = (q : Int) := by omega
            have hq0 : (0 : Int) ≤ (q : Int) := by omega
            by_cases hqm : q < m
            · have hqm' : (q : Int) < (m : Int) := by omega
              obtain ⟨e, he, hei⟩ : ∃ e : Nat, 4 - k = e ∧ (4 : Int) - (k : Int) = (e : Int) := ⟨_, rfl, by omega⟩
              have he4 : e ≤ 4 := by omega
              rw [he] at hfk
              have hand := and_1 (d / 2 ^ e) (by have := Nat.div_le_self d (2 ^ e); omega)
              rw [← hfk, show ((d / 2 ^ e : Nat) : Int) = (d : Int) / 2 ^ e by simp] at hand
              obtain ⟨x, hx⟩ : ∃ x, f P = x := ⟨_, rfl⟩
              rw [hx] at hand
              have hx2 : x < 2 := by rw [← hx]; exact HFL.out P
              by_cases hx1 : x = 1
              · have hxe : ((x : Int) == 1) = true := beq_iff_eq.2 (by omega)
                obtain ⟨ρ, hρ, hρi⟩ : ∃ ρ : Nat, P % 8 = ρ ∧ (P : Int).tmod 8 = (ρ : Int) := ⟨_, rfl, by rw [Int.tmod_eq_emod_of_nonneg (by omega)]; omega⟩
                have hρi2 : (P : Int) % 8 = (ρ : Int) := by omega
                have hst := rowF_set f m P (by omega)
                have hgt := rowF_get f m P q hqm
                have hle := byteF_here f P
                have hlb := byteF_lt f HFL.out (P + 1) (P / 8)
                rw [hx, hx1, Nat.one_mul, hq, hρ] at hst
                rw [hle, hx, hx1, Nat.one_mul, hq, hρ] at hlb
                generalize byteF f P q = B at hst hgt hlb
                obtain ⟨z, hzz, hzi⟩ : ∃ z : Nat, 7 - ρ = z ∧ (7 : Int) - (ρ : Int) = (z : Int) := ⟨_, rfl, by omega⟩
                rw [hzz] at hst hlb
                have hz7 : z ≤ 7 := by omega
                have h2p : 0 < 2 ^ z := Nat.two_pow_pos z
                obtain ⟨c, hc, hcB⟩ : ∃ c, UInt8.ofNat B = c ∧ c.toNat = B := ⟨_, rfl, by rw [UInt8.toNat_ofNat']; omega⟩
                obtain ⟨D, hD, hDB⟩ : ∃ D, UInt8.ofNat (B + 2 ^ z) = D ∧ D.toNat = B + 2 ^ z := ⟨_, rfl, by rw [UInt8.toNat_ofNat']; omega⟩
                rw [hc] at hgt
                rw [hD] at hst
                have hc0 := H2.out.bb.cellL hgt
                have hf0 := H2.out.bb.frozenL q
                have h3 := H2.out.set q D
                rw [hst, ← HK1.out] at h3
                have H3 := Lib.hid h3
                have h2z : 2 ^ z ≤ 2 ^ 7 := Nat.pow_le_pow_right (by omega) hz7
                have hp2 : ((2 ^ z : Nat) : Int) = (2 : Int) ^ z := by simp
                have hwD : (c.toNat : Int) + (2 : Int) ^ z = (D.toNat : Int) := by rw [← hp2]; omega
                have hD255 : (D.toNat : Int) ≤ 255 := by have := D.toNat_lt; omega
                have hw2 : IntKind.u8.wrap ((2 : Int) ^ z) = (2 : Int) ^ z := by rw [← hp2, IntKind.wrap_u8]; omega
                have hw3 : IntKind.u8.wrap ((1 : Int) * (2 : Int) ^ z) = (2 : Int) ^ z := by rw [Int.one_mul, hw2]
                have hw4 : IntKind.u8.wrap ((D.toNat : Int)) = (D.toNat : Int) := by rw [IntKind.wrap_u8]; omega
                have hw5 : IntKind.u8.wrap ((c.toNat : Int) + (2 : Int) ^ z) = (D.toNat : Int) := by rw [hwD, hw4]
                clear hst hgt hle hlb hc hD h3 hzz hρ he hq hP hx hx2 hfk h2z hp2 hcB hDB H2 h2p
                go_wp2_with fail
                exact ⟨⟨k + 1, by go_num, by omega, H3⟩, by simp only [intOf]; omega⟩
              · have hxe : ((x : Int) == 1) = false := beq_eq_false_iff_ne.2 (by omega)
                have H3 := Lib.hid (show BBN w wr g (rowF f m (5 * i + (k + 1))) by rw [HK1.out, ← rowF_skip f m P (.inr (by omega))]; exact H2.out)
                clear hfk he hq hP hx hx2 H2
                go_wp2_with fail
                exact ⟨⟨k + 1, by go_num, by omega, H3⟩, by simp only [intOf]; omega⟩
            · have hqm' : ¬ (q : Int) < (m : Int) := by omega
              have H3 := Lib.hid (show BBN w wr g (rowF f m (5 * i + (k + 1))) by rw [HK1.out, ← rowF_skip f m P (.inl (by omega))]; exact H2.out)
              clear hfk hq hP H2
              go_wp2_with fail
              exact ⟨⟨k + 1, by go_num, by omega, H3⟩, by simp only [intOf]; omega⟩
          · obtain rfl : k = 5 := by omega
            have H3 := Lib.hid (show BBN w wr g (rowF f m (5 * (i + 1))) by rw [show 5 * (i + 1) = 5 * i + 5 by omega]; exact H2.out)
            clear H2
            go_wp2_with fail
            exact ⟨⟨i + 1, by go_num, by omega, H3⟩, by simp only [intOf]; omega⟩
    · obtain rfl : i = s.size := by omega
      have htx := fun c => H.out.text (n := m) (c := c) (rowF_len f m _).symm
      rw [← HT.out] at htx
      have HTX : Hid (∀ c W, Fr [] wr W → (convert 34 9 (.slice (some ⟨g, 0, none⟩) m c)).run Tryd.prog W = .ok (.string T) W) := Lib.hid (fun c W hW => by
        have := (H.out.keep hW).text (n := m) (c := c) (rowF_len f m _).symm
        rwa [← HT.out] at this)
      have HF := Lib.hid H.out.fr
      have hDB := HDB.out
      by_cases hES : E = s
      · rw [if_pos hES] at hDB
        have hne : (s.toList != s.toList) = false := by simp
        rw [hES] at HRE
        clear H hES HDB
        subst hDB
        go_wp2_with fail
        clear htx
        (with_reducible refine (HRE.out _).mono ?_)
        rintro e w1 ⟨rfl, hf1⟩
        have htx := fun c => HTX.out c _ hf1
        have HF1 := Lib.hid (HF.out.then hf1)
        clear hf1
        go_wp2_with fail
        go_ret2
        exact ⟨rfl, HF1.out⟩
      · rw [if_neg hES] at hDB
        have hne1 : (E.toList == s.toList) = false := beq_eq_false_iff_ne.2 (fun e => hES (toList_inj e))
        have hne : (E.toList != s.toList) = true := by simp [bne, hne1]
        clear H hES
        subst hDB
        go_wp2_with fail
        clear htx
        (with_reducible refine (HRE.out _).mono ?_)
        rintro e w1 ⟨rfl, hf1⟩
        have HF1 := Lib.hid (HF.out.then hf1)
        clear hf1
        go_wp2_with fail
        go_ret2
        exact ⟨rfl, HF1.out⟩
end Go.Proofs.YtbfpfmnkmpcgpaaDoor
