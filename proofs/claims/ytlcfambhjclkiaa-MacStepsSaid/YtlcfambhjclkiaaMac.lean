/- The keyed digests of layer 7 (mac): plain Lean; contracts of turned, lay and of Mac's inner function. -/
import Derived.Test.YtlcfambhjclkiaaShaMeters
import Derived.Laws.BitsAllLaws
import Derived.Test.YtlcfambhjclkiaaSRow1
namespace Go.Proofs.Ytlcfambhjclkiaa
open Go.RowKit
set_option linter.unusedVariables false
set_option linter.unusedSimpArgs false

def xorL (c : Nat) (l : List UInt8) : List UInt8 := l.map fun x => UInt8.ofNat (x.toNat ^^^ c)
def xorB (c : Nat) (s : ByteArray) : ByteArray := lB (xorL c s.data.toList)
theorem xorL_len (c : Nat) (l : List UInt8) : (xorL c l).length = l.length := by simp [xorL]
theorem xorB_size (c : Nat) (s : ByteArray) : (xorB c s).size = s.size := by
  rw [xorB, lB_size, xorL_len, Array.length_toList]; rfl
theorem xorL_snoc (c : Nat) (l : List UInt8) (x : UInt8) : lB (xorL c l) ++ bOf (((UInt8.ofNat (x.toNat ^^^ c)).toNat : Nat) : Int) = lB (xorL c (l ++ [x])) := by
  rw [bOf_u8, lB_app, xorL, xorL, List.map_append]; rfl
theorem xor8 {a b : Nat} (ha : a < 256) (hb : b < 256) : a ^^^ b < 256 := Nat.xor_lt_two_pow (n := 8) ha hb

set_option maxHeartbeats 2000000 in
set_option maxRecDepth 100000 in
theorem turned_calls (w : World) (s : ByteArray) (c : Nat) {ci : Int} (hci : ci = c) (hc : c < 256) (hs : s.size ≤ 1000000) :
    Calls Try.prog 44 #[.string s, .int .u8 ci] w fun e w' => e = .returned (.string (xorB c s)) ∧ Fr [] w w' := by
  subst hci
  have HE : Hid (xorB c s = lB (xorL c s.data.toList)) := Lib.hid rfl
  go_enter Try.func44, Try.ntmps44
  go_wp2_with fail
  have h0 : BldN 62 5 w (w.alloc (.cells #[.pointer none, .slice none 0 0] 62)) w.heap.size [] ⟨#[]⟩ := BldN.make _ _ (Fr.refl _ _) rfl
  generalize w.alloc (.cells #[.pointer none, .slice none 0 0] 62) = W1 at h0 ⊢
  generalize w.heap.size = b at h0 ⊢
  have H0 := Lib.hid h0
  clear h0
  go_loopw [6, 9] (fun v6 v9 wr => ∃ (k : Nat) (r : List Nat), v9 = .int .i64 k ∧ k ≤ s.size ∧ Hid (BldN 62 5 w wr b r (lB (xorL c (s.data.toList.take k))))) (fun _ v9 _ => s.size - (intOf v9).toNat)
  case atStart => exact ⟨0, [], rfl, Nat.zero_le _, H0⟩
  case round =>
    clear H0
    obtain ⟨k, r, rfl, hk, H⟩ := hrel
    by_cases hlt : k < s.size
    · have hl : (lB (xorL c (s.data.toList.take k))).size = k := by rw [lB_size, xorL_len, List.length_take, Array.length_toList]; show min k s.size = _; omega
      have hsn := xorL_snoc c (s.data.toList.take k) s[k]
      rw [← take_next s k hlt] at hsn
      have hcc := (s[k]).toNat_lt
      have hx := u8_xor_nat (s[k]).toNat c hcc hc
      have hd : (UInt8.ofNat ((s[k]).toNat ^^^ c)).toNat = (s[k]).toNat ^^^ c := by rw [UInt8.toNat_ofNat']; exact Nat.mod_eq_of_lt (xor8 hcc hc)
      rw [← hd] at hx
      generalize lB (xorL c (s.data.toList.take k)) = acc at H hl hsn
      generalize UInt8.ofNat ((s[k]).toNat ^^^ c) = d at hx hsn
      have HS := Lib.hid (And.intro hl hsn)
      have hu1 := d.toNat_lt
      clear hl hsn hd
      go_wp2_with fail
      (with_reducible refine (WriteByte_calls 62 bty_b b _ _ _ (d.toNat : Int) (by omega) (by omega) H.out.bld (by have := HS.out.1; omega)).mono ?_)
      rintro e w3 ⟨rfl, r3, hb3, hf3, hn3⟩
      have h3 := H.out.step hb3 hf3 hn3
      rw [HS.out.2] at h3
      have H3 := Lib.hid h3
      clear hb3 hf3 hn3 h3 H HS hx
      go_wp2_with fail
      exact ⟨⟨k + 1, r3, by go_num, by omega, H3⟩, by simp only [intOf]; omega⟩
    · obtain rfl : k = s.size := by omega
      rw [List.take_of_length_le (by rw [Array.length_toList]; exact Nat.le_refl _), ← HE.out] at H
      go_wp2_with fail
      (with_reducible refine (String_calls 62 bty_b b _ _ _ H.out.bld).mono ?_)
      rintro e w4 ⟨rfl, hb4, hf4⟩
      have HFr := Lib.hid (H.out.fr.trans hf4 (fun k hk => .inr (H.out.new k (by simp [hk]))))
      clear hb4 hf4 H
      go_wp2_with fail
      go_ret
      exact ⟨rfl, HFr.out⟩

/-! ### a key, laid out -/
def macKey (key : ByteArray) : ByteArray := if 64 < key.size then shaSum key else key
def macLay (key : ByteArray) : ByteArray := macKey key ++ lB (List.replicate (64 - (macKey key).size) 0)
def macSide (key : ByteArray) (c : Nat) (rest : ByteArray) : ByteArray := shaSum (xorB c (macLay key) ++ rest)
/-- The keyed digest. -/
def macB (key rest : ByteArray) : ByteArray := macSide key 92 (macSide key 54 rest)
/-- How many digests a key takes. -/
def macK (key : ByteArray) : Nat := if 64 < key.size then 1 else 0
def mtK (m : Option Nat) (n k : Nat) : Nat := match m with | none => 0 | some _ => n + k
theorem macKey_size (key : ByteArray) : (macKey key).size ≤ 64 := by
  unfold macKey
  split
  · rw [shaSum_size]; decide
  · omega
theorem macLay_size (key : ByteArray) : (macLay key).size = 64 := by
  have := macKey_size key
  rw [macLay, ByteArray.size_append, lB_size, List.length_replicate]; omega
theorem macSide_size (key : ByteArray) (c : Nat) (rest : ByteArray) : (macSide key c rest).size = 32 := shaSum_size _
theorem macB_size (key rest : ByteArray) : (macB key rest).size = 32 := shaSum_size _
theorem mtK_zero {w : World} {m : Option Nat} {n : Nat} (h : MtR w m n) : mtK m n 0 = n := by
  cases m with
  | none => exact (show n = 0 from h).symm
  | some b => rfl
theorem mtK_add (m : Option Nat) (n a b : Nat) : mtK m (mtK m n a) b = mtK m n (a + b) := by
  cases m with
  | none => rfl
  | some x => exact Nat.add_assoc _ _ _
theorem mtN_mtK (m : Option Nat) (n : Nat) : mtN m n = mtK m n 1 := by cases m <;> rfl
theorem mtK_le (m : Option Nat) (n k : Nat) : mtK m n k ≤ n + k := by
  cases m with
  | none => exact Nat.zero_le _
  | some x => exact Nat.le_refl _
theorem MtR.lt {w : World} {m : Option Nat} {n : Nat} (h : MtR w m n) : ∀ b, m = some b → b < w.heap.size := by
  rintro b rfl
  exact VarV.lt (T := 40) (show VarV _ _ _ _ from h)

set_option maxHeartbeats 2000000 in
set_option maxRecDepth 100000 in
theorem lay_calls (w : World) (m : Option Nat) (n : Nat) (hn : n ≤ 900000) (hm : MtR w m n) (key : ByteArray) (hk : key.size ≤ 1000) :
    Calls Try.prog 45 #[mtP m, .string key] w fun e w' => e = .returned (.string (macLay key)) ∧ MtR w' m (mtK m n (macK key)) ∧ Fr m.toList w w' := by
  have HZ0 := Lib.hid (mtK_zero hm)
  have HLT := Lib.hid hm.lt
  have HM := Lib.hid hm
  clear hm
  by_cases h64 : 64 < key.size
  · have HE : Hid (macLay key = shaSum key ++ lB (List.replicate 32 0)) := Lib.hid (by rw [macLay, macKey, if_pos h64, shaSum_size])
    have HK : Hid (macK key = 1) := Lib.hid (if_pos h64)
    have HSZ := Lib.hid (shaSum_size key)
    have HC := fun (W : World) (hw : MtR W m n) (b : Nat) (h : W.heap[b]? = some (.cells #[.string key] 9 (0, 0))) (hb : ∀ x, m = some x → b ≠ x) => MSum1 W m n (by omega) hw b key h hb (by omega)
    rw [HE.out, HK.out]
    have HZS : (lB (List.replicate 32 0)).size = 32 := rfl
    have HR0 := fun (d : ByteArray) (hz : (64 - (d.size : Int)) = ((32 : Nat) : Int)) W => repeat_zeros 32 W hz (by decide)
    generalize lB (List.replicate 32 0) = Z at HR0 HZS ⊢
    generalize shaSum key = d at HC HSZ ⊢
    have HR := Lib.hid (HR0 d (by have := HSZ.out; omega))
    clear HR0
    have HC1 := Lib.hid HC
    generalize mtP m = mp at HC1 ⊢
    clear HC HE
    go_enter Try.func45, Try.ntmps45
    go_wp2_with fail
    have HF0 : Hid (Fr [] w (w.alloc (.cells #[.string key] 9))) := Lib.hid ((Fr.refl _ _).alloc _)
    (with_reducible refine (HC1.out _ (HM.out.keep HF0.out (by simp)) _ (heap_alloc_new _ _) (fun x hx => by have := HLT.out x hx; omega)).mono ?_)
    rintro e w1 ⟨rfl, hm1, hf1⟩
    have HF1 := Lib.hid (HF0.out.mono (S' := m.toList) (by simp) |>.trans hf1 (fun i hi => .inl hi))
    have HM1 := Lib.hid hm1
    clear hm1 hf1 HF0 HC1
    have hd32 : d.size ≤ 32 := by have := HSZ.out; omega
    go_wp2_with fail
    (with_reducible refine (HR.out _).mono ?_)
    rintro e w2 ⟨rfl, hf2⟩
    have HF2 := Lib.hid hf2
    clear hf2 HR
    have hsum : d.size + Z.size ≤ 9223372036854775807 := by omega
    go_wp2_with fail
    go_ret
    refine ⟨rfl, ?_, HF1.out.then HF2.out⟩
    have := HM1.out.keep HF2.out (by simp)
    rw [mtN_mtK] at this
    exact this
  · have HE : Hid (macLay key = key ++ lB (List.replicate (64 - key.size) 0)) := Lib.hid (by rw [macLay, macKey, if_neg h64])
    have HK : Hid (macK key = 0) := Lib.hid (if_neg h64)
    have hz : (64 - (key.size : Int)) = ((64 - key.size : Nat) : Int) := by omega
    have HR := Lib.hid (fun W => repeat_zeros (64 - key.size) W hz (by omega))
    have HZS : (lB (List.replicate (64 - key.size) 0)).size ≤ 64 := by rw [lB_size, List.length_replicate]; omega
    rw [HE.out, HK.out, HZ0.out]
    generalize mtP m = mp
    clear hz HE
    generalize lB (List.replicate (64 - key.size) 0) = Z at HR HZS ⊢
    go_enter Try.func45, Try.ntmps45
    go_wp2_with fail
    (with_reducible refine (HR.out _).mono ?_)
    rintro e w2 ⟨rfl, hf2⟩
    have HF2 := Lib.hid hf2
    clear hf2 HR
    have hsum : key.size + Z.size ≤ 9223372036854775807 := by omega
    go_wp2_with fail
    go_ret
    exact ⟨rfl, HM.out.keep HF2.out (by simp), HF2.out.mono (by simp)⟩
end Go.Proofs.Ytlcfambhjclkiaa
