/- The contract of sha.fill: a text, filled to whole blocks. -/
import Derived.Test.YtlcfambhjclkiaaShelf
import Derived.Test.YtlcfambhjclkiaaShaIn
import Derived.Test.YtlcfambhjclkiaaApp
namespace Go.Proofs.Ytlcfambhjclkiaa
open Go.RowKit
set_option linter.unusedVariables false
set_option linter.unusedSimpArgs false

theorem bty_b : BTy 62 := ⟨by kernel_rfl, by decide⟩
theorem repeat_zeros (n : Nat) (w : World) {ni : Int} (hni : ni = n) (hn : n ≤ 64) :
    Calls Try.prog 50 #[.string ⟨#[0]⟩, .int .i64 ni] w fun e w' => e = .returned (.string (lB (List.replicate n 0))) ∧ Fr [] w w' := by
  subst hni
  refine (Try.strings_Repeat ⟨#[0]⟩ n w (by omega) (by show 1 * n ≤ _; omega)).mono ?_
  rintro e w' ⟨rfl, hb⟩
  have e : ∀ n, Lib.repeatL [(0 : UInt8)] n = List.replicate n (0 : UInt8) := by
    intro n
    induction n with
    | zero => rfl
    | succ n ih => rw [Lib.repeatL, ih, List.replicate_succ]; rfl
  exact ⟨by rw [lB, ← e], Fr.of_below hb⟩
theorem shaLen_take (N : Nat) (pre : ByteArray) (j : Nat) (hj : j < 8) (x : Int) (hx : x = ((N / 2 ^ (56 - 8 * j) % 256 : Nat) : Int)) : pre ++ lB ((shaLen N).take j) ++ bOf x = pre ++ lB ((shaLen N).take (j + 1)) := by
  subst hx
  have e : ∀ m : Nat, UInt8.ofNat (m % 256) = UInt8.ofNat m := fun m => by
    apply UInt8.toNat_inj.1
    simp
  rw [bapp_assoc]
  congr 1
  match j, hj with
  | 0, _ => simp only [bOf, Int.toNat_natCast, e]; rfl
  | 1, _ => simp only [bOf, Int.toNat_natCast, e]; rfl
  | 2, _ => simp only [bOf, Int.toNat_natCast, e]; rfl
  | 3, _ => simp only [bOf, Int.toNat_natCast, e]; rfl
  | 4, _ => simp only [bOf, Int.toNat_natCast, e]; rfl
  | 5, _ => simp only [bOf, Int.toNat_natCast, e]; rfl
  | 6, _ => simp only [bOf, Int.toNat_natCast, e]; rfl
  | 7, _ => simp only [bOf, Int.toNat_natCast, e, Nat.mul_one, Nat.reduceMul, Nat.sub_self, Nat.pow_zero, Nat.div_one]; rfl

set_option maxHeartbeats 2000000 in
set_option maxRecDepth 100000 in
theorem fill_calls (w : World) (s : ByteArray) (hs : s.size ≤ 1000000) :
    Calls Try.prog 32 #[.string s] w fun e w' => e = .returned (.string (shaFill s)) ∧ Fr [] w w' := by
  obtain ⟨z, hz, hz64⟩ : ∃ z : Nat, shaZeros s.size = z ∧ z ≤ 64 := ⟨_, rfl, by unfold shaZeros; omega⟩
  have hzi : (120 - (s.size : Int) % 64 - 1) % 64 = (z : Int) := by
    rw [← hz]
    unfold shaZeros
    omega
  have hF : Hid (shaFill s = s ++ ⟨#[128]⟩ ++ lB (List.replicate z 0) ++ lB (shaLen (s.size * 8))) := Lib.hid (by rw [← hz]; rfl)
  have HR := Lib.hid (fun W => repeat_zeros z W rfl hz64)
  clear hz
  go_enter Try.func32, Try.ntmps32
  go_wp2_with fail
  (with_reducible refine (HR.out _).mono ?_)
  rintro e w1 ⟨rfl, hf1⟩
  have hz8 : (lB (List.replicate z 0)).size = z := by rw [lB_size, List.length_replicate]
  have b0 : (⟨#[]⟩ : ByteArray).size = 0 := rfl
  have b1 : (⟨#[128]⟩ : ByteArray).size = 1 := rfl
  have hsz : s.size + 1 + z ≤ 2000000 := by omega
  have h0 : BldN 62 5 w w1 w.heap.size [] ⟨#[]⟩ := (BldN.make 62 5 (Fr.refl [] w) rfl).other hf1 (by simp) (by simp)
  generalize w.heap.size = b at h0 ⊢
  have H0 := Lib.hid h0
  clear h0 hf1 HR
  have HC : Hid ((⟨#[]⟩ : ByteArray) ++ (s ++ ⟨#[128]⟩ ++ lB (List.replicate z 0)) = s ++ ⟨#[128]⟩ ++ lB (List.replicate z 0)) := Lib.hid (nil_bapp _)
  generalize hzz : lB (List.replicate z 0) = Z at *
  have hZ : Z.size = z := hz8
  clear hzz hz8
  have hsum : s.size + 1 + Z.size ≤ 9223372036854775807 := by omega
  go_wp2_with fail
  (with_reducible refine (WriteString_calls 62 bty_b b _ _ _ (s ++ ⟨#[128]⟩ ++ Z) H0.out.bld (by simp only [ByteArray.size_append, b0, b1]; omega)).mono ?_)
  rintro e w2 ⟨rfl, r2, hb2, hf2, hn2⟩
  have h1 := H0.out.step hb2 hf2 hn2
  rw [HC.out] at h1
  have hP : (s ++ ⟨#[128]⟩ ++ Z).size ≤ 2000000 := by simp only [ByteArray.size_append, b1]; omega
  obtain ⟨N, hN, hNi⟩ : ∃ N : Nat, s.size * 8 = N ∧ (s.size : Int) * 8 = (N : Int) := ⟨_, rfl, by omega⟩
  have hN1 : N ≤ 100000000 := by omega
  have HF : Hid (shaFill s = s ++ ⟨#[128]⟩ ++ Z ++ lB (shaLen N)) := Lib.hid (by rw [hF.out, hN])
  generalize s ++ ⟨#[128]⟩ ++ Z = P at *
  have H1 := Lib.hid h1
  clear h1 hb2 hf2 hn2 H0 HC hF hsum hZ hsz hzi hN hs
  go_wp2_with fail
  go_loopw [6] (fun v6 wr => ∃ (j : Nat) (r : List Nat), v6 = .int .i64 (56 - 8 * (j : Int)) ∧ j ≤ 8 ∧ Hid (BldN 62 5 w wr b r (P ++ lB ((shaLen N).take j)))) (fun v6 _ => (intOf v6 + 8).toNat)
  case atStart => exact ⟨0, r2, rfl, by decide, Lib.hid (by rw [show P ++ lB ((shaLen N).take 0) = P from bapp_nil P]; exact H1.out)⟩
  case round =>
    clear H1
    obtain ⟨j, r, rfl, hj, H⟩ := hrel
    by_cases hlt : j < 8
    · have hk : ∀ (x : Int), x = ((N / 2 ^ (56 - 8 * j) % 256 : Nat) : Int) → P ++ lB ((shaLen N).take j) ++ bOf x = P ++ lB ((shaLen N).take (j + 1)) := fun x hx => shaLen_take N P j hlt x hx
      have HK := Lib.hid hk
      have HS : Hid ((P ++ lB ((shaLen N).take j)).size + 1 ≤ 140737488355328) := Lib.hid (by simp only [ByteArray.size_append]; have h8 : (lB ((shaLen N).take j)).size ≤ 8 := (by rw [lB_size, List.length_take]; omega); omega)
      clear hk
      match j, hlt with
      | 0, _ =>
        go_wp2_with fail
        (with_reducible refine (WriteByte_calls 62 bty_b b _ _ _ _ (by omega) (by omega) H.out.bld HS.out).mono ?_)
        rintro e w3 ⟨rfl, r3, hb3, hf3, hn3⟩
        have h3 := H.out.step hb3 hf3 hn3
        rw [HK.out _ (by omega)] at h3
        have H3 := Lib.hid h3
        clear h3 hb3 hf3 hn3 H HK
        go_wp2_with fail
        exact ⟨⟨1, _, by simp, by decide, H3⟩, by simp [intOf]⟩
      | 1, _ =>
        go_wp2_with fail
        (with_reducible refine (WriteByte_calls 62 bty_b b _ _ _ _ (by omega) (by omega) H.out.bld HS.out).mono ?_)
        rintro e w3 ⟨rfl, r3, hb3, hf3, hn3⟩
        have h3 := H.out.step hb3 hf3 hn3
        rw [HK.out _ (by omega)] at h3
        have H3 := Lib.hid h3
        clear h3 hb3 hf3 hn3 H HK
        go_wp2_with fail
        exact ⟨⟨2, _, by simp, by decide, H3⟩, by simp [intOf]⟩
      | 2, _ =>
        go_wp2_with fail
        (with_reducible refine (WriteByte_calls 62 bty_b b _ _ _ _ (by omega) (by omega) H.out.bld HS.out).mono ?_)
        rintro e w3 ⟨rfl, r3, hb3, hf3, hn3⟩
        have h3 := H.out.step hb3 hf3 hn3
        rw [HK.out _ (by omega)] at h3
        have H3 := Lib.hid h3
        clear h3 hb3 hf3 hn3 H HK
        go_wp2_with fail
        exact ⟨⟨3, _, by simp, by decide, H3⟩, by simp [intOf]⟩
      | 3, _ =>
        go_wp2_with fail
        (with_reducible refine (WriteByte_calls 62 bty_b b _ _ _ _ (by omega) (by omega) H.out.bld HS.out).mono ?_)
        rintro e w3 ⟨rfl, r3, hb3, hf3, hn3⟩
        have h3 := H.out.step hb3 hf3 hn3
        rw [HK.out _ (by omega)] at h3
        have H3 := Lib.hid h3
        clear h3 hb3 hf3 hn3 H HK
        go_wp2_with fail
        exact ⟨⟨4, _, by simp, by decide, H3⟩, by simp [intOf]⟩
      | 4, _ =>
        go_wp2_with fail
        (with_reducible refine (WriteByte_calls 62 bty_b b _ _ _ _ (by omega) (by omega) H.out.bld HS.out).mono ?_)
        rintro e w3 ⟨rfl, r3, hb3, hf3, hn3⟩
        have h3 := H.out.step hb3 hf3 hn3
        rw [HK.out _ (by omega)] at h3
        have H3 := Lib.hid h3
        clear h3 hb3 hf3 hn3 H HK
        go_wp2_with fail
        exact ⟨⟨5, _, by simp, by decide, H3⟩, by simp [intOf]⟩
      | 5, _ =>
        go_wp2_with fail
        (with_reducible refine (WriteByte_calls 62 bty_b b _ _ _ _ (by omega) (by omega) H.out.bld HS.out).mono ?_)
        rintro e w3 ⟨rfl, r3, hb3, hf3, hn3⟩
        have h3 := H.out.step hb3 hf3 hn3
        rw [HK.out _ (by omega)] at h3
        have H3 := Lib.hid h3
        clear h3 hb3 hf3 hn3 H HK
        go_wp2_with fail
        exact ⟨⟨6, _, by simp, by decide, H3⟩, by simp [intOf]⟩
      | 6, _ =>
        go_wp2_with fail
        (with_reducible refine (WriteByte_calls 62 bty_b b _ _ _ _ (by omega) (by omega) H.out.bld HS.out).mono ?_)
        rintro e w3 ⟨rfl, r3, hb3, hf3, hn3⟩
        have h3 := H.out.step hb3 hf3 hn3
        rw [HK.out _ (by omega)] at h3
        have H3 := Lib.hid h3
        clear h3 hb3 hf3 hn3 H HK
        go_wp2_with fail
        exact ⟨⟨7, _, by simp, by decide, H3⟩, by simp [intOf]⟩
      | 7, _ =>
        go_wp2_with fail
        (with_reducible refine (WriteByte_calls 62 bty_b b _ _ _ _ (by omega) (by omega) H.out.bld HS.out).mono ?_)
        rintro e w3 ⟨rfl, r3, hb3, hf3, hn3⟩
        have h3 := H.out.step hb3 hf3 hn3
        rw [HK.out _ (by omega)] at h3
        have H3 := Lib.hid h3
        clear h3 hb3 hf3 hn3 H HK
        go_wp2_with fail
        exact ⟨⟨8, _, by simp, by decide, H3⟩, by simp [intOf]⟩
      | _ + 8, h => exact absurd h (by omega)
    · obtain rfl : j = 8 := by omega
      have HT : Hid (P ++ lB ((shaLen N).take 8) = shaFill s) := Lib.hid (by rw [HF.out]; rfl)
      rw [HT.out] at H
      go_wp2_with fail
      (with_reducible refine (String_calls 62 bty_b b _ _ _ H.out.bld).mono ?_)
      rintro e w4 ⟨rfl, hb4, hf4⟩
      have HFr := Lib.hid (H.out.fr.trans hf4 (fun k hk => .inr (H.out.new k (by simp [hk]))))
      clear hb4 hf4 H
      go_wp2_with fail
      go_ret
      exact ⟨rfl, HFr.out⟩
end Go.Proofs.Ytlcfambhjclkiaa
