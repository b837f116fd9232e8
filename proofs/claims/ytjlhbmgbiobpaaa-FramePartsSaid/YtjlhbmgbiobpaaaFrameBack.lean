/- The law FrameBack: for any texts the Go function returns true (its walk). -/
import Derived.Test.YtjlhbmgbiobpaaaFrameScan
import Derived.Test.YtjlhbmgbiobpaaaFew04
import Derived.Test.YtjlhbmgbiobpaaaSame03
import Derived.Test.YtjlhbmgbiobpaaaFrameAwake
namespace Go.Proofs.Ytjlhbmgbiobpaaa
open Go.RowKit
set_option linter.unusedVariables false
set_option linter.unusedSimpArgs false

/-- How long the records of texts are. -/
def sizesB (l : List ByteArray) : Nat := (l.map fun x => x.size + 8).sum
theorem sizesB_snoc (l : List ByteArray) (x : ByteArray) : sizesB (l ++ [x]) = sizesB l + (x.size + 8) := by simp [sizesB]
theorem sizesB_all : ∀ (l : List ByteArray), Fits l → (allB l).size = sizesB l := by
  intro l
  induction l with
  | nil => intro _; rfl
  | cons x l ih =>
    intro hl
    obtain ⟨h1, h2⟩ := hl x (by simp)
    have hw := wrapB_size x
    rw [fsize_in (by omega) (by omega)] at hw
    rw [allB, ByteArray.size_append, ih (fun y hy => hl y (by simp [hy]))]
    show _ = (x.size + 8) + (l.map fun x => x.size + 8).sum
    unfold sizesB
    omega
theorem sizesB_len : ∀ (l : List ByteArray), Fits l → sizesB l ≤ l.length * 40000 := by
  intro l
  induction l with
  | nil => intro _; exact Nat.zero_le _
  | cons x l ih =>
    intro hl
    obtain ⟨h1, h2⟩ := hl x (by simp)
    have h3 := ih (fun y hy => hl y (by simp [hy]))
    show (x.size + 8) + (l.map fun x => x.size + 8).sum ≤ (l.length + 1) * 40000
    unfold sizesB at h3
    omega
theorem sizesB_le (m : List ByteArray) (hm : Fits m) (k : Nat) : sizesB (m.take k) ≤ m.length * 40000 := by
  refine Nat.le_trans (sizesB_len _ (fun x hx => hm x (List.mem_of_mem_take hx))) ?_
  rw [List.length_take]
  exact Nat.mul_le_mul_right _ (Nat.min_le_right _ _)
theorem sameB_self (x : List ByteArray) : sameB x x = true := decide_eq_true rfl

set_option maxHeartbeats 1000000 in
set_option maxRecDepth 100000 in
theorem FrameBack_walk (w : World) (A : Option Addr) (cap : Nat) (l : List ByteArray) (hr : RdV w A (l.map .string)) (hsz : ∀ x, x ∈ l → x.size ≤ maxLen) (hl : l.length ≤ maxLen) (rest : ByteArray) (hrs : rest.size ≤ 140737488351232) :
    Calls Try.prog 4 #[.slice A l.length cap, .string rest] w fun e w' => e = .returned (.bool true) ∧ Fr [] w w' := by
  obtain ⟨hfit, h80, h6⟩ := few04_fits l
  have HFEW := Lib.hid (fun (W : World) (h : RdV W A (l.map .string)) => few04_calls W A cap l h hsz hl)
  generalize few04B l = m at hfit h80 h6 HFEW
  have hx := shortB_size rest 40
  have hml := allB_le m h80
  have HS := Lib.hid (sizesB_all m hfit)
  have HT := Lib.hid (texts_all hfit (rest := (⟨#[0]⟩ : ByteArray) ++ shortB rest 40) (next_first (by rw [bAt_left (by decide)]; decide)))
  clear hsz
  go_enter Try.func4, Try.ntmps4
  go_wp2_with fail
  (with_reducible refine (awake04_calls _).mono ?_)
  rintro e w1 ⟨rfl, hf1⟩
  have HR1 := Lib.hid (hr.keep hf1 (by simp))
  clear hr
  go_wp2_with fail
  (with_reducible refine (HFEW.out _ HR1.out).mono ?_)
  rintro e w2 ⟨v, r, rfl, hs2, hf2, hn2⟩
  obtain ⟨B, c2, rfl, hc2, hc3, hb2, hbr⟩ := hs2.reads
  have HB2 := Lib.hid hb2
  have HF2 := Lib.hid (hf1.then hf2)
  have hm6 : m.length ≤ 1000000 := by omega
  have hm1 : ∀ x, x ∈ m → x.size ≤ 1000 := fun x hx => by have := h80 x hx; omega
  have HM1 := Lib.hid hm1
  clear hs2 hf1 hf2 hn2 hb2 hbr HR1 HFEW hm1 h80
  go_wp2_with fail
  (with_reducible refine (All_calls _ B c2 m HB2.out HM1.out hm6).mono ?_)
  rintro e w3 ⟨rfl, hf3⟩
  have HB3 := Lib.hid (HB2.out.keep hf3 (by simp))
  have HF3 := Lib.hid (HF2.out.then hf3)
  clear hf3 HB2 HF2
  generalize hS : allB m = S at hml HS HT ⊢
  have HSS := Lib.hid hS
  clear hS
  have hs1 : S.size ≤ 600 := by omega
  clear hml
  have hq1 : S.size + (⟨#[0]⟩ : ByteArray).size ≤ 9223372036854775807 := by show S.size + 1 ≤ _; omega
  go_wp2_with fail
  (with_reducible refine (short04_calls rest 40 40 rfl _ (by omega) (by decide)).mono ?_)
  rintro e w4 ⟨rfl, rfl⟩
  generalize shortB rest 40 = y at hx HT ⊢
  have hq2 : (S ++ (⟨#[0]⟩ : ByteArray)).size + y.size ≤ 9223372036854775807 := by rw [ByteArray.size_append]; show S.size + 1 + y.size ≤ _; omega
  have hq3 : (S ++ (⟨#[0]⟩ : ByteArray) ++ y).size ≤ 1000000 := by rw [ByteArray.size_append, ByteArray.size_append]; show S.size + 1 + y.size ≤ _; omega
  have HQ3 := Lib.hid hq3
  clear hq3 hq1
  go_wp2_with fail
  clear hq2
  (with_reducible refine (Scan_calls _ _ HQ3.out).mono ?_)
  rintro e w5 ⟨C, c5, r5, rfl, h5, hf5, hn5⟩
  rw [bapp_assoc] at h5 ⊢
  rw [HT.out.1] at h5 ⊢
  rw [HT.out.2]
  obtain ⟨C', c5', he5, -, -, hb5, -⟩ := h5.reads
  obtain ⟨rfl, -, rfl⟩ : C = C' ∧ True ∧ c5 = c5' := by injection he5 with a b c; exact ⟨a, trivial, c⟩
  have HB5 := Lib.hid (HB3.out.keep hf5 (by simp))
  have HC5 := Lib.hid hb5
  have HF5 := Lib.hid (HF3.out.then hf5)
  clear h5 hf5 hn5 he5 hb5 HB3 HF3 HT HQ3
  go_wp2_with fail
  (with_reducible refine (Same03_calls _ C B c5 c2 m m HC5.out HB5.out (by simp only [maxLen]; omega) (by simp only [maxLen]; omega)).mono ?_)
  rintro e w6 ⟨rfl, hf6⟩
  rw [sameB_self]
  have HB6 := Lib.hid (HB5.out.keep hf6 (by simp))
  have HF6 := Lib.hid (HF5.out.then hf6)
  clear hf6 HB5 HF5 HC5
  go_wp2_with fail
  go_loop [11, 12] (fun v11 v12 => ∃ k : Nat, v12 = .int .i64 k ∧ k ≤ m.length ∧ v11 = .int .i64 (sizesB (m.take k) : Nat)) (fun _ v12 => m.length - (intOf v12).toNat)
  case atStart => exact ⟨0, rfl, Nat.zero_le _, rfl⟩
  case round =>
    obtain ⟨k, rfl, hk, rfl⟩ := hrel
    by_cases hlk : k < m.length
    · obtain ⟨ad, rfl, hc0⟩ := HB6.out k (.string m[k]) (by simp [hlk])
      have hsn := sizesB_snoc (m.take k) m[k]
      rw [← List.take_succ_eq_append_getElem hlk] at hsn
      obtain ⟨hz1, hz2⟩ := hfit m[k] (List.getElem_mem hlk)
      have hb := sizesB_le m hfit k
      generalize m[k] = x at hc0 hsn hz1 hz2
      generalize sizesB (m.take k) = q at hsn hb
      have HSN := Lib.hid hsn
      have HZ := Lib.hid (fsize_in (n := x.size) (by omega) (by omega))
      clear hsn
      go_wp2_with fail
      (with_reducible refine (FSize_calls _ _ (Bd.of_i64 (by omega) (by omega))).mono ?_)
      rintro e w7 ⟨rfl, rfl⟩
      rw [HZ.out]
      go_wp2_with fail
      refine ⟨⟨k + 1, by go_num, by omega, by rw [HSN.out]; go_num⟩, by simp only [intOf]; omega⟩
    · obtain rfl : k = m.length := by omega
      have e1 : sizesB (m.take m.length) = S.size := by rw [List.take_length, HS.out]
      rw [e1]
      have hb1 : ((S.size : Int) == (S.size : Int)) = true := beq_iff_eq.2 rfl
      clear e1
      go_wp2_with fail
      go_ret
      exact ⟨rfl, HF6.out⟩

end Go.Proofs.Ytjlhbmgbiobpaaa
