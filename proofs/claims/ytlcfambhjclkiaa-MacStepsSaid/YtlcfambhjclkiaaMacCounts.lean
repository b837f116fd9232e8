/- The law MacCounts: for any texts and rounds the Go function returns true (its walk). -/
import Derived.Test.YtlcfambhjclkiaaMacDer
namespace Go.Proofs.Ytlcfambhjclkiaa
open Go.RowKit
set_option linter.unusedVariables false
set_option linter.unusedSimpArgs false

theorem dvK_cost (key : ByteArray) (r : Nat) : dvK key r = costN key.size r := by
  unfold dvK costN macK
  by_cases h0 : r < 1
  · obtain rfl : r = 0 := by omega
    simp
  · rw [if_neg h0]
    split <;> omega
theorem deriveB_size (key salt : ByteArray) (r : Nat) (h : 1 ≤ r) : (deriveB key salt r).size = 32 := by
  unfold deriveB
  rw [if_neg (by omega), lB_size, dvO_len]

theorem DeriveP (W : World) (b n : Nat) (hn : n ≤ 100000) (h : VarV 40 W b (.int .i64 (n : Int))) (key salt : ByteArray) (hk : key.size ≤ 1000) (hs : salt.size ≤ 1000) (r : Nat) (hr : r ≤ 20) :
    Calls Try.prog 27 #[.pointer (some ⟨b, 0, none⟩), .string key, .string salt, .int .i64 (r : Int)] W
      fun e w' => e = .returned (.string (deriveB key salt r)) ∧ VarV 40 w' b (.int .i64 ((n + dvK key r : Nat) : Int)) ∧ Fr [b] W w' := Derive_calls W (some b) n hn h key salt hk hs r hr
theorem DeriveN (W : World) (key salt : ByteArray) (hk : key.size ≤ 1000) (hs : salt.size ≤ 1000) (r : Nat) (hr : r ≤ 20) :
    Calls Try.prog 27 #[.pointer none, .string key, .string salt, .int .i64 (r : Int)] W
      fun e w' => e = .returned (.string (deriveB key salt r)) ∧ Fr [] W w' := (Derive_calls W none 0 (by decide) rfl key salt hk hs r hr).mono fun e w' ⟨h1, _, h2⟩ => ⟨h1, h2⟩

set_option maxHeartbeats 4000000 in
set_option maxRecDepth 100000 in
theorem MacCounts_walk (w : World) (s : ByteArray) (hs : s.size ≤ 140737488351232) (t : ByteArray) (ht : t.size ≤ 140737488351232) (q : Int) (hq : Bd .i64 q) :
    Calls Try.prog 13 #[.string s, .string t, .int .i64 q] w fun e w' => e = .returned (.bool true) ∧ Fr [] w w' := by
  have hss := fun W => short07_calls s 150 150 rfl W (by omega) (by decide)
  have h150 := shortB_size s 150
  generalize shortB s 150 = x at hss h150
  have hst := fun W => short07_calls t 40 40 rfl W (by omega) (by decide)
  have h40 := shortB_size t 40
  generalize shortB t 40 = y at hst h40
  have hqb := hq.i64
  have hT := Int.tmod_lt_of_pos q (show (0 : Int) < 9 by decide)
  have hT' := Int.lt_tmod_of_pos q (show (0 : Int) < 9 by decide)
  generalize hTT : q.tmod 9 = T at hT hT'
  obtain ⟨r, hr, hr9⟩ : ∃ r : Nat, (T + 9) % 9 = (r : Int) ∧ r < 9 := ⟨((T + 9) % 9).toNat, by omega, by omega⟩
  have HD := Lib.hid (fun (W : World) (b : Nat) (h : VarV 40 W b (.int .i64 ((0 : Nat) : Int))) => DeriveP W b 0 (by decide) h x y (by omega) (by omega) r (by omega))
  have HD0 := Lib.hid (fun (W : World) => DeriveN W x y (by omega) (by omega) r (by omega))
  have HC := Lib.hid (fun (W : World) => Cost_calls W x.size r (by omega) (by omega))
  have HDK := Lib.hid (dvK_cost x r)
  have hdk : dvK x r ≤ 1000 := by
    have hk1 : macK x ≤ 1 := by unfold macK; split <;> omega
    have : dvK x r ≤ 9 * 4 := Nat.mul_le_mul (by omega) (by omega)
    omega
  have HE : Hid ((r = 0 → deriveB x y r = ⟨#[]⟩) ∧ (r ≠ 0 → (deriveB x y r).toList ≠ [])) := Lib.hid ⟨fun h => by subst h; rfl, fun h e => by
    have h1 := deriveB_size x y r (by omega)
    rw [Lib.toList_data] at e
    have : (deriveB x y r).data.toList.length = 32 := by rw [Array.length_toList]; exact h1
    rw [e] at this
    simp at this⟩
  generalize deriveB x y r = D at HD HD0 HE
  have HMC := Lib.hid (fun (W : World) (b : Nat) (h : VarV 40 W b (.int .i64 ((dvK x r : Nat) : Int))) => MCountp W b (dvK x r) (by omega) h)
  go_enter Try.func13, Try.ntmps13
  go_wp2_with fail
  (with_reducible refine (awake07_calls _).mono ?_)
  rintro e w1 ⟨rfl, hf1⟩
  have HF1 := Lib.hid hf1
  clear hf1
  go_wp2_with fail
  (with_reducible refine (hss _).mono ?_)
  rintro e w2 ⟨rfl, rfl⟩
  clear hss
  go_wp2_with fail
  (with_reducible refine (hst _).mono ?_)
  rintro e w2 ⟨rfl, rfl⟩
  clear hst
  go_wp2_with fail
  rw [hr]
  clear hr hTT hT hT'
  have h0 : Fr [] w (w1.alloc (.cells #[.int .i64 0] 40)) ∧ VarV 40 (w1.alloc (.cells #[.int .i64 0] 40)) w1.heap.size (.int .i64 ((0 : Nat) : Int)) ∧ w.heap.size ≤ w1.heap.size := ⟨HF1.out.alloc _, VarV.new _ _ _ rfl, HF1.out.size⟩
  generalize w1.alloc (.cells #[.int .i64 0] 40) = W0 at h0 ⊢
  generalize w1.heap.size = b at h0 ⊢
  have H0 := Lib.hid h0
  clear h0 HF1
  (with_reducible refine (HD.out _ b H0.out.2.1).mono ?_)
  rintro e w3 ⟨rfl, hm3, hf3⟩
  rw [Nat.zero_add] at hm3
  have hv3 : VarV 40 w3 b (.int .i64 ((dvK x r : Nat) : Int)) := hm3
  have H3 := Lib.hid (And.intro hv3 (H0.out.1.trans (S' := [b]) hf3 (fun i hi => .inr (by simp at hi; subst hi; exact H0.out.2.2))))
  clear hm3 hv3 hf3 H0 HD
  go_wp2_with fail
  (with_reducible refine (HMC.out _ b H3.out.1).mono ?_)
  rintro e w4 ⟨rfl, rfl⟩
  clear HMC
  go_wp2_with fail
  (with_reducible refine (HC.out _).mono ?_)
  rintro e w4 ⟨rfl, rfl⟩
  rw [HDK.out]
  by_cases h0 : r = 0
  · have hD : D = ⟨#[]⟩ := HE.out.1 h0
    subst hD
    have hr0 : ((r : Int) == 0) = true := beq_iff_eq.2 (by omega)
    clear h0
    clear HE HC HDK hdk
    go_wp2_with fail
    (with_reducible refine (HD0.out _).mono ?_)
    rintro e w5 ⟨rfl, hf5⟩
    have HF5 := Lib.hid (H3.out.2.then hf5)
    clear hf5
    go_wp2_with fail
    go_ret
    exact ⟨rfl, HF5.out⟩
  · have hD : (D.toList == []) = false := beq_eq_false_iff_ne.2 (HE.out.2 h0)
    have hD2 : D.toList.isEmpty = false := by
      have h9 := HE.out.2 h0
      cases h8 : D.toList with
      | nil => exact absurd h8 h9
      | cons a b => rfl
    have hr0 : ((r : Int) == 0) = false := beq_eq_false_iff_ne.2 (by omega)
    clear HE HC HDK hdk
    go_wp2_with fail
    (with_reducible refine (HD0.out _).mono ?_)
    rintro e w5 ⟨rfl, hf5⟩
    have HF5 := Lib.hid (H3.out.2.then hf5)
    clear hf5
    go_wp2_with fail
    go_ret
    exact ⟨rfl, HF5.out⟩
end Go.Proofs.Ytlcfambhjclkiaa
