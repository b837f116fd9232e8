/- Contracts of pack's writer: numbers and texts are laid behind what a builder holds. -/
import Derived.Test.YtembnjpflllpbaaBld
import Derived.Test.YtembnjpflllpbaaPackPure
namespace Go.Proofs.Ytembnjpflllpbaa
open Go.RowKit
set_option linter.unusedVariables false
set_option linter.unusedSimpArgs false

theorem bits_more {m : Int} (h0 : 0 ≤ m) (h1 : m < 18446744073709551616) : bits BinOp.or IntKind.u64 (bits BinOp.and IntKind.u64 m 127) 128 % 256 = m % 128 + 128 := by
  rw [u64_and m 127 h0 h1 (by omega) (by omega)]
  rw [show (127 : Int).toNat = 127 from rfl, nat_mask7]
  rw [u64_or _ 128 (by omega) (by omega) (by omega) (by omega)]
  rw [show (128 : Int).toNat = 2 ^ 7 from rfl, Int.toNat_natCast, Nat.or_comm, nat_join 7 (2 ^ 7) _ (by decide) (by omega)]
  omega

set_option maxHeartbeats 2000000 in
set_option maxRecDepth 100000 in
theorem buffer_num_calls (T : TypeId) (hT : BTy T) (b : Nat) (r : List Nat) (s : ByteArray) (w : World) (n : Int) (h0 : 0 ≤ n) (h1 : n < 18446744073709551616) (h : Bld T 5 w b r s) (hlen : s.size + 10 ≤ 140737488355328) :
    Calls Try.prog 54 #[.pointer (some ⟨b, 0, none⟩), .int .u64 n] w fun e w' => e = .returned (.tuple #[]) ∧ ∃ r', Bld T 5 w' b r' (s ++ numB n.toNat) ∧ Fr (b :: r) w w' ∧ (∀ k, k ∈ r' → k ∈ r ∨ w.heap.size ≤ k) := by
  have HB := Lib.hid (numB_size n.toNat (by omega))
  go_enter Try.func54, Try.ntmps54
  go_wp2_with fail
  go_loopw [1] (fun v1 wr => ∃ (m : Int) (sk : ByteArray) (rk : List Nat), v1 = .int .u64 m ∧ 0 ≤ m ∧ m < 18446744073709551616 ∧ Hid (s ++ numB n.toNat = sk ++ numB m.toNat ∧ Bld T 5 wr b rk sk ∧ Fr (b :: r) w wr ∧ (∀ k, k ∈ rk → k ∈ r ∨ w.heap.size ≤ k))) (fun v1 _ => (intOf v1).toNat)
  case atStart => exact ⟨n, s, r, rfl, h0, h1, rfl, h, Fr.refl _ _, fun k hk => .inl hk⟩
  case round =>
    obtain ⟨m, sk, rk, rfl, hm0, hm1, H⟩ := hrel
    have hsz : sk.size + 1 ≤ 140737488355328 := by
      have e := congrArg ByteArray.size H.out.1
      simp only [ByteArray.size_append] at e
      have := HB.out
      have := numB_pos m.toNat
      omega
    by_cases hm : m < 128
    · go_wp2_with fail
      refine (WriteByte_calls T hT b rk sk _ m hm0 (by omega) H.out.2.1 hsz).mono ?_
      rintro e w1 ⟨rfl, r1, h1, hf1, hn1⟩
      go_wp2_with fail
      go_end0
      obtain ⟨h2, h3, h4, h5⟩ := H.out
      rw [h2, numB_small (n := m.toNat) (by omega)]
      refine ⟨rfl, r1, h1, h4.trans hf1 (fun k hk => ?_), fun k hk => (hn1 k hk).elim (h5 k) (fun h => .inr (Nat.le_trans h4.size h))⟩
      rcases List.mem_cons.1 hk with rfl | hk
      · exact .inl (by simp)
      · exact (h5 k hk).imp (fun h => by simp [h]) id
    · have hbm := bits_more hm0 hm1
      have HBM := Lib.hid hbm
      clear hbm
      go_wp2_with fail
      rw [HBM.out]
      refine (WriteByte_calls T hT b rk sk _ (m % 128 + 128) (by omega) (by omega) H.out.2.1 hsz).mono ?_
      rintro e w1 ⟨rfl, r1, h1, hf1, hn1⟩
      go_wp2_with fail
      refine ⟨⟨m / 128, sk ++ bOf (m % 128 + 128), r1, rfl, by omega, by omega, ?_⟩, by simp only [intOf]; omega⟩
      obtain ⟨h2, h3, h4, h5⟩ := H.out
      refine ⟨?_, h1, h4.trans hf1 (fun k hk => ?_), fun k hk => (hn1 k hk).elim (h5 k) (fun h => .inr (Nat.le_trans h4.size h))⟩
      · rw [h2, numB_big (n := m.toNat) (by omega), app_assoc, bOf]
        rw [show (m % 128 + 128).toNat = m.toNat % 128 + 128 from by omega, show (m / 128).toNat = m.toNat / 128 from by omega]
      · rcases List.mem_cons.1 hk with rfl | hk
        · exact .inl (by simp)
        · exact (h5 k hk).imp (fun h => by simp [h]) id

set_option maxHeartbeats 2000000 in
set_option maxRecDepth 100000 in
theorem buffer_text_calls (T : TypeId) (hT : BTy T) (b : Nat) (r : List Nat) (s : ByteArray) (w : World) (x : ByteArray) (h : Bld T 5 w b r s) (hlen : s.size + x.size + 10 ≤ 140737488355328) :
    Calls Try.prog 55 #[.pointer (some ⟨b, 0, none⟩), .string x] w fun e w' => e = .returned (.tuple #[]) ∧ ∃ r', Bld T 5 w' b r' (s ++ txtB x) ∧ Fr (b :: r) w w' ∧ (∀ k, k ∈ r' → k ∈ r ∨ w.heap.size ≤ k) := by
  have HB := Lib.hid (numB_size x.size (by omega))
  have hxs : (x.size : Int) < 140737488355328 := by omega
  go_enter Try.func55, Try.ntmps55
  go_wp2_with fail
  refine (buffer_num_calls T hT b r s _ _ (by omega) (by omega) h (by omega)).mono ?_
  rintro e w1 ⟨rfl, r1, h1, hf1, hn1⟩
  go_wp2_with fail
  rw [Int.toNat_natCast] at h1
  refine (WriteString_calls T hT b r1 _ _ x h1 (by have := HB.out; simp only [ByteArray.size_append]; omega)).mono ?_
  rintro e w2 ⟨rfl, r2, h2, hf2, hn2⟩
  go_wp2_with fail
  go_end0
  refine ⟨rfl, r2, by rw [txtB, ← app_assoc]; exact h2, hf1.trans hf2 (fun k hk => ?_), fun k hk => (hn2 k hk).elim (hn1 k) (fun h => .inr (Nat.le_trans hf1.size h))⟩
  rcases List.mem_cons.1 hk with rfl | hk
  · exact .inl (by simp)
  · exact (hn1 k hk).imp (fun h => by simp [h]) id

set_option maxHeartbeats 2000000 in
set_option maxRecDepth 100000 in
theorem Writer_Num_calls (T : TypeId) (hT : BTy T) (b : Nat) (r : List Nat) (s : ByteArray) (w : World) (A : Option Addr) (cap : Nat) (l : List Int) (hr : RdV w A (l.map (.int .u64))) (hw : ∀ x, x ∈ l → 0 ≤ x ∧ x < 18446744073709551616)
    (hd : ∀ ad, A = some ad → ad.block ∉ b :: r) (hlt : ∀ ad, A = some ad → ad.block < w.heap.size) (h : Bld T 5 w b r s) (hlen : s.size + 10 * l.length + 10 ≤ 140737488355328) :
    Calls Try.prog 36 #[.pointer (some ⟨b, 0, none⟩), .slice A l.length cap] w fun e w' => e = .returned (.pointer (some ⟨b, 0, none⟩)) ∧ ∃ r', Bld T 5 w' b r' (s ++ numsB l) ∧ Fr (b :: r) w w' ∧ (∀ k, k ∈ r' → k ∈ r ∨ w.heap.size ≤ k) := by
  have hle : (l.length : Int) < 140737488355328 := by omega
  go_enter Try.func36, Try.ntmps36
  go_wp2_with fail
  go_loopw [11] (fun v wr => ∃ (k : Nat) (rk : List Nat), v = .int .i64 k ∧ k ≤ l.length ∧ Hid (Bld T 5 wr b rk (s ++ numsB (l.take k)) ∧ Fr (b :: r) w wr ∧ (∀ k, k ∈ rk → k ∈ r ∨ w.heap.size ≤ k))) (fun v _ => l.length - (intOf v).toNat)
  case atStart => exact ⟨0, r, rfl, Nat.zero_le _, by simpa [numsB, app_nil] using h, Fr.refl _ _, fun k hk => .inl hk⟩
  case round =>
    obtain ⟨k, rk, rfl, hk, H⟩ := hrel
    by_cases hlk : k < l.length
    · obtain ⟨ad, rfl, hc0⟩ := hr k (.int .u64 l[k]) (by simp [hlk])
      have hc : wr.cell? (ad.add k) = some (.int .u64 l[k]) := H.out.2.1.cell' hc0 (by rw [show (ad.add k).block = ad.block from by unfold Addr.add; split <;> rfl]; exact hd ad rfl)
      have hx := hw l[k] (List.getElem_mem hlk)
      have hsz := numsB_size (l.take k) (fun x hx => (hw x (List.mem_of_mem_take hx)).2)
      rw [List.length_take, Nat.min_eq_left hk] at hsz
      generalize hxx : l[k] = x at hc hx
      have HXX := Lib.hid hxx
      have HSZ := Lib.hid hsz
      clear hxx hsz hc0
      go_wp2_with fail
      refine (buffer_num_calls T hT b rk _ _ x hx.1 hx.2 H.out.1 (by have := HSZ.out; simp only [ByteArray.size_append]; omega)).mono ?_
      rintro e w1 ⟨rfl, r1, h1, hf1, hn1⟩
      go_wp2_with fail
      obtain ⟨h3, h4, h5⟩ := H.out
      refine ⟨⟨k + 1, r1, by go_num, by omega, ?_, h4.trans hf1 (fun k hk => ?_), fun k hk => (hn1 k hk).elim (h5 k) (fun h => .inr (Nat.le_trans h4.size h))⟩, by simp only [intOf]; omega⟩
      · rw [numsB_take hlk, HXX.out, ← app_assoc]
        exact h1
      · rcases List.mem_cons.1 hk with rfl | hk
        · exact .inl (by simp)
        · exact (h5 k hk).imp (fun h => by simp [h]) id
    · obtain rfl : k = l.length := by omega
      go_wp2_with fail
      go_ret
      obtain ⟨h3, h4, h5⟩ := H.out
      rw [List.take_length] at h3
      exact ⟨rfl, rk, h3, h4, h5⟩

end Go.Proofs.Ytembnjpflllpbaa
