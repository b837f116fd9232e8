/- Contracts of pack.Writer's Text, Row and String. -/
import Derived.Test.YtembnjpflllpbaaPackW
namespace Go.Proofs.Ytembnjpflllpbaa
open Go.RowKit
set_option linter.unusedVariables false
set_option linter.unusedSimpArgs false

set_option maxHeartbeats 2000000 in
set_option maxRecDepth 100000 in
theorem Writer_Text_calls (T : TypeId) (hT : BTy T) (b : Nat) (r : List Nat) (s : ByteArray) (w : World) (A : Option Addr) (cap : Nat) (l : List ByteArray) (hr : RdV w A (l.map .string))
    (hd : ∀ ad, A = some ad → ad.block ∉ b :: r) (h : Bld T 5 w b r s) (hlen : s.size + sizes l + 20 ≤ 140737488355328) :
    Calls Try.prog 37 #[.pointer (some ⟨b, 0, none⟩), .slice A l.length cap] w fun e w' => e = .returned (.pointer (some ⟨b, 0, none⟩)) ∧ ∃ r', Bld T 5 w' b r' (s ++ txtsB l) ∧ Fr (b :: r) w w' ∧ (∀ k, k ∈ r' → k ∈ r ∨ w.heap.size ≤ k) := by
  have hle : (l.length : Int) < 140737488355328 := by have := length_sizes l; omega
  go_enter Try.func37, Try.ntmps37
  go_wp2_with fail
  go_loopw [11] (fun v wr => ∃ (k : Nat) (rk : List Nat), v = .int .i64 k ∧ k ≤ l.length ∧ Hid (Bld T 5 wr b rk (s ++ txtsB (l.take k)) ∧ Fr (b :: r) w wr ∧ (∀ k, k ∈ rk → k ∈ r ∨ w.heap.size ≤ k))) (fun v _ => l.length - (intOf v).toNat)
  case atStart => exact ⟨0, r, rfl, Nat.zero_le _, by simpa [txtsB, app_nil] using h, Fr.refl _ _, fun k hk => .inl hk⟩
  case round =>
    obtain ⟨k, rk, rfl, hk, H⟩ := hrel
    by_cases hlk : k < l.length
    · obtain ⟨ad, rfl, hc0⟩ := hr k (.string l[k]) (by simp [hlk])
      have hc : wr.cell? (ad.add k) = some (.string l[k]) := H.out.2.1.cell' hc0 (by rw [show (ad.add k).block = ad.block from by unfold Addr.add; split <;> rfl]; exact hd ad rfl)
      have hsz := txtsB_size (l.take k) (fun x hx => by have := size_of_sizes (List.mem_of_mem_take hx); omega)
      have hsz2 := sizes_take_succ hlk
      generalize hxx : l[k] = x at hc hsz2
      have HXX := Lib.hid hxx
      have HSZ := Lib.hid (And.intro hsz hsz2)
      clear hxx hsz hsz2 hc0
      go_wp2_with fail
      refine (buffer_text_calls T hT b rk _ _ x H.out.1 (by have := HSZ.out; simp only [ByteArray.size_append]; omega)).mono ?_
      rintro e w1 ⟨rfl, r1, h1, hf1, hn1⟩
      go_wp2_with fail
      obtain ⟨h3, h4, h5⟩ := H.out
      refine ⟨⟨k + 1, r1, by go_num, by omega, ?_, h4.trans hf1 (fun k hk => ?_), fun k hk => (hn1 k hk).elim (h5 k) (fun h => .inr (Nat.le_trans h4.size h))⟩, by simp only [intOf]; omega⟩
      · rw [txtsB_take hlk, HXX.out, ← app_assoc]
        exact h1
      · rcases List.mem_cons.1 hk with rfl | hk
        · exact .inl (by simp)
        · exact (h5 k hk).imp (fun h => by simp [h]) id
    · obtain rfl : k = l.length := by omega
      go_wp2_with fail
      go_ret
      obtain ⟨h3, h4, h5⟩ := H.out
      rw [List.take_length] at h3
      exact ⟨rfl, rk, h3, h4, h5⟩

set_option maxHeartbeats 2000000 in
set_option maxRecDepth 100000 in
theorem Writer_String_calls (T : TypeId) (hT : BTy T) (b : Nat) (r : List Nat) (s : ByteArray) (w : World) (h : Bld T 5 w b r s) :
    Calls Try.prog 38 #[.pointer (some ⟨b, 0, none⟩)] w fun e w' => e = .returned (.string s) ∧ Bld T 5 w' b r s ∧ Fr r w w' := by
  go_enter Try.func38, Try.ntmps38
  go_wp2_with fail
  refine (String_calls T hT b r s _ h).mono ?_
  rintro e w1 ⟨rfl, h1, hf1⟩
  go_wp2_with fail
  go_ret
  exact ⟨rfl, h1, hf1⟩

/-- Num of some numbers written out: the call's own row of them is laid ahead. -/
theorem Writer_NumV_calls (T : TypeId) (hT : BTy T) (b : Nat) (r : List Nat) (s : ByteArray) (w : World) (l : List Int) {n m : Nat} {cs : Array Value} (hn : n = w.heap.size) (hm : m = l.length) (hcs : cs = (l.map (.int .u64)).toArray) (hw : ∀ x, x ∈ l → 0 ≤ x ∧ x < 18446744073709551616)
    (h : Bld T 5 w b r s) (hlen : s.size + 10 * l.length + 10 ≤ 140737488355328) :
    Calls Try.prog 36 #[.pointer (some ⟨b, 0, none⟩), .slice (some ⟨n, 0, none⟩) m m] (w.alloc (.cells cs 35)) fun e w' => e = .returned (.pointer (some ⟨b, 0, none⟩)) ∧ ∃ r', Bld T 5 w' b r' (s ++ numsB l) ∧ Fr (b :: r) w w' ∧ (∀ k, k ∈ r' → k ∈ r ∨ w.heap.size ≤ k) := by
  subst hn hm hcs
  have hbl := h.lt
  refine (Writer_Num_calls T hT b r s _ _ _ l (RdV.new w _ 35 rfl (by simp)) hw ?_ ?_ (h.keep ((Fr.refl [] w).alloc _) (by simp)) hlen).mono ?_
  · rintro ad ⟨⟩ hm
    exact absurd (hbl _ hm) (by simp)
  · rintro ad ⟨⟩
    simp
  rintro e w1 ⟨rfl, r1, h1, hf1, hn1⟩
  exact ⟨rfl, r1, h1, ((Fr.refl _ w).alloc _).trans hf1 (fun k hk => .inl hk), fun k hk => (hn1 k hk).imp id (fun h => by simp at h; omega)⟩
/-- Text of some texts written out. -/
theorem Writer_TextV_calls (T : TypeId) (hT : BTy T) (b : Nat) (r : List Nat) (s : ByteArray) (w : World) (l : List ByteArray) {n m : Nat} {cs : Array Value} (hn : n = w.heap.size) (hm : m = l.length) (hcs : cs = (l.map .string).toArray)
    (h : Bld T 5 w b r s) (hlen : s.size + sizes l + 20 ≤ 140737488355328) :
    Calls Try.prog 37 #[.pointer (some ⟨b, 0, none⟩), .slice (some ⟨n, 0, none⟩) m m] (w.alloc (.cells cs 9)) fun e w' => e = .returned (.pointer (some ⟨b, 0, none⟩)) ∧ ∃ r', Bld T 5 w' b r' (s ++ txtsB l) ∧ Fr (b :: r) w w' ∧ (∀ k, k ∈ r' → k ∈ r ∨ w.heap.size ≤ k) := by
  subst hn hm hcs
  have hbl := h.lt
  refine (Writer_Text_calls T hT b r s _ _ _ l (RdV.new w _ 9 rfl (by simp)) ?_ (h.keep ((Fr.refl [] w).alloc _) (by simp)) hlen).mono ?_
  · rintro ad ⟨⟩ hm
    exact absurd (hbl _ hm) (by simp)
  rintro e w1 ⟨rfl, r1, h1, hf1, hn1⟩
  exact ⟨rfl, r1, h1, ((Fr.refl _ w).alloc _).trans hf1 (fun k hk => .inl hk), fun k hk => (hn1 k hk).imp id (fun h => by simp at h; omega)⟩

theorem bty_writer : BTy 80 := ⟨by kernel_rfl, by decide⟩

end Go.Proofs.Ytembnjpflllpbaa
