/- Contracts of sha.Sum at rows of few texts, of sha.Hex; the chapter's example. -/
import Derived.Test.YtlcfambhjclkiaaShaSum
import Derived.Test.YtlcfambhjclkiaaShaDoc
import Derived.Test.YtlcfambhjclkiaaMild3
namespace Go.Proofs.Ytlcfambhjclkiaa
open Go.RowKit
set_option linter.unusedVariables false
set_option linter.unusedSimpArgs false

theorem rdv_cells {W : World} {b : Nat} {cs : Array Value} {T : TypeId} {fz : Nat × Nat} (h : W.heap[b]? = some (.cells cs T fz)) : RdV W (some ⟨b, 0, none⟩) cs.toList := by
  intro j v hj
  refine ⟨_, rfl, ?_⟩
  rw [Addr.add_lit, Lib.cell_of_heap h, Nat.zero_add]
  simpa using hj
theorem catB_nil : catB [] = ⟨#[]⟩ := rfl
theorem catB_one (s : ByteArray) : catB [s] = s := by
  rw [catB]
  simp [lB]
theorem catB_cons (s : ByteArray) (l : List ByteArray) : catB (s :: l) = s ++ catB l := by
  rw [catB, catB, List.map_cons, List.flatten_cons, ← lB_app]
  rfl
theorem Sum0 (W : World) : Calls Try.prog 16 #[.slice none 0 0] W fun e w' => e = .returned (.string (shaSum ⟨#[]⟩)) ∧ Fr [] W w' :=
  Sum_calls' W none 0 [] (RdV.nil _ _) (by simp) (Nat.le_refl _) (Nat.zero_le _) (Nat.zero_le _)
theorem SumL (l : List ByteArray) {cs : Array Value} (hcs : cs = (l.map .string).toArray) {m : Nat} (hm : m = l.length) {T : TypeId} {fz : Nat × Nat} (W : World) (b : Nat) (h : W.heap[b]? = some (.cells cs T fz)) (hl : l.length ≤ 1000000) (hs : (catB l).size ≤ 1000000) :
    Calls Try.prog 16 #[.slice (some ⟨b, 0, none⟩) m m] W fun e w' => e = .returned (.string (shaSum (catB l))) ∧ Fr [] W w' := by
  subst hcs hm
  exact Sum_calls' W _ _ l (by have := rdv_cells h; simpa using this) (by rintro ad ⟨⟩; rfl) (Nat.le_refl _) hl hs
theorem Sum1 (W : World) (b : Nat) (s : ByteArray) {T : TypeId} {fz : Nat × Nat} (h : W.heap[b]? = some (.cells #[.string s] T fz)) (hs : s.size ≤ 1000000) :
    Calls Try.prog 16 #[.slice (some ⟨b, 0, none⟩) 1 1] W fun e w' => e = .returned (.string (shaSum s)) ∧ Fr [] W w' := by
  have := SumL [s] rfl rfl W b h (by simp) (by rw [catB_one]; exact hs)
  rw [catB_one] at this
  exact this
theorem Sum2 (W : World) (b : Nat) (s t : ByteArray) {T : TypeId} {fz : Nat × Nat} (h : W.heap[b]? = some (.cells #[.string s, .string t] T fz)) (hs : s.size + t.size ≤ 1000000) :
    Calls Try.prog 16 #[.slice (some ⟨b, 0, none⟩) 2 2] W fun e w' => e = .returned (.string (shaSum (s ++ t))) ∧ Fr [] W w' := by
  have he : catB [s, t] = s ++ t := by rw [catB_cons, catB_one]
  have := SumL [s, t] rfl rfl W b h (by simp) (by rw [he, ByteArray.size_append]; exact hs)
  rw [he] at this
  exact this
theorem Sum3 (W : World) (b : Nat) (s t u : ByteArray) {T : TypeId} {fz : Nat × Nat} (h : W.heap[b]? = some (.cells #[.string s, .string t, .string u] T fz)) (hs : s.size + t.size + u.size ≤ 1000000) :
    Calls Try.prog 16 #[.slice (some ⟨b, 0, none⟩) 3 3] W fun e w' => e = .returned (.string (shaSum (s ++ (t ++ u)))) ∧ Fr [] W w' := by
  have he : catB [s, t, u] = s ++ (t ++ u) := by rw [catB_cons, catB_cons, catB_one]
  have := SumL [s, t, u] rfl rfl W b h (by simp) (by rw [he, ByteArray.size_append, ByteArray.size_append]; omega)
  rw [he] at this
  exact this
theorem shaSum_size (s : ByteArray) : (shaSum s).size = 32 := by
  rw [shaSum, shaOut, shaOut_len, ← shaHs_scan, (shaHs_ok _).1]

/-! ### digits -/
def hexDigits : ByteArray := ⟨#[48, 49, 50, 51, 52, 53, 54, 55, 56, 57, 97, 98, 99, 100, 101, 102]⟩
theorem index_hex (d : Nat) (hd : d < 16) (w : World) : (Instr.index 9 (.string ⟨#[48, 49, 50, 51, 52, 53, 54, 55, 56, 57, 97, 98, 99, 100, 101, 102]⟩) (.int .u8 (d : Int))).run Try.prog w = .ok (.int .u8 ((hexDig.getD d 0).toNat : Int)) w := by
  match d, hd with
  | 0, _ => rfl
  | 1, _ => rfl
  | 2, _ => rfl
  | 3, _ => rfl
  | 4, _ => rfl
  | 5, _ => rfl
  | 6, _ => rfl
  | 7, _ => rfl
  | 8, _ => rfl
  | 9, _ => rfl
  | 10, _ => rfl
  | 11, _ => rfl
  | 12, _ => rfl
  | 13, _ => rfl
  | 14, _ => rfl
  | 15, _ => rfl
  | _ + 16, h => exact absurd h (by omega)
def hexL (l : List UInt8) : List UInt8 := l.flatMap fun c => [hexDig.getD (c.toNat / 16) 0, hexDig.getD (c.toNat % 16) 0]
theorem hexB_eq (s : ByteArray) : hexB s = lB (hexL s.data.toList) := rfl
theorem hexL_len (l : List UInt8) : (hexL l).length = 2 * l.length := by
  induction l with
  | nil => rfl
  | cons x l ih => rw [hexL, List.flatMap_cons, List.length_append]; rw [hexL] at ih; rw [ih]; simp; omega
theorem take_next (s : ByteArray) (k : Nat) (h : k < s.size) : s.data.toList.take (k + 1) = s.data.toList.take k ++ [s[k]] := by
  rw [List.take_succ_eq_append_getElem (by simpa using h)]; rfl
theorem bOf_u8 (c : UInt8) : bOf (c.toNat : Int) = lB [c] := by
  simp [bOf, lB]
theorem hexL_snoc (l : List UInt8) (c : UInt8) : lB (hexL l) ++ bOf ((hexDig.getD (c.toNat / 16) 0).toNat : Int) ++ bOf ((hexDig.getD (c.toNat % 16) 0).toNat : Int) = lB (hexL (l ++ [c])) := by
  rw [bOf_u8, bOf_u8, lB_app, lB_app, hexL, hexL, List.flatMap_append]
  simp

set_option maxHeartbeats 2000000 in
set_option maxRecDepth 100000 in
theorem Hex_calls (w : World) (s : ByteArray) (hs : s.size ≤ 1000000) :
    Calls Try.prog 18 #[.string s] w fun e w' => e = .returned (.string (hexB s)) ∧ Fr [] w w' := by
  have HE := Lib.hid (hexB_eq s)
  go_enter Try.func18, Try.ntmps18
  go_wp2_with fail
  have h0 : BldN 62 5 w (w.alloc (.cells #[.pointer none, .slice none 0 0] 62)) w.heap.size [] ⟨#[]⟩ := BldN.make _ _ (Fr.refl _ _) rfl
  generalize w.alloc (.cells #[.pointer none, .slice none 0 0] 62) = W1 at h0 ⊢
  generalize w.heap.size = b at h0 ⊢
  have H0 := Lib.hid h0
  clear h0
  go_loopw [4, 7] (fun v4 v7 wr => ∃ (k : Nat) (r : List Nat), v7 = .int .i64 k ∧ k ≤ s.size ∧ Hid (BldN 62 5 w wr b r (lB (hexL (s.data.toList.take k))))) (fun _ v7 _ => s.size - (intOf v7).toNat)
  case atStart => exact ⟨0, [], rfl, Nat.zero_le _, H0⟩
  case round =>
    clear H0
    obtain ⟨k, r, rfl, hk, H⟩ := hrel
    by_cases hlt : k < s.size
    · have hl : (lB (hexL (s.data.toList.take k))).size = 2 * k := by rw [lB_size, hexL_len, List.length_take, Array.length_toList]; show 2 * min k s.size = _; omega
      have hsn := hexL_snoc (s.data.toList.take k) s[k]
      rw [← take_next s k hlt] at hsn
      have hc := (s[k]).toNat_lt
      have hx1 := index_hex ((s[k]).toNat / 16) (by omega)
      have hx2 := index_hex ((s[k]).toNat % 16) (by omega)
      rw [show ((((s[k]).toNat / 16 : Nat)) : Int) = ((s[k]).toNat : Int) / 16 from by simp] at hx1
      rw [show ((((s[k]).toNat % 16 : Nat)) : Int) = ((s[k]).toNat : Int) % 16 from by simp] at hx2
      generalize lB (hexL (s.data.toList.take k)) = acc at H hl hsn
      generalize hd1 : hexDig.getD ((s[k]).toNat / 16) 0 = d1 at hx1 hsn
      generalize hd2 : hexDig.getD ((s[k]).toNat % 16) 0 = d2 at hx2 hsn
      have HS := Lib.hid (And.intro hl hsn)
      have hu1 := d1.toNat_lt
      have hu2 := d2.toNat_lt
      clear hl hsn hd1 hd2
      go_wp2_with fail
      (with_reducible refine (WriteByte_calls 62 bty_b b _ _ _ (d1.toNat : Int) (by omega) (by omega) H.out.bld (by have := HS.out.1; omega)).mono ?_)
      rintro e w3 ⟨rfl, r3, hb3, hf3, hn3⟩
      have H3 := Lib.hid (H.out.step hb3 hf3 hn3)
      have HZ : Hid ((acc ++ bOf (d1.toNat : Int)).size + 1 ≤ 140737488355328) := Lib.hid (by rw [ByteArray.size_append, bOf_size]; have := HS.out.1; omega)
      clear hb3 hf3 hn3 H
      go_wp2_with fail
      (with_reducible refine (WriteByte_calls 62 bty_b b _ _ _ (d2.toNat : Int) (by omega) (by omega) H3.out.bld HZ.out).mono ?_)
      rintro e w4 ⟨rfl, r4, hb4, hf4, hn4⟩
      have h4 := H3.out.step hb4 hf4 hn4
      rw [HS.out.2] at h4
      have H4 := Lib.hid h4
      clear hb4 hf4 hn4 h4 H3 HZ HS hx1 hx2
      go_wp2_with fail
      exact ⟨⟨k + 1, r4, by go_num, by omega, H4⟩, by simp only [intOf]; omega⟩
    · obtain rfl : k = s.size := by omega
      rw [List.take_of_length_le (by rw [Array.length_toList]; exact Nat.le_refl _), ← HE.out] at H
      go_wp2_with fail
      (with_reducible refine (String_calls 62 bty_b b _ _ _ H.out.bld).mono ?_)
      rintro e w4 ⟨rfl, hb4, hf4⟩
      have HFr := Lib.hid (H.out.fr.trans hf4 (fun k hk => .inr (H.out.new k (by simp [hk]))))
      clear hb4 hf4 H
      go_wp2_with fail
      go_ret
      exact ⟨rfl, HFr.out⟩

theorem sha_abc' : hexB (shaSum (⟨#[97]⟩ ++ ⟨#[98, 99]⟩)) = ⟨#[98, 97, 55, 56, 49, 54, 98, 102, 56, 102, 48, 49, 99, 102, 101, 97, 52, 49, 52, 49, 52, 48, 100, 101, 53, 100, 97, 101, 50, 50, 50, 51, 98, 48, 48, 51, 54, 49, 97, 51, 57, 54, 49, 55, 55, 97, 57, 99, 98, 52, 49, 48, 102, 102, 54, 49, 102, 50, 48, 48, 49, 53, 97, 100]⟩ := sha_abc
set_option maxHeartbeats 400000 in
set_option maxRecDepth 100000 in
theorem awake06_calls (w : World) :
    Calls Try.prog 14 #[] w fun e w' => e = .returned (.bool true) ∧ Fr [] w w' := by
  have HE := Lib.hid sha_abc'
  have HZ := Lib.hid (shaSum_size (⟨#[97]⟩ ++ ⟨#[98, 99]⟩))
  go_enter Try.func14, Try.ntmps14
  go_wp2_with fail
  (with_reducible refine (Sum2 _ _ ⟨#[97]⟩ ⟨#[98, 99]⟩ (heap_alloc_new w (.cells #[.string ⟨#[97]⟩, .string ⟨#[98, 99]⟩] 9)) (by decide)).mono ?_)
  rintro e w1 ⟨rfl, hf1⟩
  have HF := Lib.hid (((Fr.refl [] w).alloc (.cells #[.string ⟨#[97]⟩, .string ⟨#[98, 99]⟩] 9)).then hf1)
  clear hf1
  generalize shaSum (⟨#[97]⟩ ++ ⟨#[98, 99]⟩) = d at HE HZ ⊢
  go_wp2_with fail
  (with_reducible refine (Hex_calls w1 d (by have := HZ.out; omega)).mono ?_)
  rintro e w2 ⟨rfl, hf2⟩
  rw [HE.out]
  have HF2 := Lib.hid (HF.out.then hf2)
  clear hf2 HF
  go_wp2_with fail
  go_ret
  exact ⟨rfl, HF2.out⟩

end Go.Proofs.Ytlcfambhjclkiaa
