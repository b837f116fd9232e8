/- Contracts of the package frame: Size, Wrap, All. -/
import Derived.Test.YtembnjpflllpbaaCrc2
import Derived.Test.YtembnjpflllpbaaFramePure
namespace Go.Proofs.Ytembnjpflllpbaa
open Go.RowKit
set_option linter.unusedVariables false
set_option linter.unusedSimpArgs false

set_option maxHeartbeats 400000 in
set_option maxRecDepth 100000 in
theorem FSize_calls (w : World) (n : Int) (h : Bd .i64 n) :
    Calls Try.prog 30 #[.int .i64 n] w fun e w' => e = .returned (.int .i64 (fsize n)) ∧ w = w' := by
  have hb := h.i64
  clear h
  by_cases h1 : n < 1
  · rw [fsize_out (.inl h1)]
    go_enter Try.func30, Try.ntmps30
    go_wp2
    go_ret
    exact ⟨rfl, rfl⟩
  · by_cases h2 : 32768 < n
    · rw [fsize_out (.inr h2)]
      go_enter Try.func30, Try.ntmps30
      go_wp2
      go_ret
      exact ⟨rfl, rfl⟩
    · rw [fsize_in (by omega) (by omega), show n + 8 = 7 + n + 1 from by omega]
      have h3 : 1 ≤ n := by omega
      have h4 : n ≤ 32768 := by omega
      go_enter Try.func30, Try.ntmps30
      go_wp2
      go_ret
      exact ⟨rfl, rfl⟩

set_option maxHeartbeats 2000000 in
set_option maxRecDepth 100000 in
theorem BWrite_calls (T : TypeId) (hT : BTy T) (b : Nat) (r : List Nat) (s : ByteArray) (w : World) (x : ByteArray) (ad : Addr) (c n : Nat) {ni : Nat} (hn : ni = n) (hx : RdV w (some ad) (Lib.strCells x)) (hb : ad.block ∉ b :: r) (hnx : n = x.size) (h0 : 0 < x.size) (h : Bld T 5 w b r s) (hlen : s.size + x.size ≤ 140737488355328) :
    Calls Try.prog 65 #[.pointer (some ⟨b, 0, none⟩), .slice (some ad) ni c] w fun e w' => e = .returned (.tuple #[.int .i64 n, .nilIface]) ∧ ∃ r', Bld T 5 w' b r' (s ++ x) ∧ Fr (b :: r) w w' ∧ (∀ k, k ∈ r' → k ∈ r ∨ w.heap.size ≤ k) := by
  subst hn
  have HB := Lib.hid hb
  have HNX := Lib.hid hnx
  clear hb hnx
  go_enter Try.func65, Try.ntmps65
  go_wp2_with fail
  refine (copyCheck_calls T hT b r s _ h).mono ?_
  rintro e w1 ⟨rfl, ⟨v, hu⟩, hf1⟩
  have hu' := hu
  obtain ⟨hb, hr, hn⟩ := hu
  have c1 : w1.cell? ⟨b, 1, none⟩ = some v := by rw [Lib.cell_of_heap hb]; rfl
  have HX := Lib.hid (hx.keep hf1 (fun ad' h => by injection h with h; subst h; intro hm; exact HB.out (by simp at hm; simp [hm])))
  go_wp2_with (at_builtin; refine wpList_bapp_cells rfl _ _ 51 rfl 5 Try.underlying51 infoByte v r s rfl hr ad c ni x rfl HNX.out h0 ?c1 hlen ?_)
  case c1 =>
    intro j y hj
    obtain ⟨ad', ha, hc⟩ := HX.out j y hj
    injection ha with ha
    subst ha
    exact hc
  intro v' w2 r' h1 hf2 hn2
  have hb2 := (hf2.block b (lt_of_heap hb) hn).trans hb
  have d1 : w2.cell? ⟨b, 1, none⟩ = some v := by rw [Lib.cell_of_heap hb2]; rfl
  have f1 : w2.frozen? ⟨b, 1, none⟩ = false := Lib.frozen_of_heap hb2 1
  obtain ⟨ao, n', cap, rfl⟩ : ∃ ao n' cap, v' = .slice ao n' cap := by
    rcases h1 with ⟨hv, _⟩ | ⟨g, cap, cur, fz, hv, _⟩
    · exact ⟨_, _, _, hv⟩
    · exact ⟨_, _, _, hv⟩
  go_wp2
  go_ret2
  obtain ⟨h3, h4⟩ := hu'.put hT.ne h1 hf2
  exact ⟨rfl, r', h3, (hf1.mono (fun k hk _ => by simp at hk; simp [hk])).trans h4 (fun k hk => .inl hk), fun k hk => (hn2 k hk).elim .inl (fun h => .inr (Nat.le_trans hf1.size h))⟩

theorem bty_builder : BTy 76 := ⟨by kernel_rfl, by decide⟩

theorem sealB_tail (s : ByteArray) : (sealB s).extract s.size (sealB s).size = bytes4 (crcSum s) := by
  rw [sealB_size, sealB]
  apply ByteArray.ext
  apply Array.toList_inj.1
  have hl : s.data.toList.length = s.size := by rw [Array.length_toList]; rfl
  have hb : (bytes4 (crcSum s)).data.toList.length = 4 := rfl
  simp only [ByteArray.data_extract, ByteArray.data_append, Array.toList_extract, Array.toList_append, List.extract_eq_take_drop]
  rw [List.drop_left' hl, List.take_of_length_le (by omega)]

abbrev b_plus (b : Nat) : Nat := b + 1
theorem strCells_headB (n : Nat) (hn : n ≤ 32768) : Lib.strCells (headB n) = (#[.int .u8 165, .int .u8 ((n : Int) % 256), .int .u8 ((n : Int) / 256)] : Array Value).toList := by
  simp only [Lib.strCells, headB, List.map_cons, List.map_nil, UInt8.toNat_ofNat']
  have h1 : (n : Int) % 256 = ((n % 256 : Nat) : Int) := by simp
  have h2 : (n : Int) / 256 = ((n / 256 % 256 : Nat) : Int) := by omega
  rw [h1, h2]
  rfl

set_option maxHeartbeats 1000000 in
set_option maxRecDepth 100000 in
theorem Wrap_calls (w : World) (s : ByteArray) (hs : s.size ≤ 140737488351232) :
    Calls Try.prog 47 #[.string s] w fun e w' => e = .returned (.string (wrapB s)) ∧ Fr [] w w' := by
  by_cases hin : 1 ≤ s.size ∧ s.size ≤ 32768
  · obtain ⟨h1, h2⟩ := hin
    rw [wrapB_in h1 h2]
    have HZ := Lib.hid (fsize_in (n := s.size) (by omega) (by omega))
    have HT := Lib.hid (show (sealB s).extract s.size (s.size + 4) = bytes4 (crcSum s) from by rw [← sealB_size]; exact sealB_tail s)
    have hzl := sealB_size s
    have hb4 := bytes4_size (crcSum s)
    have HH := Lib.hid (headB_size s.size)
    have hlt := crcSum_lt s
    have hcs := Lib.hid (strCells_headB s.size (by omega))
    go_enter Try.func47, Try.ntmps47
    go_wp2_with fail
    (with_reducible refine (FSize_calls _ _ (Bd.of_i64 (by omega) (by omega))).mono ?_)
    rintro e w1 ⟨rfl, rfl⟩
    rw [HZ.out]
    go_wp2_with fail
    (with_reducible refine (Seal_calls _ s hs).mono ?_)
    rintro e w1 ⟨rfl, hf1⟩
    go_wp2_with fail
    have hB := BldN.make 76 5 hf1 rfl
    have hsz : b_plus w1.heap.size = (w1.alloc (.cells #[.pointer none, .slice none 0 0] 76)).heap.size := by simp [b_plus]
    generalize w1.alloc (.cells #[.pointer none, .slice none 0 0] 76) = w2 at hB hsz ⊢
    generalize w1.heap.size = b at hB hsz ⊢
    have HB := Lib.hid (hB.other (S := []) ((Fr.refl _ _).alloc (.cells #[.int .u8 165, .int .u8 ((s.size : Int) % 256), .int .u8 ((s.size : Int) / 256)] 5)) (by simp) (by simp))
    have HX := Lib.hid (RdV.new w2 #[.int .u8 165, .int .u8 ((s.size : Int) % 256), .int .u8 ((s.size : Int) / 256)] 5 hsz (vs := Lib.strCells (headB s.size)) hcs.out)
    clear hB hf1 hsz hcs
    generalize w2.alloc (.cells #[.int .u8 165, .int .u8 ((s.size : Int) % 256), .int .u8 ((s.size : Int) / 256)] 5) = w3 at HB HX ⊢
    have hnb : b_plus b ∉ b :: ([] : List Nat) := by simp [b_plus]
    (with_reducible refine (BWrite_calls _ bty_builder b [] ⟨#[]⟩ _ (headB s.size) _ _ _ rfl HX.out hnb HH.out.symm (by rw [headB_size]; decide) HB.out.bld (by rw [headB_size]; decide)).mono ?_)
    rintro e w4 ⟨rfl, r4, h4, hf4, hn4⟩
    have HB4 := Lib.hid (HB.out.step h4 hf4 hn4)
    clear HB HX h4 hf4 hn4 hnb
    have hsl : (bytes4 (crcSum s)).size + s.size ≤ 9223372036854775807 := by omega
    rw [nil_bapp] at HB4
    go_wp2_with fail
    rw [HT.out]
    have hl5 : (headB s.size).size = 3 := HH.out
    (with_reducible refine (WriteString_calls _ bty_builder b r4 (headB s.size) _ (bytes4 (crcSum s) ++ s) HB4.out.bld ?hl5).mono ?_)
    case hl5 => rw [ByteArray.size_append]; omega
    rintro e w5 ⟨rfl, r5, h5, hf5, hn5⟩
    have HB5 := Lib.hid (HB4.out.step h5 hf5 hn5)
    clear HB4 h5 hf5 hn5
    go_wp2_with fail
    (with_reducible refine (WriteByte_calls _ bty_builder b r5 _ _ 90 (by decide) (by decide) HB5.out.bld ?hl6).mono ?_)
    case hl6 => rw [ByteArray.size_append, ByteArray.size_append]; omega
    rintro e w6 ⟨rfl, r6, h6, hf6, hn6⟩
    have HB6 := Lib.hid (HB5.out.step h6 hf6 hn6)
    clear HB5 h6 hf6 hn6 hl5
    go_wp2_with fail
    (with_reducible refine (String_calls _ bty_builder b r6 _ _ HB6.out.bld).mono ?_)
    rintro e w7 ⟨rfl, h7, hf7⟩
    have hF : Fr [] w w7 := HB6.out.fr.trans hf7 (fun k hk => .inr (HB6.out.new k (by simp [hk])))
    go_wp2_with fail
    go_ret
    exact ⟨rfl, hF⟩
  · have e : wrapB s = ⟨#[]⟩ := wrapB_out (by omega)
    have HZ := Lib.hid (fsize_out (n := s.size) (by omega))
    rw [e]
    clear e hin
    go_enter Try.func47, Try.ntmps47
    go_wp2_with fail
    (with_reducible refine (FSize_calls _ _ (Bd.of_i64 (by omega) (by omega))).mono ?_)
    rintro e w1 ⟨rfl, rfl⟩
    rw [HZ.out]
    go_wp2_with fail
    go_ret
    exact ⟨rfl, Fr.refl _ _⟩

end Go.Proofs.Ytembnjpflllpbaa
