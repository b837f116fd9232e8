/- The contract of frame.Next. -/
import Derived.Test.YtembnjpflllpbaaFrame
import Derived.IntWalk
import Derived.Deep.Cut
namespace Go.Proofs.Ytembnjpflllpbaa
open Go.RowKit
set_option linter.unusedVariables false
set_option linter.unusedSimpArgs false

/-- What Next hands back. -/
def nextV (o : Option (ByteArray × Nat)) : Value := match o with
  | some (t, k) => .tuple #[.string t, .int .i64 k, .bool true]
  | none => .tuple #[.string ⟨#[]⟩, .int .i64 0, .bool false]

/-- A sum behind a text is right just if it is the text's. -/
theorem openB_join (t u : ByteArray) (hu : u.size = 4) : openB (t ++ u) = if u = bytes4 (crcSum t) then some t else none := by
  have hl : t.data.toList.length = t.size := by rw [Array.length_toList]; rfl
  have hlu : u.data.toList.length = u.size := by rw [Array.length_toList]; rfl
  have hs : (t ++ u).size = t.size + 4 := by rw [ByteArray.size_append, hu]
  have h1 : (t ++ u).extract 0 t.size = t := by
    apply ByteArray.ext
    apply Array.toList_inj.1
    simp only [ByteArray.data_extract, ByteArray.data_append, Array.toList_extract, Array.toList_append, List.extract_eq_take_drop, List.drop_zero, Nat.sub_zero]
    exact List.take_left' hl
  have h2 : (t ++ u).extract t.size (t.size + 4) = u := by
    apply ByteArray.ext
    apply Array.toList_inj.1
    simp only [ByteArray.data_extract, ByteArray.data_append, Array.toList_extract, Array.toList_append, List.extract_eq_take_drop]
    rw [List.drop_left' hl, List.take_of_length_le (by omega)]
  unfold openB
  rw [hs, show t.size + 4 - 4 = t.size from by omega, h1, h2]
  by_cases h : u = bytes4 (crcSum t)
  · rw [if_pos ⟨by omega, h⟩, if_pos h]
  · rw [if_neg (fun h' => h h'.2), if_neg h]

theorem byte_eq {a b : Nat} (h : a = b) : ((a : Int) == (b : Int)) = true := by rw [h]; simp
theorem byte_ne {a b : Nat} (h : a ≠ b) : ((a : Int) == (b : Int)) = false := by simp; omega

set_option maxHeartbeats 1000000 in
set_option maxRecDepth 100000 in
theorem Next_none1 (w : World) (s : ByteArray) (hs : s.size < 7) :
    Calls Try.prog 80 #[.string s] w fun e w' => e = .returned (nextV none) ∧ Fr [] w w' := by
  go_enter Try.func80, Try.ntmps80
  go_wp2_with fail
  go_ret3
  exact ⟨rfl, Fr.refl _ _⟩
set_option maxHeartbeats 1000000 in
set_option maxRecDepth 100000 in
theorem Next_none2 (w : World) (s : ByteArray) (hs : 7 ≤ s.size) (h0 : bAt s 0 ≠ 165) :
    Calls Try.prog 80 #[.string s] w fun e w' => e = .returned (nextV none) ∧ Fr [] w w' := by
  rw [bAt_eq (by omega)] at h0
  have h1 : (((s[0]).toNat : Int) == 165) = false := byte_ne h0
  have h2 : (((s[0]).toNat : Int) != 165) = true := by simp [bne, h1]
  clear h0
  go_enter Try.func80, Try.ntmps80
  go_wp2_with fail
  go_ret3
  exact ⟨rfl, Fr.refl _ _⟩

set_option maxHeartbeats 1000000 in
set_option maxRecDepth 100000 in
theorem Next_in (w : World) (s : ByteArray) (n : Nat) (hs0 : s.size ≤ 140737488351232) (hs : 7 ≤ s.size) (hh1 : (((s[0]).toNat : Int) == 165) = true) (hh2 : (((s[0]).toNat : Int) != 165) = false)
    (hor : bits .or .i64 (wrap64 (((s[1]).toNat : Nat) : Int)) (wrap64 (wrap64 (((s[2]).toNat : Nat) : Int) * 256)) = (n : Int)) (hln : n < 65536) (hz1 : 1 ≤ n) (hz2 : n ≤ 32768) (hsz : n + 8 ≤ s.size) (h91 : (((s[n + 7]).toNat : Int) == 90) = true) :
    Calls Try.prog 80 #[.string s] w fun e w' => e = .returned (nextV (if s.extract 3 7 = bytes4 (crcSum (s.extract 7 (7 + n))) then some (s.extract 7 (7 + n), n + 8) else none)) ∧ Fr [] w w' := by
  have h92 : (((s[n + 7]).toNat : Int) != 90) = false := by simp [bne, h91]
  have hi1 : (1 : Int) < (s.size : Int) := by omega
  have hi2 : (2 : Int) < (s.size : Int) := by omega
  have hi3 : 1 < s.size := by omega
  have hi4 : 2 < s.size := by omega
  have HZ := Lib.hid (fsize_in (n := n) (by omega) (by omega))
  have hd1 : (((n : Int) + 8) == 0) = false := beq_eq_false_iff_ne.2 (by omega)
  have hd2 : decide ((s.size : Int) < (n : Int) + 8) = false := decide_eq_false (by omega)
  go_enter Try.func80, Try.ntmps80
  go_wp2_with fail
  go_quiet (fail)
  clear hor
  go_wp2_with fail
  (with_reducible refine (FSize_calls _ _ (Bd.of_i64 (by omega) (by omega))).mono ?_)
  rintro e w1 ⟨rfl, rfl⟩
  rw [HZ.out]
  go_wp2_with fail
  have hu : (s.extract 3 7).size = 4 := by rw [ByteArray.size_extract]; omega
  have ht : (s.extract 7 (7 + n)).size = n := by rw [ByteArray.size_extract]; omega
  (with_reducible refine (Open_calls _ _ ?hjs).mono ?_)
  case hjs => rw [ByteArray.size_append]; omega
  rintro e w1 ⟨rfl, hf1⟩
  rw [openB_join _ _ hu]
  clear hu ht
  by_cases hq : s.extract 3 7 = bytes4 (crcSum (s.extract 7 (7 + n)))
  · rw [if_pos hq]
    have HQ := Lib.hid hq
    clear hq
    go_wp2_with fail
    go_ret3
    exact ⟨rfl, ((Fr.refl _ _).drewN _).then hf1⟩
  · rw [if_neg hq]
    have HQ := Lib.hid hq
    clear hq
    go_wp2_with fail
    go_ret3
    exact ⟨rfl, ((Fr.refl _ _).drewN _).then hf1⟩

set_option maxHeartbeats 1000000 in
set_option maxRecDepth 100000 in
theorem Next_some (w : World) (s : ByteArray) (hs0 : s.size ≤ 140737488351232) (hs : 7 ≤ s.size) (h0 : bAt s 0 = 165) :
    Calls Try.prog 80 #[.string s] w fun e w' => e = .returned (nextV (nextB s)) ∧ Fr [] w w' := by
  have HQ : Hid (nextB s = if 1 ≤ lenB s ∧ lenB s ≤ 32768 ∧ lenB s + 8 ≤ s.size ∧ bAt s (lenB s + 7) = 90 ∧ s.extract 3 7 = bytes4 (crcSum (s.extract 7 (7 + lenB s))) then some (s.extract 7 (7 + lenB s), lenB s + 8) else none) := Lib.hid (by
    unfold nextB OkB
    simp only [hs, h0, true_and])
  have h1 := bAt_lt s 1
  have h2 := bAt_lt s 2
  have hw : ∀ c : Nat, c < 65536 → wrap64 (c : Int) = (c : Int) := fun c hc => by
    rw [← IntWalk.i64_left]
    exact IntWalk.i64_in _ ⟨by omega, by omega⟩
  have hor : bits .or .i64 (wrap64 (((s[1]).toNat : Nat) : Int)) (wrap64 (wrap64 (((s[2]).toNat : Nat) : Int) * 256)) = (lenB s : Int) := by
    rw [← bAt_eq, ← bAt_eq, hw _ (by omega), hw _ (by omega)]
    have e : ((bAt s 2 : Nat) : Int) * 256 = ((bAt s 2 * 256 : Nat) : Int) := by simp
    rw [e, hw _ (by omega), i64_or_nat _ _ (by omega) (by omega), nat_join8 _ _ h1]
    rfl
  clear hw
  have hln : lenB s < 65536 := by unfold lenB; omega
  rw [bAt_eq (by omega)] at h0
  have hh1 : (((s[0]).toNat : Int) == 165) = true := byte_eq h0
  have hh2 : (((s[0]).toNat : Int) != 165) = false := by simp [bne, hh1]
  clear h0 h1 h2
  generalize nextB s = res at HQ ⊢
  generalize hn : lenB s = n at HQ hor hln
  have HN := Lib.hid hn
  clear hn
  by_cases hz : 1 ≤ n ∧ n ≤ 32768
  · have HZ := Lib.hid (fsize_in (n := n) (by omega) (by omega))
    obtain ⟨hz1, hz2⟩ := hz
    by_cases hsz : n + 8 ≤ s.size
    · by_cases h9 : bAt s (n + 7) = 90
      · have hr : res = if s.extract 3 7 = bytes4 (crcSum (s.extract 7 (7 + n))) then some (s.extract 7 (7 + n), n + 8) else none := by
          rw [HQ.out]
          by_cases hs : s.extract 3 7 = bytes4 (crcSum (s.extract 7 (7 + n)))
          · rw [if_pos ⟨hz1, hz2, hsz, h9, hs⟩, if_pos hs]
          · rw [if_neg (fun h => hs h.2.2.2.2), if_neg hs]
        rw [hr]
        rw [bAt_eq (by omega)] at h9
        exact Next_in w s n hs0 hs hh1 hh2 hor hln hz1 hz2 hsz (byte_eq h9)
      · have hr : res = none := by rw [HQ.out, if_neg (fun h => h9 h.2.2.2.1)]
        subst hr
        clear HQ
        rw [bAt_eq (by omega)] at h9
        have h91 : (((s[n + 7]).toNat : Int) == 90) = false := byte_ne h9
        have h92 : (((s[n + 7]).toNat : Int) != 90) = true := by simp [bne, h91]
        clear h9
        have hi1 : (1 : Int) < (s.size : Int) := by omega
        have hi2 : (2 : Int) < (s.size : Int) := by omega
        have hi3 : 1 < s.size := by omega
        have hi4 : 2 < s.size := by omega
        go_enter Try.func80, Try.ntmps80
        go_wp2_with fail
        go_quiet (fail)
        clear hor
        go_wp2_with fail
        (with_reducible refine (FSize_calls _ _ (Bd.of_i64 (by omega) (by omega))).mono ?_)
        rintro e w1 ⟨rfl, rfl⟩
        rw [HZ.out]
        go_wp2_with fail
        go_ret3
        exact ⟨rfl, (Fr.refl _ _).drewN _⟩
    · have hr : res = none := by rw [HQ.out, if_neg (fun h => hsz h.2.2.1)]
      subst hr
      clear HQ
      have hi1 : (1 : Int) < (s.size : Int) := by omega
      have hi2 : (2 : Int) < (s.size : Int) := by omega
      have hi3 : 1 < s.size := by omega
      have hi4 : 2 < s.size := by omega
      go_enter Try.func80, Try.ntmps80
      go_wp2_with fail
      go_quiet (fail)
      clear hor
      go_wp2_with fail
      (with_reducible refine (FSize_calls _ _ (Bd.of_i64 (by omega) (by omega))).mono ?_)
      rintro e w1 ⟨rfl, rfl⟩
      rw [HZ.out]
      go_wp2_with fail
      go_ret3
      exact ⟨rfl, (Fr.refl _ _).drewN _⟩
  · have HZ := Lib.hid (fsize_out (n := n) (by omega))
    have hr : res = none := by rw [HQ.out, if_neg (fun h => hz ⟨h.1, h.2.1⟩)]
    subst hr
    clear HQ hz
    have hi1 : (1 : Int) < (s.size : Int) := by omega
    have hi2 : (2 : Int) < (s.size : Int) := by omega
    have hi3 : 1 < s.size := by omega
    have hi4 : 2 < s.size := by omega
    go_enter Try.func80, Try.ntmps80
    go_wp2_with fail
    go_quiet (fail)
    clear hor
    go_wp2_with fail
    (with_reducible refine (FSize_calls _ _ (Bd.of_i64 (by omega) (by omega))).mono ?_)
    rintro e w1 ⟨rfl, rfl⟩
    rw [HZ.out]
    go_wp2_with fail
    go_ret3
    exact ⟨rfl, (Fr.refl _ _).drewN _⟩

theorem Next_calls (w : World) (s : ByteArray) (hs : s.size ≤ 140737488351232) :
    Calls Try.prog 80 #[.string s] w fun e w' => e = .returned (nextV (nextB s)) ∧ Fr [] w w' := by
  by_cases h : 7 ≤ s.size
  · by_cases h0 : bAt s 0 = 165
    · exact Next_some w s hs h h0
    · rw [nextB_none (fun ho => h0 ho.2.1)]
      exact Next_none2 w s h h0
  · rw [nextB_none (fun ho => h ho.1)]
    exact Next_none1 w s (by omega)

end Go.Proofs.Ytembnjpflllpbaa
