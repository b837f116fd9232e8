/- Contracts of the package crc: Sum, bytes, Seal, Open. -/
import Derived.Test.YtembnjpflllpbaaCrc
import Derived.Deep.RegionHeld3
import Derived.Deep.RegionWith
namespace Go.Proofs.Ytembnjpflllpbaa
open Go.RowKit
set_option linter.unusedVariables false
set_option linter.unusedSimpArgs false

theorem RdV.one {w : World} {ad : Addr} {v : Value} (h : w.cell? ad = some v) : RdV w (some ad) [v] := by
  intro j x hj
  match j, hj with
  | 0, hj => simp at hj; subst hj; exact ⟨ad, rfl, by rw [Addr.add_zero']; exact h⟩
theorem crcExt_zero (s : ByteArray) : crcExt 0 s = crcSum s := rfl
set_option maxHeartbeats 400000 in
set_option maxRecDepth 100000 in
/-- Sum, of one text. -/
theorem Sum_calls (w : World) (A : Option Addr) (c : Nat) (s : ByteArray) (hA : RdV w A [.string s]) (hs : s.size ≤ 9223372036854775806) :
    Calls Try.prog 78 #[.slice A 1 c] w fun e w' => e = .returned (.int .u32 (crcSum s : Nat)) ∧ Fr [] w w' := by
  obtain ⟨ad, rfl, hc0⟩ := hA 0 (.string s) rfl
  have hlt := crcSum_lt s
  have HZ := Lib.hid (crcExt_zero s)
  generalize crcSum s = x at HZ ⊢
  go_enter Try.func78, Try.ntmps78
  go_wp2_with fail
  go_loopw [3, 8] (fun v3 v8 wr => (v8 = .int .i64 0 ∧ v3 = .int .u32 0 ∧ wr = w) ∨ (v8 = .int .i64 1 ∧ v3 = .int .u32 x ∧ Hid (Fr [] w wr))) (fun _ v8 _ => 1 - (intOf v8).toNat)
  case atStart => exact .inl ⟨rfl, rfl, rfl⟩
  case round =>
    rcases hrel with ⟨rfl, rfl, rfl⟩ | ⟨rfl, rfl, H⟩
    · have hc : wr.cell? ad = some (.string s) := by rw [Addr.add_zero'] at hc0; exact hc0
      go_wp2_with fail
      (with_reducible refine (Extend_calls _ 0 (show (0 : Int) = ((0 : Nat) : Int) from rfl) (by decide) s hs).mono ?_)
      rintro e w1 ⟨rfl, hf⟩
      rw [HZ.out]
      have HF := Lib.hid hf
      clear hf
      go_wp2_with fail
      refine ⟨.inr ⟨rfl, rfl, HF⟩, by simp [intOf]⟩
    · go_wp2_with fail
      go_ret
      exact ⟨rfl, H.out⟩

theorem run_bytes4 (w : World) (n : Nat) (hn : n < 4294967296) :
    (convert 51 9 (.slice (some ⟨w.heap.size, 0, none⟩) 4 4)).run Try.prog (w.alloc (.cells #[.int .u8 ((n : Int) % 256), .int .u8 ((n : Int) / 256 % 256), .int .u8 ((n : Int) / 65536 % 256), .int .u8 ((n : Int) / 16777216)] 5)) = .ok (.string (bytes4 n)) (w.alloc (.cells #[.int .u8 ((n : Int) % 256), .int .u8 ((n : Int) / 256 % 256), .int .u8 ((n : Int) / 65536 % 256), .int .u8 ((n : Int) / 16777216)] 5)) := by
  refine run_toString Try.underlying51 Try.underlying5 Try.underlying9 (bytes4_size n).symm (RdV.new _ _ _ rfl ?_) (by rintro ad ⟨⟩; rfl)
  simp only [Lib.strCells, bytes4, List.map_cons, List.map_nil, UInt8.toNat_ofNat']
  have h1 : (n : Int) % 256 = ((n % 256 : Nat) : Int) := by simp
  have h2 : (n : Int) / 256 % 256 = ((n / 256 % 256 : Nat) : Int) := by simp
  have h3 : (n : Int) / 65536 % 256 = ((n / 65536 % 256 : Nat) : Int) := by simp
  have h4 : (n : Int) / 16777216 = ((n / 16777216 % 256 : Nat) : Int) := by omega
  rw [h1, h2, h3, h4]

set_option maxHeartbeats 400000 in
set_option maxRecDepth 100000 in
theorem bytes_calls (w : World) (n : Nat) {ni : Int} (hni : ni = n) (hn : n < 4294967296) :
    Calls Try.prog 77 #[.int .u32 ni] w fun e w' => e = .returned (.string (bytes4 n)) ∧ Fr [] w w' := by
  subst hni
  have hcv := run_bytes4 w n hn
  go_enter Try.func77, Try.ntmps77
  go_wp2
  go_ret
  exact ⟨rfl, (Fr.refl _ _).alloc _⟩

set_option maxHeartbeats 400000 in
set_option maxRecDepth 100000 in
theorem Seal_calls (w : World) (s : ByteArray) (hs : s.size ≤ 140737488351232) :
    Calls Try.prog 64 #[.string s] w fun e w' => e = .returned (.string (sealB s)) ∧ Fr [] w w' := by
  have hlt := crcSum_lt s
  have hb4 := bytes4_size (crcSum s)
  have HE : Hid (sealB s = s ++ bytes4 (crcSum s)) := Lib.hid rfl
  have HS := Lib.hid (fun W => Sum_calls W (some ⟨W.heap.size - 1, 0, none⟩) 1 s)
  generalize sealB s = res at HE ⊢
  go_enter Try.func64, Try.ntmps64
  go_wp2_with fail
  (with_reducible refine (Sum_calls _ _ _ s (RdV.new _ #[.string s] 9 rfl rfl) (by omega)).mono ?_)
  rintro e w1 ⟨rfl, hf1⟩
  have hfa : Fr [] w w1 := ((Fr.refl _ _).alloc _).then hf1
  generalize crcSum s = x at hlt hb4 HE
  clear hf1
  go_wp2_with fail
  (with_reducible refine (bytes_calls _ x rfl hlt).mono ?_)
  rintro e w2 ⟨rfl, hf2⟩
  have hfb := hfa.then hf2
  generalize bytes4 x = y at hb4 HE
  clear hfa hf2
  have hsum : s.size + y.size ≤ 9223372036854775807 := by omega
  go_wp2_with fail
  go_ret
  exact ⟨by rw [HE.out]; rfl, hfb⟩

/-- Open: a text whose sum stands behind it. -/
def openB (t : ByteArray) : Option ByteArray := if 4 ≤ t.size ∧ t.extract (t.size - 4) t.size = bytes4 (crcSum (t.extract 0 (t.size - 4))) then some (t.extract 0 (t.size - 4)) else none

set_option maxHeartbeats 400000 in
set_option maxRecDepth 100000 in
theorem Open_calls (w : World) (t : ByteArray) (hs : t.size ≤ 140737488351232) :
    Calls Try.prog 84 #[.string t] w fun e w' => e = .returned (.tuple #[.string ((openB t).getD ⟨#[]⟩), .bool (openB t).isSome]) ∧ Fr [] w w' := by
  by_cases h4 : 4 ≤ t.size
  · obtain ⟨n, hn⟩ : ∃ n, t.size = n + 4 := ⟨t.size - 4, by omega⟩
    have hb : (t.extract 0 n).size = n := by rw [ByteArray.size_extract]; omega
    have hlt := crcSum_lt (t.extract 0 n)
    have HE : Hid (openB t = if t.extract n t.size = bytes4 (crcSum (t.extract 0 n)) then some (t.extract 0 n) else none) := Lib.hid (by
      unfold openB
      rw [show t.size - 4 = n from by omega]
      by_cases h : t.extract n t.size = bytes4 (crcSum (t.extract 0 n))
      · rw [if_pos ⟨h4, h⟩, if_pos h]
      · rw [if_neg (fun h' => h h'.2), if_neg h])
    have hi : (t.size : Int) - 4 = (n : Int) := by omega
    have hle : n ≤ t.size := by omega
    generalize openB t = res at HE ⊢
    by_cases heq : t.extract n t.size = bytes4 (crcSum (t.extract 0 n))
    · have hE := HE.out
      rw [if_pos heq] at hE
      subst hE
      clear HE
      have HQ1 : ((t.extract n t.size).toList == (bytes4 (crcSum (t.extract 0 n))).toList) = true := beq_iff_eq.2 (congrArg _ heq)
      have HQ : ((t.extract n t.size).toList != (bytes4 (crcSum (t.extract 0 n))).toList) = false := by simp [bne, HQ1]
      clear heq
      have hi0 : (0 : Int) ≤ (n : Int) := by omega
      have hi1 : (n : Int) ≤ (t.size : Int) := by omega
      have hbb : (t.extract 0 n).size ≤ 9223372036854775806 := by omega
      clear hn hb
      go_enter Try.func84, Try.ntmps84
      go_wp2_with fail
      go_region_held3 (fun _ => True) (first | trivial | go_keep) (first
        | (go_at_call 78; (with_reducible refine (Sum_calls _ _ _ (t.extract 0 n) (RdV.one ?_) hbb).mono ?_); (· simp); rintro e w1 ⟨rfl, hf1⟩)
        | (go_at_call 77; (with_reducible refine (bytes_calls _ (crcSum (t.extract 0 n)) rfl hlt).mono ?_); rintro e w2 ⟨rfl, hf2⟩))
      all_goals
        go_wp2
        go_ret2
        exact ⟨rfl, (((Fr.refl _ _).drew.alloc _).then hf1).then hf2⟩
    · have hE := HE.out
      rw [if_neg heq] at hE
      subst hE
      clear HE
      have HQ1 : ((t.extract n t.size).toList == (bytes4 (crcSum (t.extract 0 n))).toList) = false := beq_eq_false_iff_ne.2 (fun h => heq (toList_inj h))
      have HQ : ((t.extract n t.size).toList != (bytes4 (crcSum (t.extract 0 n))).toList) = true := by simp [bne, HQ1]
      clear heq
      have hi0 : (0 : Int) ≤ (n : Int) := by omega
      have hi1 : (n : Int) ≤ (t.size : Int) := by omega
      have hbb : (t.extract 0 n).size ≤ 9223372036854775806 := by omega
      clear hn hb
      go_enter Try.func84, Try.ntmps84
      go_wp2_with fail
      go_region_held3 (fun _ => True) (first | trivial | go_keep) (first
        | (go_at_call 78; (with_reducible refine (Sum_calls _ _ _ (t.extract 0 n) (RdV.one ?_) hbb).mono ?_); (· simp); rintro e w1 ⟨rfl, hf1⟩)
        | (go_at_call 77; (with_reducible refine (bytes_calls _ (crcSum (t.extract 0 n)) rfl hlt).mono ?_); rintro e w2 ⟨rfl, hf2⟩))
      all_goals
        go_wp2
        go_ret2
        exact ⟨rfl, (((Fr.refl _ _).drew.alloc _).then hf1).then hf2⟩
  · have e : openB t = none := if_neg (fun h => h4 h.1)
    rw [e]
    clear e
    have h : (t.size : Int) - 4 < 0 := by omega
    go_enter Try.func84, Try.ntmps84
    go_wp2
    go_quiet (fail)
    go_wp2
    go_ret2
    exact ⟨rfl, (Fr.refl _ _).drewN _⟩

end Go.Proofs.Ytembnjpflllpbaa
