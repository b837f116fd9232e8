/- Contracts of the document's reader (layer 3): Num of any state, Text. -/
import Derived.Test.YtbeoegppldjpoaaRef03R
namespace Go.Proofs.Ytbeoegppldjpoaa
open Go.RowKit
set_option linter.unusedVariables false
set_option linter.unusedSimpArgs false

set_option maxHeartbeats 1000000 in
set_option maxRecDepth 100000 in
theorem R3_Num0_calls (w : World) (b : Nat) (most : Int) (h : RS 67 w b none) :
    Calls Try.prog 30 #[.pointer (some ⟨b, 0, none⟩), .int .u64 most] w fun e w' => e = .returned (.int .u64 0) ∧ RS 67 w' b none ∧ Fr [b] w w' := by
  have c0 : w.cell? ⟨b, 0, none⟩ = some (.string ⟨#[]⟩) := h.cell0
  have HH := Lib.hid h
  clear h
  go_enter Try.func30, Try.ntmps30
  go_wp2_with fail
  go_loop [6] (fun v6 => v6 = .int .i64 0) (fun _ => 0)
  case atStart => rfl
  case round =>
    subst hrel
    go_wp2_with fail
    (with_reducible refine (R3_fail_calls _ b none HH.out).mono ?_)
    rintro e w1 ⟨rfl, h1, hf1⟩
    go_wp2_with fail
    go_ret
    exact ⟨rfl, h1, hf1⟩
theorem R3_NumS_calls (w : World) (b : Nat) (st : Option ByteArray) (most : Int) (h0 : 0 ≤ most) (h1 : most < 18446744073709551616) (h : RS 67 w b st) (hs : (st.getD ⟨#[]⟩).size ≤ 140737488355328) :
    Calls Try.prog 30 #[.pointer (some ⟨b, 0, none⟩), .int .u64 most] w fun e w' => e = .returned (.int .u64 (pNum st most.toNat).1) ∧ RS 67 w' b (pNum st most.toNat).2 ∧ Fr [b] w w' := by
  cases st with
  | none => exact R3_Num0_calls w b most h
  | some s => exact R3_Num_calls w b s most h0 h1 h hs

set_option maxHeartbeats 1000000 in
set_option maxRecDepth 100000 in
theorem R3_Text_calls (w : World) (b : Nat) (st : Option ByteArray) (most : Int) (h0 : -9223372036854775808 ≤ most) (h1 : most ≤ 9223372036854775807) (h : RS 67 w b st) (hs : (st.getD ⟨#[]⟩).size ≤ 140737488355328) :
    Calls Try.prog 31 #[.pointer (some ⟨b, 0, none⟩), .int .i64 most] w fun e w' => e = .returned (.string (pText st most).1) ∧ RS 67 w' b (pText st most).2 ∧ Fr [b] w w' := by
  by_cases hneg : most < 0
  · have HT : pText st most = (⟨#[]⟩, none) := by rw [pText, if_pos hneg]
    rw [HT]
    clear HT
    go_enter Try.func31, Try.ntmps31
    go_wp2_with fail
    (with_reducible refine (R3_fail_calls _ b st h).mono ?_)
    rintro e w1 ⟨rfl, h1', hf1⟩
    go_wp2_with fail
    (with_reducible refine (R3_Num0_calls _ b _ h1').mono ?_)
    rintro e w2 ⟨rfl, h2, hf2⟩
    have c1 : w2.cell? ⟨b, 1, none⟩ = some (.bool true) := h2.cell1
    have hF2 : Fr [b] w w2 := hf1.trans hf2 (fun k hk => .inl hk)
    clear h1' hf1 hf2
    go_wp2_with fail
    (with_reducible refine (R3_fail_calls _ b none h2).mono ?_)
    rintro e w3 ⟨rfl, h3, hf3⟩
    have hF3 : Fr [b] w w3 := hF2.trans hf3 (fun k hk => .inl hk)
    go_wp2_with fail
    go_ret
    exact ⟨rfl, h3, hF3⟩
  · have hpn := pNum_size st most.toNat
    have hlt := pNum_lt st most.toNat
    have HT : pText st most = (match pNum st most.toNat with
      | (_, none) => (⟨#[]⟩, none)
      | (n, some s) => if s.size < n then (⟨#[]⟩, none) else (s.extract 0 n, some (rest s n))) := by rw [pText, if_neg hneg]; rfl
    rw [HT]
    clear HT
    have hN := R3_NumS_calls w b st most (by omega) (by omega) h hs
    have HN := Lib.hid hN
    clear hN
    rcases hp : pNum st most.toNat with ⟨n, st1⟩
    rw [hp] at HN hpn hlt
    have hn63 : n ≤ 9223372036854775807 := by simp only at hlt; omega
    clear hlt hp
    cases st1 with
    | none =>
      clear hpn
      go_enter Try.func31, Try.ntmps31
      go_wp2_with fail
      (with_reducible refine HN.out.mono ?_)
      rintro e w1 ⟨rfl, h2, hf2⟩
      have c1 : w1.cell? ⟨b, 1, none⟩ = some (.bool true) := h2.cell1
      go_wp2_with fail
      (with_reducible refine (R3_fail_calls _ b none h2).mono ?_)
      rintro e w3 ⟨rfl, h3, hf3⟩
      have hF3 : Fr [b] w w3 := hf2.trans hf3 (fun k hk => .inl hk)
      go_wp2_with fail
      go_ret
      exact ⟨rfl, h3, hF3⟩
    | some s1 =>
      simp only [Option.getD_some] at hpn
      by_cases hsz : s1.size < n
      · dsimp only
        rw [if_pos hsz]
        go_enter Try.func31, Try.ntmps31
        go_wp2_with fail
        (with_reducible refine HN.out.mono ?_)
        rintro e w1 ⟨rfl, h2, hf2⟩
        have c1 : w1.cell? ⟨b, 1, none⟩ = some (.bool false) := h2.cell1
        have c0 : w1.cell? ⟨b, 0, none⟩ = some (.string s1) := h2.cell0
        go_wp2_with fail
        (with_reducible refine (R3_fail_calls _ b (some s1) h2).mono ?_)
        rintro e w3 ⟨rfl, h3, hf3⟩
        have hF3 : Fr [b] w w3 := hf2.trans hf3 (fun k hk => .inl hk)
        go_wp2_with fail
        go_ret
        exact ⟨rfl, h3, hF3⟩
      · dsimp only
        rw [if_neg hsz]
        go_enter Try.func31, Try.ntmps31
        go_wp2_with fail
        (with_reducible refine HN.out.mono ?_)
        rintro e w1 ⟨rfl, h2, hf2⟩
        have c1 : w1.cell? ⟨b, 1, none⟩ = some (.bool false) := h2.cell1
        have c0 : w1.cell? ⟨b, 0, none⟩ = some (.string s1) := h2.cell0
        have z0 := h2.frozen 0
        have HP := Lib.hid (h2.put (rest s1 n))
        have hf3 : Fr [b] w (w1.setCell ⟨b, 0, none⟩ (.string (rest s1 n))) := hf2.setCell (.inl (by simp)) _
        clear h2 hf2
        go_wp2_with fail
        go_ret
        exact ⟨rfl, HP.out, hf3⟩

end Go.Proofs.Ytbeoegppldjpoaa
