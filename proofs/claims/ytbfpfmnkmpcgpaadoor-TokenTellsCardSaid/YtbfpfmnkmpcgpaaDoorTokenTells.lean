/- The law TokenTells: for any two texts and any draw the Go function returns true (its walk). -/
import Derived.Test.YtbfpfmnkmpcgpaaDoorTokenCodes
import Derived.Test.YtbfpfmnkmpcgpaaDoorRefDec
import Derived.Test.YtbfpfmnkmpcgpaaDoorRefCode
import Derived.Test.YtbfpfmnkmpcgpaaDoorRefClean
namespace Go.Proofs.YtbfpfmnkmpcgpaaDoor
open Go.RowKit
set_option linter.unusedVariables false
set_option linter.unusedSimpArgs false

theorem Token_any (w : World) (s : ByteArray) (hs : s.size ≤ 1000000) :
    Calls Tryd.prog 19 #[.string s] w fun e w' => e = .returned (.string (if s.size = 10 then encB s else ⟨#[]⟩)) ∧ Fr [] w w' := by
  by_cases h : s.size = 10
  · rw [if_pos h]
    exact Token_ten w s h
  · have h10 : ((s.size : Int) != 10) = true := by simp only [bne_iff_ne, ne_eq]; omega
    rw [if_neg h]
    clear hs h
    go_enter Tryd.func19, Tryd.ntmps19
    go_wp2_with fail
    go_ret
    exact ⟨rfl, Fr.refl _ _⟩
set_option maxRecDepth 100000 in
theorem RIsToken_calls (w : World) (s : ByteArray) (hs : s.size ≤ 100000) :
    Calls Tryd.prog 21 #[.string s] w fun e w' => e = .returned (.bool (isTokB s)) ∧ Fr [] w w' := by
  have HD := Lib.hid (fun W => RDecode_calls W s hs)
  unfold isTokB
  cases hd : decB s with
  | none =>
    rw [hd] at HD
    clear hd hs
    go_enter Tryd.func21, Tryd.ntmps21
    go_wp2_with fail
    (with_reducible refine (HD.out _).mono ?_)
    rintro e w1 ⟨rfl, hf1⟩
    have HF := Lib.hid hf1
    clear hf1
    go_wp2_with fail
    go_ret
    exact ⟨rfl, HF.out⟩
  | some t =>
    rw [hd] at HD
    clear hd hs
    simp only [Option.getD_some, Option.isSome_some] at HD
    obtain ⟨B, hB⟩ : ∃ B, (t.size == 10) = B := ⟨_, rfl⟩
    have hBi : ((t.size : Int) == 10) = B := by
      rw [← hB]
      by_cases h : t.size = 10
      · rw [h]; rfl
      · rw [beq_eq_false_iff_ne.2 h]; exact beq_eq_false_iff_ne.2 (by omega)
    simp only [hB]
    clear hB
    go_enter Tryd.func21, Tryd.ntmps21
    go_wp2_with fail
    (with_reducible refine (HD.out _).mono ?_)
    rintro e w1 ⟨rfl, hf1⟩
    have HF := Lib.hid hf1
    clear hf1
    go_wp2_with fail
    go_ret
    exact ⟨rfl, HF.out⟩
set_option maxHeartbeats 4000000 in
set_option maxRecDepth 100000 in
theorem tells_calls (w : World) (s : ByteArray) (hs : s.size ≤ 60) :
    Calls Tryd.prog 10 #[.string s] w fun e w' => e = .returned (.bool true) ∧ Fr [] w w' := by
  have HPD := Lib.hid (fun W => Decode_calls W s (by omega))
  have HRD := Lib.hid (fun W => RDecode_calls W s (by omega))
  generalize (decB s).getD ⟨#[]⟩ = D at HPD HRD
  generalize (decB s).isSome = B at HPD HRD
  have HPE := Lib.hid (fun W => Encode_calls W s (by omega))
  have HRE := Lib.hid (fun W => REncode_calls W s (by omega))
  have HPT := Lib.hid (fun W => Token_any W s (by omega))
  have HRT := Lib.hid (fun W => RToken_ten W s (by omega))
  generalize (if s.size = 10 then encB s else ⟨#[]⟩) = T at HPT HRT
  generalize encB s = E at HPE HRE
  have HPI := Lib.hid (fun W => IsToken_calls W s (by omega))
  have HRI := Lib.hid (fun W => RIsToken_calls W s (by omega))
  generalize isTokB s = I at HPI HRI
  have HPC := Lib.hid (fun W => IsCode_calls W s (by omega))
  have HRC := Lib.hid (fun W => RIsCode_calls W s (by omega))
  generalize isCodeB s = C at HPC HRC
  have HPL := Lib.hid (fun W => Clean_calls W s (by omega))
  have HRL := Lib.hid (fun W => RClean_calls W s (by omega))
  generalize cleanB s = L at HPL HRL
  have hB : (B == B) = true := by cases B <;> rfl
  have hI : (I == I) = true := by cases I <;> rfl
  have hC : (C == C) = true := by cases C <;> rfl
  clear hs
  go_enter Tryd.func10, Tryd.ntmps10
  go_wp2_with fail
  (with_reducible refine (HPD.out _).mono ?_)
  rintro e w1 ⟨rfl, hf1⟩
  have HF1 := Lib.hid (hf1)
  clear hf1
  go_wp2_with fail
  (with_reducible refine (HRD.out _).mono ?_)
  rintro e w2 ⟨rfl, hf2⟩
  have HF2 := Lib.hid (HF1.out.then hf2)
  clear hf2
  go_wp2_with fail
  (with_reducible refine (HPE.out _).mono ?_)
  rintro e w3 ⟨rfl, hf3⟩
  have HF3 := Lib.hid (HF2.out.then hf3)
  clear hf3
  go_wp2_with fail
  (with_reducible refine (HRE.out _).mono ?_)
  rintro e w4 ⟨rfl, hf4⟩
  have HF4 := Lib.hid (HF3.out.then hf4)
  clear hf4
  go_wp2_with fail
  (with_reducible refine (HPT.out _).mono ?_)
  rintro e w5 ⟨rfl, hf5⟩
  have HF5 := Lib.hid (HF4.out.then hf5)
  clear hf5
  go_wp2_with fail
  (with_reducible refine (HRT.out _).mono ?_)
  rintro e w6 ⟨rfl, hf6⟩
  have HF6 := Lib.hid (HF5.out.then hf6)
  clear hf6
  go_wp2_with fail
  (with_reducible refine (HPI.out _).mono ?_)
  rintro e w7 ⟨rfl, hf7⟩
  have HF7 := Lib.hid (HF6.out.then hf7)
  clear hf7
  go_wp2_with fail
  (with_reducible refine (HRI.out _).mono ?_)
  rintro e w8 ⟨rfl, hf8⟩
  have HF8 := Lib.hid (HF7.out.then hf8)
  clear hf8
  go_wp2_with fail
  (with_reducible refine (HPC.out _).mono ?_)
  rintro e w9 ⟨rfl, hf9⟩
  have HF9 := Lib.hid (HF8.out.then hf9)
  clear hf9
  go_wp2_with fail
  (with_reducible refine (HRC.out _).mono ?_)
  rintro e w10 ⟨rfl, hf10⟩
  have HF10 := Lib.hid (HF9.out.then hf10)
  clear hf10
  go_wp2_with fail
  (with_reducible refine (HPL.out _).mono ?_)
  rintro e w11 ⟨rfl, hf11⟩
  have HF11 := Lib.hid (HF10.out.then hf11)
  clear hf11
  go_wp2_with fail
  (with_reducible refine (HRL.out _).mono ?_)
  rintro e w12 ⟨rfl, hf12⟩
  have HF12 := Lib.hid (HF11.out.then hf12)
  clear hf12
  go_wp2_with fail
  go_ret
  exact ⟨rfl, HF12.out⟩
set_option maxHeartbeats 4000000 in
set_option maxRecDepth 100000 in
theorem TokenTells_walk (w : World) (hL : laidMetH Tryd.prog Rows.tokenTellsRow.laid w) (s : ByteArray) (hs : s.size ≤ 140737488351232) (t : ByteArray) (ht : t.size ≤ 140737488351232) (a0 : Int) (ha : Bd .u64 a0) :
    Calls Tryd.prog 4 #[.string s, .string t, .int .u64 a0] w fun e w' => e = .returned (.bool true) ∧ Fr [] w w' := by
  have hP := pow10_list w hL
  clear hL
  obtain ⟨a, rfl⟩ : ∃ a : Nat, a0 = a := ⟨a0.toNat, by have := ha.u64; omega⟩
  have ha2 : a < 18446744073709551616 := by have := ha.u64; omega
  have HA := Lib.hid (fun W (h : Pow10 W) => Code_calls W a ha2 h)
  have HB := Lib.hid (fun W => RCode_calls W a ha2)
  generalize codeB (a % 1000000) = c at HA HB
  have HSH := Lib.hid (And.intro (fun W => short08_calls s 60 60 rfl W (by omega) (by decide)) (fun W => short08_calls t 60 60 rfl W (by omega) (by decide)))
  have hx := shortB_size s 60
  have hy := shortB_size t 60
  generalize shortB s 60 = x at HSH hx
  generalize shortB t 60 = y at HSH hy
  have HX := Lib.hid (fun W => tells_calls W x hx)
  have HY := Lib.hid (fun W => tells_calls W y hy)
  have HP := Lib.hid hP
  clear hP ha ha2 hs ht hx hy
  go_enter Tryd.func4, Tryd.ntmps4
  go_wp2_with fail
  (with_reducible refine (awake08_calls _).mono ?_)
  rintro e w1 ⟨rfl, hf1⟩
  have HF1 := Lib.hid hf1
  clear hf1
  go_wp2_with fail
  (with_reducible refine (HSH.out.1 _).mono ?_)
  rintro e w2 ⟨rfl, rfl⟩
  go_wp2_with fail
  (with_reducible refine (HSH.out.2 _).mono ?_)
  rintro e w3 ⟨rfl, rfl⟩
  go_wp2_with fail
  (with_reducible refine (HX.out _).mono ?_)
  rintro e w4 ⟨rfl, hf4⟩
  have HF4 := Lib.hid (HF1.out.then hf4)
  clear hf4 HF1
  go_wp2_with fail
  (with_reducible refine (HY.out _).mono ?_)
  rintro e w5 ⟨rfl, hf5⟩
  have HF5 := Lib.hid (HF4.out.then hf5)
  clear hf5 HF4
  go_wp2_with fail
  (with_reducible refine (HA.out _ (tabIs_fr HP.out HF5.out)).mono ?_)
  rintro e w6 ⟨rfl, hf6⟩
  have HF6 := Lib.hid (HF5.out.then hf6)
  clear hf6 HF5
  go_wp2_with fail
  (with_reducible refine (HB.out _).mono ?_)
  rintro e w7 ⟨rfl, hf7⟩
  have HF7 := Lib.hid (HF6.out.then hf7)
  clear hf7 HF6
  go_wp2_with fail
  go_ret
  exact ⟨rfl, HF7.out⟩
end Go.Proofs.YtbfpfmnkmpcgpaaDoor
