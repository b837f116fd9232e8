/- Contracts of sha.Meter's methods. -/
import Derived.Test.YtlcfambhjclkiaaShaHex
import Derived.Test.YtlcfambhjclkiaaVar
import Derived.Laws.LoneSync
namespace Go.Proofs.Ytlcfambhjclkiaa
open Go.RowKit
set_option linter.unusedVariables false
set_option linter.unusedSimpArgs false

set_option maxHeartbeats 1000000 in
set_option maxRecDepth 100000 in
theorem ALoad_calls (w : World) (b : Nat) (n : Int) (h : VarV 40 w b (.int .i64 n)) :
    Calls Try.prog 42 #[.pointer (some ⟨b, 0, none⟩)] w fun e w' => e = .returned (.int .i64 n) ∧ w = w' := by
  have hl := run_call_load (P := Try.prog) Try.func56 (by kernel_rfl) (by kernel_rfl) (by kernel_rfl) .i64 (by kernel_rfl) h.cell
  go_enter Try.func42, Try.ntmps42
  go_wp2
  go_ret
  exact ⟨rfl, rfl⟩
set_option maxHeartbeats 1000000 in
set_option maxRecDepth 100000 in
theorem AAdd_calls (w : World) (b : Nat) (n : Nat) (hn : n ≤ 1000000) (h : VarV 40 w b (.int .i64 (n : Int))) :
    Calls Try.prog 41 #[.pointer (some ⟨b, 0, none⟩), .int .i64 1] w fun e w' => e = .returned (.int .i64 ((n : Int) + 1)) ∧ w' = w.setCell ⟨b, 0, none⟩ (.int .i64 ((n : Int) + 1)) := by
  have hw : IntKind.i64.wrap ((n : Int) + 1) = (n : Int) + 1 := by rw [IntKind.wrap_i64]; omega
  have hadd := run_call_add (P := Try.prog) Try.func55 (by kernel_rfl) (by kernel_rfl) (by kernel_rfl) .i64 (by kernel_rfl) (y := 1) (s := (n : Int) + 1) h.cell (h.frozen 0) (by simp [go_sem, hw])
  clear hw
  go_enter Try.func41, Try.ntmps41
  go_wp2
  go_ret
  exact ⟨rfl, rfl⟩

/-- A meter at an address, or none: what it has counted. -/
def MtR (w : World) (m : Option Nat) (n : Nat) : Prop := match m with | none => n = 0 | some b => VarV 40 w b (.int .i64 (n : Int))
def mtP (m : Option Nat) : Value := .pointer (m.map fun b => ⟨b, 0, none⟩)
/-- One digest more. -/
def mtN (m : Option Nat) (n : Nat) : Nat := match m with | none => 0 | some _ => n + 1
theorem MtR.keep {w w' : World} {m : Option Nat} {n : Nat} {S : List Nat} (h : MtR w m n) (hf : Fr S w w') (hd : ∀ b, m = some b → b ∉ S) : MtR w' m n := by
  cases m with
  | none => exact h
  | some b => exact VarV.keep h hf (hd b rfl)

set_option maxHeartbeats 1000000 in
set_option maxRecDepth 100000 in
theorem MSum_calls (w : World) (m : Option Nat) (n : Nat) (hn : n ≤ 1000000) (hm : MtR w m n) (A : Option Addr) (c : Nat) (l : List ByteArray) (hA : RdV w A (l.map .string)) (hsp : ∀ ad, A = some ad → ad.spot = none) (hAm : ∀ ad b, A = some ad → m = some b → ad.block ≠ b) (hc : l.length ≤ c) (hl : l.length ≤ 1000000) (hs : (catB l).size ≤ 1000000) :
    Calls Try.prog 20 #[mtP m, .slice A l.length c] w fun e w' => e = .returned (.string (shaSum (catB l))) ∧ MtR w' m (mtN m n) ∧ Fr m.toList w w' := by
  cases m with
  | none =>
    have HS := Lib.hid (Sum_calls' w A c l hA hsp hc hl hs)
    generalize hd : shaSum (catB l) = d at HS
    have HD := Lib.hid hd
    have hmp : mtP none = .pointer none := rfl
    rw [hmp]
    clear hd hA hsp hAm hm hs hmp
    go_enter Try.func20, Try.ntmps20
    go_wp2_with fail
    (with_reducible refine HS.out.mono ?_)
    rintro e w1 ⟨rfl, hf1⟩
    have HF := Lib.hid hf1
    clear hf1
    go_wp2_with fail
    go_ret
    exact ⟨rfl, rfl, HF.out⟩
  | some b =>
    have hv : VarV 40 w b (.int .i64 (n : Int)) := hm
    have HA := Lib.hid (AAdd_calls w b n hn hv)
    have hf0 : Fr [b] w (w.setCell ⟨b, 0, none⟩ (.int .i64 ((n : Int) + 1))) := (Fr.refl _ _).setCell (.inl (by simp)) _
    have hA2 := hA.keep hf0 (fun ad ha => by simp; exact hAm ad b ha rfl)
    have hv2 : VarV 40 (w.setCell ⟨b, 0, none⟩ (.int .i64 ((n : Int) + 1))) b (.int .i64 ((n : Int) + 1)) := hv.set _
    have HS := Lib.hid (Sum_calls' _ A c l hA2 hsp hc hl hs)
    have HV := Lib.hid (And.intro hv2 hf0)
    generalize hd : shaSum (catB l) = d at HS
    have HD := Lib.hid hd
    have hmp : mtP (some b) = .pointer (some ⟨b, 0, none⟩) := rfl
    rw [hmp]
    clear hd hA hA2 hsp hAm hm hs hmp hf0 hv hv2
    go_enter Try.func20, Try.ntmps20
    go_wp2_with fail
    (with_reducible refine HA.out.mono ?_)
    rintro e w1 ⟨rfl, rfl⟩
    go_wp2_with fail
    (with_reducible refine HS.out.mono ?_)
    rintro e w1 ⟨rfl, hf1⟩
    have HF := Lib.hid hf1
    clear hf1
    go_wp2_with fail
    go_ret
    refine ⟨rfl, ?_, HV.out.2.then HF.out⟩
    have := HV.out.1.keep HF.out (by simp)
    show VarV _ _ _ _
    simpa [mtN] using this
set_option maxHeartbeats 1000000 in
set_option maxRecDepth 100000 in
theorem MCount_calls (w : World) (m : Option Nat) (n : Nat) (hn : n ≤ 1000000) (hm : MtR w m n) :
    Calls Try.prog 21 #[mtP m] w fun e w' => e = .returned (.int .i64 (n : Int)) ∧ w = w' := by
  cases m with
  | none =>
    obtain rfl : n = 0 := hm
    have hmp : mtP none = .pointer none := rfl
    rw [hmp]
    go_enter Try.func21, Try.ntmps21
    go_wp2
    go_ret
    exact ⟨rfl, rfl⟩
  | some b =>
    have hv : VarV 40 w b (.int .i64 (n : Int)) := hm
    have HA := Lib.hid (ALoad_calls w b n hv)
    have hmp : mtP (some b) = .pointer (some ⟨b, 0, none⟩) := rfl
    rw [hmp]
    clear hm hv hmp
    go_enter Try.func21, Try.ntmps21
    go_wp2_with fail
    (with_reducible refine HA.out.mono ?_)
    rintro e w1 ⟨rfl, rfl⟩
    go_wp2_with fail
    go_ret
    exact ⟨rfl, rfl⟩

end Go.Proofs.Ytlcfambhjclkiaa
