/- The law EventBack: for any events and any byte the Go function returns true (its walk). -/
import Derived.Test.YtngonnnjehlfbaaEvPure
import Derived.Test.YtngonnnjehlfbaaEvRight
import Derived.Test.YtngonnnjehlfbaaEvSame
import Derived.Test.YtngonnnjehlfbaaRef03W
namespace Go.Proofs.Ytngonnnjehlfbaa
open Go.RowKit
set_option linter.unusedVariables false
set_option linter.unusedSimpArgs false

set_option maxHeartbeats 4000000 in
set_option maxRecDepth 100000 in
theorem EventBack_core (w : World) (A : Option Addr) (cap : Nat) (l : List Ev) (hr : EvR w A l) (hb : ∀ e, e ∈ l → e.bd) (hl : l.length ≤ maxLen) (c : Int) (hc : Bd .u8 c) :
    Calls Try.prog 13 #[.slice A l.length cap, .int .u8 c] w fun e w' => e = .returned (.bool true) ∧ Fr [] w w' := by
  obtain ⟨hc0, hc1⟩ := hc.u8
  have hcv : ∀ (W : World) (b : Nat), W.cell? ⟨b, 0, none⟩ = some (.int .u8 c) → (convert 26 9 (.slice (some ⟨b, 0, none⟩) 1 1)).run Try.prog W = .ok (.string (bOf c)) W := fun W b h => run_toString1 hc0 hc1 h
  have hbz : (bOf c).size = 1 := bOf_size c
  have HCV := Lib.hid hcv
  clear hcv hc
  go_enter Try.func13, Try.ntmps13
  go_wp2_with fail
  (with_reducible refine (awake15_calls _).mono ?_)
  rintro e w1 ⟨rfl, hf1⟩
  go_wp2_with fail
  (with_reducible refine (right_calls _ A cap l (hr.keep hf1 (by simp)) hb hl).mono ?_)
  rintro e w2 ⟨v, r, rfl, hsr, hf2, hnew⟩
  have hok := evRights_ok l
  have h24 := evRights_length l
  generalize evRights l = m at *
  obtain ⟨A1, c1, rfl, -, -, hrd, -⟩ := hsr.reads
  have her := EvR.of_flat hrd
  have hF2 := hf1.then hf2
  have hsh : ∀ e, e ∈ m → e.short 140737488351232 := by
    intro e he
    obtain ⟨_, h1, h2, h3⟩ := Ev.ok_iff (hok e he)
    exact ⟨by omega, by omega, by omega⟩
  have hsz := evsB_size m hok
  have hq10 := numB_size m.length (by omega)
  have hbt := fun W h => Batch_calls W A1 c1 m h hsh (by simp only [maxLen]; omega)
  have HBT := Lib.hid hbt
  have HOK := Lib.hid hok
  clear hsr hrd hnew hf1 hf2 hr hb hl hsh hbt hok
  go_wp2_with fail
  (with_reducible refine (HBT.out _ her).mono ?_)
  rintro e w3 ⟨rfl, hf3⟩
  have her := her.keep hf3 (by simp)
  have hF3 := hF2.then hf3
  clear hF2 hf3 HBT
  by_cases h0 : m.length = 0
  · have he : evBatch m = (⟨#[]⟩, 1) := if_neg (fun h => by omega)
    have hm0 : m = [] := List.eq_nil_of_length_eq_zero h0
    rw [he]
    have hz : ((m.length : Int) == 0) = true := beq_iff_eq.2 (by omega)
    have hR1 := fun W => ERead_calls W ⟨#[]⟩ (by decide)
    rw [evRead_empty] at hR1
    have hR2 := fun W => ERead_calls W ((⟨#[]⟩ : ByteArray) ++ bOf c) (by rw [nil_app]; omega)
    have HR1 := Lib.hid hR1
    have HR2 := Lib.hid hR2
    clear he hR1 hR2 hm0 hsz hq10
    go_wp2_with fail
    (with_reducible refine (HR1.out _).mono ?_)
    rintro e w4 ⟨v, r4, rfl, hsr, hf4, -⟩
    obtain ⟨A2, c2, rfl, -, -, -, -⟩ := hsr.reads
    have hF4 := hF3.then hf4
    have hcv := HCV.out (w4.alloc (.cells #[.int .u8 c] 5)) w4.heap.size (by simp)
    clear hF3 hf4 hsr
    go_wp2_with fail
    (with_reducible refine (HR2.out _).mono ?_)
    rintro e w5 ⟨v, r5, rfl, hsr, hf5, -⟩
    have hF5 := (hF4.alloc _).then hf5
    obtain ⟨A3, c3, rfl, -, -, -, -⟩ := hsr.reads
    clear hF4 hf5 hsr HR1 HR2 hcv
    go_wp2_with fail
    go_ret
    exact ⟨rfl, hF5⟩
  · have hall : m.all Ev.ok = true := List.all_eq_true.2 HOK.out
    have he : evBatch m = (numB m.length ++ evsB m, 0) := if_pos ⟨by omega, h24, hall⟩
    rw [he]
    have hz : ((m.length : Int) == 0) = false := beq_eq_false_iff_ne.2 (by omega)
    have h1 := evRead_wrote m ⟨#[]⟩ HOK.out (by omega) h24
    have h2 := evRead_wrote m (bOf c) HOK.out (by omega) h24
    rw [app_nil, if_pos (show (⟨#[]⟩ : ByteArray).size = 0 from rfl)] at h1
    rw [if_neg (by omega)] at h2
    have hts : (numB m.length ++ evsB m).size ≤ 10000 := by rw [ByteArray.size_append]; omega
    generalize numB m.length ++ evsB m = t at *
    have hR1 := fun W => ERead_calls W t (by omega)
    rw [h1] at hR1
    have hR2 := fun W => ERead_calls W (t ++ bOf c) (by rw [ByteArray.size_append]; omega)
    rw [h2] at hR2
    have hadd : (9223372036854775807 < t.size + (bOf c).size) = False := eq_false (by omega)
    have HR1 := Lib.hid hR1
    have HR2 := Lib.hid hR2
    clear he hR1 hR2 hsz hq10 h1 h2 hall
    go_wp2_with fail
    (with_reducible refine (HR1.out _).mono ?_)
    rintro e w4 ⟨v, r4, rfl, hsr, hf4, -⟩
    obtain ⟨A2, c2, rfl, -, -, hrd, -⟩ := hsr.reads
    have hery := EvR.of_flat hrd
    have her := her.keep hf4 (by simp)
    have hF4 := hF3.then hf4
    have hcv := HCV.out (w4.alloc (.cells #[.int .u8 c] 5)) w4.heap.size (by simp)
    clear hF3 hf4 hsr hrd HR1
    go_wp2_with fail
    (with_reducible refine (HR2.out _).mono ?_)
    rintro e w5 ⟨v, r5, rfl, hsr, hf5, -⟩
    have hfa := ((Fr.refl [] w4).alloc (.cells #[.int .u8 c] 5)).then hf5
    have her := her.keep hfa (by simp)
    have hery := hery.keep hfa (by simp)
    have hF5 := hF4.then hfa
    obtain ⟨A3, c3, rfl, -, -, -, -⟩ := hsr.reads
    clear hF4 hf5 hfa hsr HR2 hcv hadd
    go_wp2_with fail
    (with_reducible refine (Same15_calls _ A1 A2 c1 c2 m her hery (by simp only [maxLen]; omega)).mono ?_)
    rintro e w6 ⟨rfl, hf6⟩
    have hF6 := hF5.then hf6
    clear hF5 hf6 her hery
    go_wp2_with fail
    go_ret
    exact ⟨rfl, hF6⟩
theorem EventBack_walk (w : World) (A : Option Addr) (cap : Nat) (l : List (List Value)) (hr : RdR w A 8 l) (hrow : ∀ row, row ∈ l → FRow [.int .i64, .int .i64, .int .i64, .int .i64, .int .i64, .str, .str, .str] row) (hl : l.length ≤ maxLen) (c : Int) (hc : Bd .u8 c) :
    Calls Try.prog 13 #[.slice A l.length cap, .int .u8 c] w fun e w' => e = .returned (.bool true) ∧ Fr [] w w' := by
  obtain ⟨es, rfl, hlen, hbd⟩ := Ev.of_rows l hrow
  rw [List.length_map] at hl ⊢
  exact EventBack_core w A cap es (EvR.of_rdr hr) hbd hl c hc
end Go.Proofs.Ytngonnnjehlfbaa
