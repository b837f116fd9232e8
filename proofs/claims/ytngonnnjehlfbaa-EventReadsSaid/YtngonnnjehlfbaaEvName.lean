/- The contract of event.Name. -/
import Derived.Test.YtngonnnjehlfbaaEvent2
import Derived.Laws.Tables
import Derived.Great.BuildSlice
import Derived.KernelRfl
namespace Go.Proofs.Ytngonnnjehlfbaa
open Go.RowKit
set_option linter.unusedVariables false
set_option linter.unusedSimpArgs false

def evNames : List ByteArray := [⟨#[]⟩, ⟨#[115, 105, 103, 110, 117, 112]⟩, ⟨#[118, 101, 114, 105, 102, 105, 101, 100]⟩, ⟨#[112, 97, 115, 115, 119, 111, 114, 100]⟩, ⟨#[109, 105, 115, 115, 101, 100]⟩, ⟨#[112, 97, 115, 115, 101, 100]⟩, ⟨#[109, 111, 118, 101, 100]⟩, ⟨#[99, 111, 110, 116, 97, 99, 116]⟩, ⟨#[115, 101, 115, 115, 105, 111, 110]⟩, ⟨#[114, 101, 118, 111, 107, 101, 100]⟩, ⟨#[115, 101, 99, 114, 101, 116]⟩, ⟨#[117, 115, 101, 100]⟩, ⟨#[116, 114, 105, 101, 100]⟩, ⟨#[100, 114, 111, 112, 112, 101, 100]⟩, ⟨#[111, 119, 101, 100]⟩, ⟨#[116, 97, 107, 101, 110]⟩, ⟨#[102, 97, 105, 108, 101, 100]⟩, ⟨#[99, 97, 115, 101]⟩, ⟨#[118, 111, 117, 99, 104, 101, 100]⟩, ⟨#[99, 97, 110, 99, 101, 108, 108, 101, 100]⟩, ⟨#[114, 101, 99, 111, 118, 101, 114, 101, 100]⟩, ⟨#[115, 116, 97, 114, 116, 101, 100]⟩]
def evVals : Array Value := #[.string ⟨#[]⟩, .string ⟨#[115, 105, 103, 110, 117, 112]⟩, .string ⟨#[118, 101, 114, 105, 102, 105, 101, 100]⟩, .string ⟨#[112, 97, 115, 115, 119, 111, 114, 100]⟩, .string ⟨#[109, 105, 115, 115, 101, 100]⟩, .string ⟨#[112, 97, 115, 115, 101, 100]⟩, .string ⟨#[109, 111, 118, 101, 100]⟩, .string ⟨#[99, 111, 110, 116, 97, 99, 116]⟩, .string ⟨#[115, 101, 115, 115, 105, 111, 110]⟩, .string ⟨#[114, 101, 118, 111, 107, 101, 100]⟩, .string ⟨#[115, 101, 99, 114, 101, 116]⟩, .string ⟨#[117, 115, 101, 100]⟩, .string ⟨#[116, 114, 105, 101, 100]⟩, .string ⟨#[100, 114, 111, 112, 112, 101, 100]⟩, .string ⟨#[111, 119, 101, 100]⟩, .string ⟨#[116, 97, 107, 101, 110]⟩, .string ⟨#[102, 97, 105, 108, 101, 100]⟩, .string ⟨#[99, 97, 115, 101]⟩, .string ⟨#[118, 111, 117, 99, 104, 101, 100]⟩, .string ⟨#[99, 97, 110, 99, 101, 108, 108, 101, 100]⟩, .string ⟨#[114, 101, 99, 111, 118, 101, 114, 101, 100]⟩, .string ⟨#[115, 116, 97, 114, 116, 101, 100]⟩]
/-- A kind's name. -/
def evName (k : Int) : ByteArray := if k < 0 then ⟨#[]⟩ else (evNames[k.toNat]?).getD ⟨#[]⟩
theorem setRow_fr {S : List Nat} {a w : World} (b : Nat) (vs : Array Value) (h : Fr S a w) (hb : b ∈ S ∨ a.heap.size ≤ b) : Fr S a (w.setRow b vs) :=
  ⟨h.os, h.tape, h.output, by rw [setRow_size]; exact h.size, fun k hk hk2 => by rw [setRow_other w b k vs (by rintro rfl; rcases hb with h | h; exact hk2 h; omega)]; exact h.block k hk hk2⟩
theorem ev_one : evVals.all (·.oneCell') = true := by kernel_rfl
theorem ev_map : evVals.toList = evNames.map .string := rfl
set_option maxHeartbeats 2000000 in
set_option maxRecDepth 100000 in
theorem Name_core (V : Array Value) (hV : V = evVals) (w : World) (k : Int) (h0 : -9223372036854775808 ≤ k) (h1 : k ≤ 9223372036854775807) :
    Calls Try.prog 26 #[.int .i64 k] w fun e w' => e = .returned (.string (evName k)) ∧ Fr [] w w' := by
  have hi : (Try.prog.info? 85).map (·.size) = some V.size := by rw [hV]; kernel_rfl
  have h22 : V.size = 22 := by rw [hV]; rfl
  have h1c : V.all (·.oneCell') = true := by rw [hV]; exact ev_one
  have hf : ∀ Z, Fr [] w ((w.alloc Z).setRow w.heap.size V) := fun Z => setRow_fr _ _ ((Fr.refl _ _).alloc _) (.inr (Nat.le_refl _))
  have HI := Lib.hid hi
  have H22 := Lib.hid h22
  have HF := Lib.hid hf
  have H1C := Lib.hid h1c
  have HV := Lib.hid hV
  clear hi h22 hf h1c hV
  have hnew := fun cs => heap_alloc_new w (.cells cs 85)
  have HN := Lib.hid hnew
  clear hnew
  by_cases hneg : k < 0
  · have hn : evName k = ⟨#[]⟩ := by rw [evName, if_pos hneg]
    rw [hn]
    clear hn
    go_enter Try.func26, Try.ntmps26
    go_wp2_with (first | (refine wpList_buildTo rfl _ _ rfl (some 4) rfl V (by rw [HV.out]; kernel_rfl) ?_) | (refine wpList_store_row rfl _ _ _ rfl w.heap.size V rfl rfl 85 _ (HN.out _) HI.out (by rw [H22.out]; rfl) H1C.out ?_))
    go_ret
    exact ⟨rfl, HF.out _⟩
  · obtain ⟨m, rfl⟩ := Int.eq_ofNat_of_zero_le (by omega : 0 ≤ k)
    by_cases hbig : 22 ≤ m
    · have hn : evName m = ⟨#[]⟩ := by
        rw [evName, if_neg hneg, List.getElem?_eq_none (by simp [evNames]; omega)]
        rfl
      rw [hn]
      clear hn hneg
      go_enter Try.func26, Try.ntmps26
      go_wp2_with (first | (refine wpList_buildTo rfl _ _ rfl (some 4) rfl V (by rw [HV.out]; kernel_rfl) ?_) | (refine wpList_store_row rfl _ _ _ rfl w.heap.size V rfl rfl 85 _ (HN.out _) HI.out (by rw [H22.out]; rfl) H1C.out ?_))
      go_ret
      exact ⟨rfl, HF.out _⟩
    · have hn : ∃ s, evNames[m]? = some s := ⟨_, List.getElem?_eq_getElem (by simp [evNames]; omega)⟩
      obtain ⟨s, hs⟩ := hn
      have hn2 : evName m = s := by
        rw [evName, if_neg hneg, Int.toNat_natCast, hs]
        rfl
      rw [hn2]
      have hcell : ∀ (cs : Array Value), ((w.alloc (.cells cs 85)).setRow w.heap.size V).cell? ⟨w.heap.size, m, none⟩ = some (.string s) := by
        intro cs
        rw [cell_setRow_same _ _ _ cs V 85 (0, 0) (HN.out _), HV.out, ← Array.getElem?_toList, ev_map, List.getElem?_map, hs]
        rfl
      have hm0 : (0 : Int) ≤ (m : Int) := by omega
      have hm1 : (m : Int) < 22 := by omega
      clear hn2 hneg hs
      go_enter Try.func26, Try.ntmps26
      go_wp2_with (first | (refine wpList_buildTo rfl _ _ rfl (some 4) rfl V (by rw [HV.out]; kernel_rfl) ?_) | (refine wpList_store_row rfl _ _ _ rfl w.heap.size V rfl rfl 85 _ (HN.out _) HI.out (by rw [H22.out]; rfl) H1C.out ?_))
      go_ret
      exact ⟨rfl, HF.out _⟩
theorem Name_calls (w : World) (k : Int) (h0 : -9223372036854775808 ≤ k) (h1 : k ≤ 9223372036854775807) :
    Calls Try.prog 26 #[.int .i64 k] w fun e w' => e = .returned (.string (evName k)) ∧ Fr [] w w' := Name_core _ rfl w k h0 h1
end Go.Proofs.Ytngonnnjehlfbaa
