/- The contract of the document's step and Break. -/
import Derived.Test.YtndenbcdhbnamaaRDisk1
namespace Go.Proofs.Ytndenbcdhbnamaa
open Go.RowKit
set_option linter.unusedVariables false
set_option linter.unusedSimpArgs false

theorem RK.put {w W : World} {b : Nat} {vs v : Value} {rs r : List Nat} {st : ByteArray} {wl : List (Nat × ByteArray)} {left : Int} {bad : Bool} (h : RK w b vs rs v r st wl left bad) (l : Int) (d : Bool)
    (hb : W.heap[b]? = some (.cells #[vs, v, .int .i64 l, .bool d] 51 (0, 0))) (hf : Fr [b] w W) (h0 : 0 ≤ l) (h1 : l ≤ 9223372036854775807) : RK W b vs rs v r st wl l d ∧ Fr [b] w W :=
  ⟨⟨hb, h.stay.keep hf (fun k hk => by simp; rintro rfl; exact h.nr.1 hk), h.wait.keep hf (fun k hk => by simp; rintro rfl; exact h.nr.2.1 hk), h.big, h.most, h.fit, h0, h1, h.nr⟩, hf⟩
set_option maxRecDepth 100000 in
theorem rstep_calls (w : World) (b : Nat) (vs : Value) (rs : List Nat) (v : Value) (r : List Nat) (st : ByteArray) (wl : List (Nat × ByteArray)) (left : Int) (h : RK w b vs rs v r st wl left false) :
    Calls Try.prog 33 #[.pointer (some ⟨b, 0, none⟩)] w fun e w' => e = .returned (.tuple #[.bool (stepB left false), .bool false]) ∧ RK w' b vs rs v r st wl (stepL left) (stepB left false) ∧ Fr [b] w w' := by
  have c3 : w.cell? ⟨b, 2, none⟩ = some (.int .i64 left) := by rw [Lib.cell_of_heap h.blk]; rfl
  have c4 : w.cell? ⟨b, 3, none⟩ = some (.bool false) := by rw [Lib.cell_of_heap h.blk]; rfl
  have z3 := Lib.frozen_of_heap h.blk 2
  have z4 := Lib.frozen_of_heap h.blk 3
  have hl0 := h.left0
  have hl1 := h.left1
  have HS := Lib.hid (fun W l d => h.put (W := W) l d)
  have HB := Lib.hid h.blk
  clear h
  by_cases h2 : left = 0
  · subst h2
    go_enter Try.func33, Try.ntmps33
    go_wp2
    go_ret2
    exact ⟨rfl, HS.out _ _ _ HB.out (Fr.refl _ _) (by decide) (by decide)⟩
  · by_cases h1 : left = 1
    · subst h1
      go_enter Try.func33, Try.ntmps33
      go_wp2
      go_ret2
      refine ⟨rfl, HS.out _ _ _ ?_ ?_ (by decide) (by decide)⟩
      · simp [World.setCell, Array.getElem?_modify, HB.out, stepL, stepB]
      · exact ((Fr.refl _ _).setCell (.inl (by simp)) _).setCell (.inl (by simp)) _
    · have b0 : (left - 1 == 0) = false := beq_eq_false_iff_ne.2 (by omega)
      have hl' : stepL left = left - 1 := if_neg (by omega)
      have e1 : stepB left false = false := by
        have : (left == 1) = false := beq_eq_false_iff_ne.2 h1
        rw [stepB, this, Bool.or_false]
      have hlp : 0 < left := by omega
      rw [hl', e1]
      have h3 : 0 ≤ left - 1 := by omega
      have h4 : left - 1 ≤ 9223372036854775807 := by omega
      clear hl' e1
      go_enter Try.func33, Try.ntmps33
      go_wp2
      go_ret2
      refine ⟨rfl, HS.out _ _ _ ?_ ?_ h3 h4⟩
      · simp [World.setCell, Array.getElem?_modify, HB.out]
      · exact (Fr.refl _ _).setCell (.inl (by simp)) _
set_option maxRecDepth 100000 in
theorem rstep_bad (w : World) (b : Nat) (vs : Value) (rs : List Nat) (v : Value) (r : List Nat) (st : ByteArray) (wl : List (Nat × ByteArray)) (left : Int) (h : RK w b vs rs v r st wl left true) :
    Calls Try.prog 33 #[.pointer (some ⟨b, 0, none⟩)] w fun e w' => e = .returned (.tuple #[.bool true, .bool true]) ∧ w' = w := by
  have c4 : w.cell? ⟨b, 3, none⟩ = some (.bool true) := by rw [Lib.cell_of_heap h.blk]; rfl
  clear h
  go_enter Try.func33, Try.ntmps33
  go_wp2
  go_ret2
  exact ⟨rfl, rfl⟩
end Go.Proofs.Ytndenbcdhbnamaa
