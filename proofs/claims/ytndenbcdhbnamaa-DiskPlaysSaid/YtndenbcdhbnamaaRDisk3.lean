/- The contracts of the document's Break and of the program's Break for any number. -/
import Derived.Test.YtndenbcdhbnamaaRDisk2
namespace Go.Proofs.Ytndenbcdhbnamaa
open Go.RowKit
set_option linter.unusedVariables false
set_option linter.unusedSimpArgs false

/-- The steps left behind Break. -/
def brkL (n : Int) : Int := if n < 0 then 0 else n
set_option maxRecDepth 100000 in
theorem rbreak_calls (w : World) (b : Nat) (vs : Value) (rs : List Nat) (v : Value) (r : List Nat) (st : ByteArray) (wl : List (Nat × ByteArray)) (left : Int) (h : RK w b vs rs v r st wl left false) (n : Int) (hn : Bd .i64 n) :
    Calls Try.prog 23 #[.pointer (some ⟨b, 0, none⟩), .int .i64 n] w fun e w' => e = .returned (.tuple #[]) ∧ RK w' b vs rs v r st wl (brkL n) false ∧ Fr [b] w w' := by
  have c3 : w.cell? ⟨b, 2, none⟩ = some (.int .i64 left) := by rw [Lib.cell_of_heap h.blk]; rfl
  have c4 : w.cell? ⟨b, 3, none⟩ = some (.bool false) := by rw [Lib.cell_of_heap h.blk]; rfl
  have z3 := Lib.frozen_of_heap h.blk 2
  have ⟨hn0, hn1⟩ := hn.i64
  have HS := Lib.hid (fun W l d => h.put (W := W) l d)
  have HB := Lib.hid h.blk
  clear h hn
  by_cases h0 : n < 0
  · have e : brkL n = 0 := if_pos h0
    rw [e]
    clear e
    go_enter Try.func23, Try.ntmps23
    go_wp2
    go_end0
    refine ⟨rfl, HS.out _ _ _ ?_ ?_ (by decide) (by decide)⟩
    · simp [World.setCell, Array.getElem?_modify, HB.out]
    · exact ((Fr.refl _ _).setCell (.inl (by simp)) _).setCell (.inl (by simp)) _
  · have e : brkL n = n := if_neg h0
    rw [e]
    clear e
    have h1 : 0 ≤ n := by omega
    go_enter Try.func23, Try.ntmps23
    go_wp2
    go_end0
    refine ⟨rfl, HS.out _ _ _ ?_ ?_ h1 (by omega)⟩
    · simp [World.setCell, Array.getElem?_modify, HB.out]
    · exact (Fr.refl _ _).setCell (.inl (by simp)) _
set_option maxRecDepth 100000 in
theorem rbreak_bad (w : World) (b : Nat) (vs : Value) (rs : List Nat) (v : Value) (r : List Nat) (st : ByteArray) (wl : List (Nat × ByteArray)) (left : Int) (h : RK w b vs rs v r st wl left true) (n : Int) :
    Calls Try.prog 23 #[.pointer (some ⟨b, 0, none⟩), .int .i64 n] w fun e w' => e = .returned (.tuple #[]) ∧ w' = w := by
  have c4 : w.cell? ⟨b, 3, none⟩ = some (.bool true) := by rw [Lib.cell_of_heap h.blk]; rfl
  clear h
  go_enter Try.func23, Try.ntmps23
  go_wp2
  go_end0
  exact ⟨rfl, rfl⟩
end Go.Proofs.Ytndenbcdhbnamaa
