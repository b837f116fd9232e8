/- Contracts of the disk where nothing is done: places that are not the disk's; the Sync in which it breaks; Break by any number. -/
import Derived.Test.YtembnjpflllpbaaDisk7
import Derived.Test.YtembnjpflllpbaaRDiskP
namespace Go.Proofs.Ytembnjpflllpbaa
open Go.RowKit
set_option linter.unusedVariables false
set_option linter.unusedSimpArgs false

set_option maxRecDepth 100000 in
theorem Write_arg_calls (w : World) (b ps pn : Nat) (v : Value) (r : List Nat) (st nw : ByteArray) (wl : List (Nat × ByteArray)) (left : Int) (bad : Bool) (h : DK w b ps pn v r st nw wl left bad) (k : Int) (hk : Bd .i64 k) (s : ByteArray) (hs : s.size ≤ 9223372036854775807) (hn : ¬ (0 ≤ k ∧ (0 : Int) ≤ (s.size : Int) ∧ k ≤ (st.size : Int) - (s.size : Int))) :
    Calls Try.prog 42 #[.pointer (some ⟨b, 0, none⟩), .int .i64 k, .string s] w fun e w' => e = .returned (.int .i64 1) ∧ w = w' := by
  have HM := Lib.hid (may_calls w b ps pn v r st nw wl left bad h k (s.size : Int) hk (Bd.of_i64 (by omega) (by omega)))
  rw [decide_eq_false hn] at HM
  clear h hn
  go_enter Try.func42, Try.ntmps42
  go_wp2_with fail
  (with_reducible refine HM.out.mono ?_)
  rintro e w' ⟨rfl, rfl⟩
  go_wp2
  go_ret
  exact ⟨rfl, rfl⟩
set_option maxRecDepth 100000 in
theorem Read_arg_calls (w : World) (b ps pn : Nat) (v : Value) (r : List Nat) (st nw : ByteArray) (wl : List (Nat × ByteArray)) (left : Int) (bad : Bool) (h : DK w b ps pn v r st nw wl left bad) (k n : Int) (hk : Bd .i64 k) (hn' : Bd .i64 n) (hn : ¬ (0 ≤ k ∧ 0 ≤ n ∧ k ≤ (st.size : Int) - n)) :
    Calls Try.prog 48 #[.pointer (some ⟨b, 0, none⟩), .int .i64 k, .int .i64 n] w fun e w' => e = .returned (.tuple #[.string ⟨#[]⟩, .int .i64 1]) ∧ w = w' := by
  have HM := Lib.hid (may_calls w b ps pn v r st nw wl left bad h k n hk hn')
  rw [decide_eq_false hn] at HM
  clear h hn
  go_enter Try.func48, Try.ntmps48
  go_wp2_with fail
  (with_reducible refine HM.out.mono ?_)
  rintro e w' ⟨rfl, rfl⟩
  go_wp2
  go_ret2
  exact ⟨rfl, rfl⟩
set_option maxRecDepth 100000 in
theorem Sync_break_calls (w : World) (b ps pn : Nat) (v : Value) (r : List Nat) (st nw : ByteArray) (wl : List (Nat × ByteArray)) (h : DK w b ps pn v r st nw wl 1 false) :
    Calls Try.prog 44 #[.pointer (some ⟨b, 0, none⟩)] w fun e w' => e = .returned (.int .i64 18) ∧ DK w' b ps pn v r st nw wl 0 true ∧ Fr [b] w w' := by
  have c4 : w.cell? ⟨b, 4, none⟩ = some (.bool false) := by rw [Lib.cell_of_heap h.blk]; rfl
  have HST := Lib.hid (step_calls w b ps pn v r st nw wl 1 false h)
  rw [show stepL 1 = 0 from rfl, show stepB 1 false = true from rfl] at HST
  clear h
  go_enter Try.func44, Try.ntmps44
  go_wp2_with fail
  (with_reducible refine HST.out.mono ?_)
  rintro e w1 ⟨rfl, h1, hf1⟩
  have H := Lib.hid (And.intro h1 hf1)
  clear h1 hf1 HST
  go_wp2_with fail
  go_ret
  exact ⟨rfl, H.out⟩
set_option maxRecDepth 100000 in
theorem Break_bad_calls (w : World) (b ps pn : Nat) (v : Value) (r : List Nat) (st nw : ByteArray) (wl : List (Nat × ByteArray)) (left : Int) (h : DK w b ps pn v r st nw wl left true) (n : Int) :
    Calls Try.prog 20 #[.pointer (some ⟨b, 0, none⟩), .int .i64 n] w fun e w' => e = .returned (.tuple #[]) ∧ w = w' := by
  have c4 : w.cell? ⟨b, 4, none⟩ = some (.bool true) := by rw [Lib.cell_of_heap h.blk]; rfl
  clear h
  go_enter Try.func20, Try.ntmps20
  go_wp2
  go_end0
  exact ⟨rfl, rfl⟩
set_option maxRecDepth 100000 in
theorem Break_any_calls (w : World) (b ps pn : Nat) (v : Value) (r : List Nat) (st nw : ByteArray) (wl : List (Nat × ByteArray)) (left : Int) (h : DK w b ps pn v r st nw wl left false) (n : Int) (hn : Bd .i64 n) :
    Calls Try.prog 20 #[.pointer (some ⟨b, 0, none⟩), .int .i64 n] w fun e w' => e = .returned (.tuple #[]) ∧ DK w' b ps pn v r st nw wl (brkL n) false ∧ Fr [b] w w' := by
  have c4 : w.cell? ⟨b, 4, none⟩ = some (.bool false) := by rw [Lib.cell_of_heap h.blk]; rfl
  have c3 : w.cell? ⟨b, 3, none⟩ = some (.int .i64 left) := by rw [Lib.cell_of_heap h.blk]; rfl
  have z3 := Lib.frozen_of_heap h.blk 3
  have ⟨hn0, hn1⟩ := hn.i64
  have hfin : ∀ m : Int, 0 ≤ m → m ≤ 9223372036854775807 → DK (w.setCell ⟨b, 3, none⟩ (.int .i64 m)) b ps pn v r st nw wl m false ∧ Fr [b] w (w.setCell ⟨b, 3, none⟩ (.int .i64 m)) := fun m h0 h1 => by
    have hf : Fr [b] w (w.setCell ⟨b, 3, none⟩ (.int .i64 m)) := (Fr.refl _ _).setCell (.inl (by simp)) _
    refine ⟨⟨?_, h.wait.keep hf (fun k hk => by simp; rintro rfl; exact h.nr.1 hk), h.hs.keep hf (by simp; exact fun e => h.ne1 e.symm), h.hn.keep hf (by simp; exact fun e => h.ne2 e.symm), h.size, h.big, h.most, h.fit, by omega, h1, h.ne1, h.ne2, h.ne3, h.nr⟩, hf⟩
    simp [World.setCell, Array.getElem?_modify, h.blk]
  have HF := Lib.hid hfin
  clear h hfin hn
  by_cases h0 : n < 0
  · have e : brkL n = 0 := if_pos h0
    rw [e]
    clear e
    go_enter Try.func20, Try.ntmps20
    go_wp2
    go_end0
    exact ⟨rfl, HF.out _ (by decide) (by decide)⟩
  · have e : brkL n = n := if_neg h0
    rw [e]
    clear e
    have h2 : 0 ≤ n := by omega
    go_enter Try.func20, Try.ntmps20
    go_wp2
    go_end0
    exact ⟨rfl, HF.out _ h2 (by omega)⟩
end Go.Proofs.Ytembnjpflllpbaa
