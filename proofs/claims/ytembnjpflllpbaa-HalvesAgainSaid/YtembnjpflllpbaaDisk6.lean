/- Contracts of the disk: Pending, Sync, Break, Broken, Size; of none. -/
import Derived.Test.YtembnjpflllpbaaDisk5
namespace Go.Proofs.Ytembnjpflllpbaa
open Go.RowKit
set_option linter.unusedVariables false
set_option linter.unusedSimpArgs false

def pend (wl : List (Nat × ByteArray)) : Nat := (wl.map fun x => x.2.size).sum

set_option maxHeartbeats 400000 in
set_option maxRecDepth 100000 in
theorem Sync_calls (w : World) (b ps pn : Nat) (v : Value) (r : List Nat) (st nw : ByteArray) (wl : List (Nat × ByteArray)) (left : Int) (h : DK w b ps pn v r st nw wl left false) (hl : left ≠ 1) :
    Calls Try.prog 44 #[.pointer (some ⟨b, 0, none⟩)] w fun e w' => e = .returned (.int .i64 0) ∧ ∃ v', DK w' b ps pn v' r nw nw [] (stepL left) false ∧ Fr (b :: ps :: r) w w' := by
  have c4 : w.cell? ⟨b, 4, none⟩ = some (.bool false) := by rw [Lib.cell_of_heap h.blk]; rfl
  have hst := step_calls w b ps pn v r st nw wl left false h
  have e1 : stepB left false = false := by
    have : (left == 1) = false := beq_eq_false_iff_ne.2 hl
    rw [stepB, this]
    rfl
  rw [e1] at hst
  have HST := Lib.hid hst
  clear hst e1
  have hsz := h.size
  go_enter Try.func44, Try.ntmps44
  go_wp2_with fail
  (with_reducible refine HST.out.mono ?_)
  rintro e w1 ⟨rfl, h1, hf1⟩
  have c0 : w1.cell? ⟨b, 0, none⟩ = some (.slice (some ⟨ps, 0, none⟩) st.size st.size) := by rw [Lib.cell_of_heap h1.blk]; rfl
  clear HST
  go_wp2_with fail
  (with_reducible refine (drop_calls _ b ps pn v r st nw wl (stepL left) false h1 st.size rfl (Nat.le_refl _)).mono ?_)
  rintro e w2 ⟨rfl, v', h2, hf2⟩
  have e2 : ovB st 0 (nw.extract 0 st.size) = nw := by
    rw [← hsz, ByteArray.extract_zero_size]
    exact ovB_all hsz
  rw [e2] at h2
  have hF : Fr (b :: ps :: r) w w2 := (hf1.mono (fun x hx _ => by simp at hx; simp [hx])).trans hf2 (fun x hx => .inl hx)
  clear h1 hf1 hf2 e2 c0
  go_wp2_with fail
  go_ret
  exact ⟨rfl, v', h2, hF⟩

set_option maxHeartbeats 400000 in
set_option maxRecDepth 100000 in
/-- A broken disk does nothing. -/
theorem Sync_bad_calls (w : World) (b ps pn : Nat) (v : Value) (r : List Nat) (st nw : ByteArray) (wl : List (Nat × ByteArray)) (left : Int) (h : DK w b ps pn v r st nw wl left true) :
    Calls Try.prog 44 #[.pointer (some ⟨b, 0, none⟩)] w fun e w' => e = .returned (.int .i64 18) ∧ w = w' := by
  have c4 : w.cell? ⟨b, 4, none⟩ = some (.bool true) := by rw [Lib.cell_of_heap h.blk]; rfl
  clear h
  go_enter Try.func44, Try.ntmps44
  go_wp2
  go_ret
  exact ⟨rfl, rfl⟩

set_option maxHeartbeats 400000 in
set_option maxRecDepth 100000 in
theorem Size_calls (w : World) (b ps pn : Nat) (v : Value) (r : List Nat) (st nw : ByteArray) (wl : List (Nat × ByteArray)) (left : Int) (bad : Bool) (h : DK w b ps pn v r st nw wl left bad) :
    Calls Try.prog 39 #[.pointer (some ⟨b, 0, none⟩)] w fun e w' => e = .returned (.int .i64 st.size) ∧ w = w' := by
  have c0 : w.cell? ⟨b, 0, none⟩ = some (.slice (some ⟨ps, 0, none⟩) st.size st.size) := by rw [Lib.cell_of_heap h.blk]; rfl
  clear h
  go_enter Try.func39, Try.ntmps39
  go_wp2
  go_ret
  exact ⟨rfl, rfl⟩

set_option maxHeartbeats 400000 in
set_option maxRecDepth 100000 in
theorem Write_bad_calls (w : World) (b ps pn : Nat) (v : Value) (r : List Nat) (st nw : ByteArray) (wl : List (Nat × ByteArray)) (left : Int) (h : DK w b ps pn v r st nw wl left true) (k : Nat) {ki : Int} (hki : ki = k) (s : ByteArray) (hks : k + s.size ≤ st.size) :
    Calls Try.prog 42 #[.pointer (some ⟨b, 0, none⟩), .int .i64 ki, .string s] w fun e w' => e = .returned (.int .i64 18) ∧ w = w' := by
  subst hki
  have c4 : w.cell? ⟨b, 4, none⟩ = some (.bool true) := by rw [Lib.cell_of_heap h.blk]; rfl
  have hb := h.big
  have hd : decide ((0 : Int) ≤ (k : Int) ∧ (0 : Int) ≤ (s.size : Int) ∧ (k : Int) ≤ (st.size : Int) - (s.size : Int)) = true := decide_eq_true ⟨by omega, by omega, by omega⟩
  have HM := Lib.hid (may_calls w b ps pn v r st nw wl left true h (k : Int) (s.size : Int) (Bd.of_i64 (by omega) (by omega)) (Bd.of_i64 (by omega) (by omega)))
  rw [hd] at HM
  clear hd h
  go_enter Try.func42, Try.ntmps42
  go_wp2_with fail
  (with_reducible refine HM.out.mono ?_)
  rintro e w' ⟨rfl, rfl⟩
  go_wp2
  go_ret
  exact ⟨rfl, rfl⟩

set_option maxHeartbeats 400000 in
set_option maxRecDepth 100000 in
theorem Read_bad_calls (w : World) (b ps pn : Nat) (v : Value) (r : List Nat) (st nw : ByteArray) (wl : List (Nat × ByteArray)) (left : Int) (h : DK w b ps pn v r st nw wl left true) (k n : Nat) {ki ni : Int} (hki : ki = k) (hni : ni = n) (hkn : k + n ≤ st.size) :
    Calls Try.prog 48 #[.pointer (some ⟨b, 0, none⟩), .int .i64 ki, .int .i64 ni] w fun e w' => e = .returned (.tuple #[.string ⟨#[]⟩, .int .i64 18]) ∧ w = w' := by
  subst hki hni
  have c4 : w.cell? ⟨b, 4, none⟩ = some (.bool true) := by rw [Lib.cell_of_heap h.blk]; rfl
  have hb := h.big
  have hd : decide ((0 : Int) ≤ (k : Int) ∧ (0 : Int) ≤ (n : Int) ∧ (k : Int) ≤ (st.size : Int) - (n : Int)) = true := decide_eq_true ⟨by omega, by omega, by omega⟩
  have HM := Lib.hid (may_calls w b ps pn v r st nw wl left true h (k : Int) (n : Int) (Bd.of_i64 (by omega) (by omega)) (Bd.of_i64 (by omega) (by omega)))
  rw [hd] at HM
  clear hd h
  go_enter Try.func48, Try.ntmps48
  go_wp2_with fail
  (with_reducible refine HM.out.mono ?_)
  rintro e w' ⟨rfl, rfl⟩
  go_wp2
  go_ret2
  exact ⟨rfl, rfl⟩

set_option maxHeartbeats 400000 in
set_option maxRecDepth 100000 in
theorem Break_calls (w : World) (b ps pn : Nat) (v : Value) (r : List Nat) (st nw : ByteArray) (wl : List (Nat × ByteArray)) (left : Int) (h : DK w b ps pn v r st nw wl left false) (n : Int) (h0 : 1 ≤ n) (h1 : n ≤ 9223372036854775807) :
    Calls Try.prog 20 #[.pointer (some ⟨b, 0, none⟩), .int .i64 n] w fun e w' => e = .returned (.tuple #[]) ∧ DK w' b ps pn v r st nw wl n false ∧ Fr [b] w w' := by
  have c4 : w.cell? ⟨b, 4, none⟩ = some (.bool false) := by rw [Lib.cell_of_heap h.blk]; rfl
  have c3 : w.cell? ⟨b, 3, none⟩ = some (.int .i64 left) := by rw [Lib.cell_of_heap h.blk]; rfl
  have z3 := Lib.frozen_of_heap h.blk 3
  have HH := Lib.hid h
  clear h
  go_enter Try.func20, Try.ntmps20
  go_wp2
  go_end0
  have hf : Fr [b] w (w.setCell ⟨b, 3, none⟩ (.int .i64 n)) := (Fr.refl _ _).setCell (.inl (by simp)) _
  have h := HH.out
  refine ⟨rfl, ⟨?_, h.wait.keep hf (fun k hk => by simp; rintro rfl; exact h.nr.1 hk), h.hs.keep hf (by simp; exact fun e => h.ne1 e.symm), h.hn.keep hf (by simp; exact fun e => h.ne2 e.symm), h.size, h.big, h.most, h.fit, by omega, h1, h.ne1, h.ne2, h.ne3, h.nr⟩, hf⟩
  simp [World.setCell, Array.getElem?_modify, h.blk]

end Go.Proofs.Ytembnjpflllpbaa
