/- The contracts of the closure of wire.Clean: an address is written in one way, where a kind has it. -/
import Derived.Test.YtbeoegppldjpoaaDoorWireBytes
import Derived.Test.YtbeoegppldjpoaaDoorAddr5
import Derived.Test.YtbeoegppldjpoaaDoorWireCheck
namespace Go.Proofs.YtbeoegppldjpoaaDoor
open Go.RowKit
set_option linter.unusedVariables false
set_option linter.unusedSimpArgs false

theorem ML.keepS {S : List Nat} {w w' : World} (h : ML w) (hf : Fr S w w') (h0 : 0 ∉ S) : ML w' := h.imp fun _ hm => hf.cell' hm h0
/-- Behind the closure. -/
def ClnPost (w : World) (R B : Nat) (cs : Array Value) (T : TypeId) (x : Bool) (e : Ending) (w' : World) : Prop := e = .returned (.tuple #[]) ∧ w'.heap[R]? = some (.cells cs T (0, 0)) ∧ w'.heap[B]? = some (.cells #[.bool x] 4 (0, 0)) ∧ Fr [R, B] w w'
theorem blk_oth {w : World} {b E j : Nat} {v : Value} {o : Obj} (h : w.heap[b]? = some o) (hE : b ≠ E) : (w.setCell ⟨E, j, none⟩ v).heap[b]? = some o :=
  blk_keep h ((Fr.refl [E] w).setCell (.inl (by simp)) v) (by simpa using hE)
theorem cln_end1 {w w1 : World} {R B j : Nat} {cs : Array Value} {T : TypeId} {b x : Bool} {v : Value} (hR : w1.heap[R]? = some (.cells cs T (0, 0))) (hB : w1.heap[B]? = some (.cells #[.bool b] 4 (0, 0))) (hRB : R ≠ B) (hf : Fr [] w w1) :
    ClnPost w R B (cs.setIfInBounds j v) T x (.returned (.tuple #[])) ((w1.setCell ⟨R, j, none⟩ v).setCell ⟨B, 0, none⟩ (.bool x)).drew :=
  ⟨rfl, blk_oth (blk_set j v hR) hRB, blk_set 0 _ (blk_oth hB (Ne.symm hRB)), (((hf.mono (S' := [R, B]) (fun _ h => by cases h)).setCell (.inl (by simp)) _).setCell (.inl (by simp)) _).drew⟩
theorem cln_end2 {w w1 : World} {R B j : Nat} {cs : Array Value} {T : TypeId} {b x : Bool} {v : Value} (hR : w1.heap[R]? = some (.cells cs T (0, 0))) (hB : w1.heap[B]? = some (.cells #[.bool b] 4 (0, 0))) (hRB : R ≠ B) (hf : Fr [] w w1) :
    ClnPost w R B (cs.setIfInBounds j v) T x (.returned (.tuple #[])) ((w1.setCell ⟨B, 0, none⟩ (.bool x)).setCell ⟨R, j, none⟩ v).drew :=
  ⟨rfl, blk_set j v (blk_oth hR hRB), blk_oth (blk_set 0 _ hB) (Ne.symm hRB), (((hf.mono (S' := [R, B]) (fun _ h => by cases h)).setCell (.inl (by simp)) _).setCell (.inl (by simp)) _).drew⟩
theorem Clean1_no (w : World) (p q : Option Addr) :
    Calls Tryd.prog 18 #[.pointer p, .bool false, .pointer q] w fun e w' => e = .returned (.tuple #[]) ∧ w' = w := by
  go_enter Tryd.func18, Tryd.ntmps18
  go_wp2_with fail
  refine bodyPost_ret (results_none (by kernel_rfl) _ _ _) rfl ?_
  exact ⟨rfl, rfl⟩
set_option maxHeartbeats 2000000 in
set_option maxRecDepth 100000 in
theorem Clean1_yes (w : World) (hM : ML w) (R j : Nat) (cs : Array Value) (T : TypeId) (s : ByteArray) (hR : w.heap[R]? = some (.cells cs T (0, 0))) (hj : cs[j]? = some (.string s)) (hs : s.size ≤ 100000)
    (B : Nat) (b : Bool) (hB : w.heap[B]? = some (.cells #[.bool b] 4 (0, 0))) (hRB : R ≠ B) (t : ByteArray) (is : Bool) (hms : mailS s.data.toList = (t, is)) :
    Calls Tryd.prog 18 #[.pointer (some ⟨R, j, none⟩), .bool true, .pointer (some ⟨B, 0, none⟩)] w (ClnPost w R B (cs.setIfInBounds j (.string t)) T (b && is)) := by
  have hm := Mail_calls w hM s hs
  rw [hms] at hm
  simp only at hm
  have c0 : w.cell? ⟨R, j, none⟩ = some (.string s) := by rw [Lib.cell_of_heap hR]; exact hj
  have z0 : w.frozen? ⟨R, j, none⟩ = false := Lib.frozen_of_heap hR j
  have cb : w.cell? ⟨B, 0, none⟩ = some (.bool b) := by rw [Lib.cell_of_heap hB]; rfl
  have zb : w.frozen? ⟨B, 0, none⟩ = false := Lib.frozen_of_heap hB 0
  have HM := Lib.hid hm
  have HRB := Lib.hid hRB
  have HR := Lib.hid hR
  have HB := Lib.hid hB
  clear hm hms hRB hR hB hj hs
  cases b
  all_goals
    simp only [Bool.false_and, Bool.true_and]
    go_enter Tryd.func18, Tryd.ntmps18
    go_wp2_with fail
    (with_reducible refine HM.out.mono ?_)
    rintro e w1 ⟨rfl, hf⟩
    have c0 := hf.cell' c0 (by simp)
    have cb := hf.cell' cb (by simp)
    have HR1 := Lib.hid (blk_keep HR.out hf (by simp))
    have HB1 := Lib.hid (blk_keep HB.out hf (by simp))
    have z0 : w1.frozen? ⟨R, j, none⟩ = false := Lib.frozen_of_heap HR1.out j
    have zb : w1.frozen? ⟨B, 0, none⟩ = false := Lib.frozen_of_heap HB1.out 0
    have HF := Lib.hid hf
    clear hf HR HB
    go_wp2_with fail
    have n1 := HRB.out
    have n2 := Ne.symm n1
    cases is
    all_goals
      go_region
      all_goals
        go_wp2_with fail
        go_end0
        (with_reducible first | exact cln_end1 HR1.out HB1.out HRB.out HF.out | exact cln_end2 HR1.out HB1.out HRB.out HF.out)
end Go.Proofs.YtbeoegppldjpoaaDoor
