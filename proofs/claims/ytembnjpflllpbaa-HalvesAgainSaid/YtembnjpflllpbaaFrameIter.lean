/- The iterator of frame.records: its contract. -/
import Derived.Test.YtembnjpflllpbaaFrameNext
import Derived.RangeFuncNested
import Derived.RangeFuncBox
import Derived.RangeFuncBound
import Derived.RangeFuncCalls
import Derived.RangeFuncLeaves
import Derived.Shelf.Abstract
import Derived.Shelf.RegionOpen
import Derived.WalkKit
import Derived.OwnWalkIn
import Derived.TacticsInMore
import Derived.LoopNIn
import Derived.LoopIn
import Derived.Maps.AppendAt
import Derived.Scope
import Derived.ControlIn
namespace Go.Proofs.Ytembnjpflllpbaa
open Go.RowKit Go.Shelf
set_option linter.unusedVariables false
set_option linter.unusedSimpArgs false
attribute [local go_sem] Oper.semAt_some

theorem Fr.grownBy {w w' : World} (h : Fr [] w w') : w.grownBy w' none := ⟨h.os, h.tape, h.output, h.size, fun k hk _ => h.block k hk (by simp)⟩
theorem Fr.of_grownBy {w w' : World} {row : Option Nat} (h : w.grownBy w' row) : Fr row.toList w w' := ⟨h.os, h.tape, h.output, h.size, fun k hk hn => h.block k hk (fun e => hn (by rw [← e]; simp))⟩

/-- What a round keeps for the iterator: its own box. -/
def KpB (Bn : Nat) (A B : World) : Prop := A.heap.size ≤ B.heap.size ∧ ∀ v, A.cell? ⟨Bn, 0, none⟩ = some v → B.cell? ⟨Bn, 0, none⟩ = some v
theorem KpB.refl (Bn : Nat) (A : World) : KpB Bn A A := ⟨Nat.le_refl _, fun _ h => h⟩
theorem KpB.trans {Bn : Nat} {A B C : World} (h : KpB Bn A B) (k : KpB Bn B C) : KpB Bn A C := ⟨Nat.le_trans h.1 k.1, fun v hv => k.2 v (h.2 v hv)⟩
theorem KpB.of_fr {Bn : Nat} {A B : World} {S : List Nat} (h : Fr S A B) (hn : Bn ∉ S) : KpB Bn A B := ⟨h.size, fun v hv => h.cell' hv hn⟩
theorem KpB.put {Bn : Nat} {w : World} (W : World) (l : Nat) (o o' : Obj) (hl : w.heap.size ≤ l) (h : W.heap[l]? = some o) (hc : o.isCells = false) (_ : o.isWalk = false) : KpB Bn W (W.putObj l o') := by
  refine ⟨by simp, fun v hv => ?_⟩
  by_cases e : Bn = l
  · subst e
    have hn : W.cell? ⟨Bn, 0, none⟩ = none := by
      unfold World.cell?
      simp only [h]
      cases o <;> first | rfl | exact absurd hc (by simp [Obj.isCells])
    rw [hn] at hv
    cases hv
  · exact (World.cell?_of_block (w := W) (a := ⟨Bn, 0, none⟩) (World.putObj_heap_other e)).trans hv

abbrev recV (x : ByteArray × Nat) : Array Value := #[.string x.1, .int .i64 (x.2 : Int)]

set_option maxHeartbeats 1000000 in
set_option maxRecDepth 100000 in
theorem records1_in (n : Nat) (hn : 1 ≤ n) (l Bn : Nat) (s : ByteArray) (hs : s.size ≤ 1000000) (J Jx : List (ByteArray × Nat) → World → Prop) (W : World)
    (hJ : AbidesFrom W.heap.size J)
    (hY : ∀ pre x W1, J pre W1 → pre.length < s.size → YieldAt Fence.wide (n - 1) Try.prog l (recV x) W1 fun e W' =>
      (e = .returned (.bool true) ∧ J (pre ++ [x]) W' ∧ KpB Bn W1 W') ∨ (e = .returned (.bool false) ∧ Jx (pre ++ [x]) W'))
    (hBn : W.cell? ⟨Bn, 0, none⟩ = some (.string s)) (h0 : J [] W) :
    CallsIn Fence.wide n Try.prog 79 #[.func (.yield l) #[] #[], .pointer (some ⟨Bn, 0, none⟩)] W fun e W' => (∃ v, e = .returned v) ∧ ((∃ ys, ys = scanAt s 0 ∧ J ys W') ∨ (∃ pre, True ∧ Jx pre W')) := by
  refine callsIn_of_wp Try.func79 rfl trivial ?_ rfl
  simp only [Try.ntmps79, List.size_toArray, List.length_cons, List.length_nil, Nat.reduceAdd, Nat.reduceSub, Array.replicate_succ, Array.replicate_zero, List.push_toArray, List.append_toArray, List.nil_append, List.cons_append]
  refine wpIn_wide.2 (wp_scope_straight ?_)
  refine (wpIn_wide (n := n)).1 ?_
  gi_wp2
  refine wpIn_label ?_
  gi_wp2
  gi_loopw [3] (fun v3 wr => ∃ (k : Nat) (pre : List (ByteArray × Nat)), v3 = .int .i64 k ∧ k ≤ s.size ∧ pre.length ≤ k ∧ Hid (J pre wr ∧ KpB Bn W wr ∧ pre ++ scanAt s k = scanAt s 0)) (fun v3 _ => s.size - (intOf v3).toNat)
  case atStart => exact ⟨0, [], rfl, Nat.zero_le _, Nat.le_refl _, h0, KpB.refl _ _, rfl⟩
  case round =>
    obtain ⟨k, pre, rfl, hk, hpk, H⟩ := hrel
    have hc := H.out.2.1.2 _ hBn
    have hxs : (s.extract k s.size).size = s.size - k := by rw [ByteArray.size_extract]; omega
    cases hq : nextB (s.extract k s.size) with
    | none =>
      have HN : Hid (nextV (nextB (s.extract k s.size)) = .tuple #[.string ⟨#[]⟩, .int .i64 0, .bool false]) := Lib.hid (by rw [hq]; rfl)
      have HS := Lib.hid (scanAt_none hq)
      have HX : Hid ((s.extract k s.size).size ≤ 140737488351232) := Lib.hid (by omega)
      clear hq hxs
      gi_wp2_with fail
      refine ⟨trivial, (callsIn_wide.2 (Next_calls _ _ HX.out)).mono ?_⟩
      rintro e w2 ⟨rfl, hf2⟩
      rw [HN.out]
      have HJ2 := Lib.hid (hJ _ _ _ none H.out.1 hf2.grownBy (by simp))
      clear hf2
      gi_wp2_with fail
      refine ⟨fun _ h => (by cases h), ?_⟩
      gi_wp2_with fail
      rw [Exit.noGoto_normal]
      go_end0
      exact ⟨⟨_, rfl⟩, .inl ⟨_, by rw [← H.out.2.2, HS.out, List.append_nil], HJ2.out⟩⟩
    | some x =>
      obtain ⟨t, q⟩ := x
      have hle := nextB_le hq
      have HN : Hid (nextV (nextB (s.extract k s.size)) = .tuple #[.string t, .int .i64 (q : Int), .bool true]) := Lib.hid (by rw [hq]; rfl)
      have HS := Lib.hid (scanAt_some hq)
      have HX : Hid ((s.extract k s.size).size ≤ 140737488351232) := Lib.hid (by omega)
      rw [hxs] at hle
      have hkq : k + q ≤ s.size := by omega
      have hq9 : 9 ≤ q := hle.1
      clear hq hxs hle
      gi_wp2_with fail
      refine ⟨trivial, (callsIn_wide.2 (Next_calls _ _ HX.out)).mono ?_⟩
      rintro e w2 ⟨rfl, hf2⟩
      rw [HN.out]
      have hJ2 := hJ _ _ _ none H.out.1 hf2.grownBy (by simp)
      have hB2 := H.out.2.1.trans (KpB.of_fr hf2 (by simp))
      obtain ⟨fn, tmps, assign, body, hy, hR⟩ := hY pre (t, k + q) w2 hJ2 (by omega)
      have e1 : (((k + q : Nat) : Int)) = (k : Int) + (q : Int) := by simp
      simp only [recV, e1] at hy
      have HB2 := Lib.hid hB2
      clear hf2 hJ2 hB2
      gi_wp2_with fail
      refine hR.mono ?_
      rintro e w3 (⟨rfl, hJ3, hk3⟩ | ⟨rfl, hJx3⟩)
      · have H3 := Lib.hid (And.intro hJ3 (HB2.out.trans hk3))
        clear hy hR hJ3 hk3 hJ HB2 e1
        gi_wp2_with fail
        refine ⟨⟨k + q, pre ++ [(t, k + q)], by simp, hkq, by rw [List.length_append]; simp; omega, Lib.hid ⟨H3.out.1, H3.out.2, ?_⟩⟩, by simp only [intOf]; omega⟩
        rw [← H.out.2.2, HS.out, List.append_assoc, List.singleton_append]
      · gi_wp2_with fail
        rw [Exit.noGoto_normal]
        go_end0
        exact ⟨⟨_, rfl⟩, .inr ⟨_, trivial, hJx3⟩⟩

set_option maxHeartbeats 400000 in
set_option maxRecDepth 100000 in
theorem records_calls (w : World) (s : ByteArray) :
    Calls Try.prog 67 #[.string s] w fun e w' => e = .returned (.func (.func 79) #[] #[.pointer (some ⟨w.heap.size, 0, none⟩)]) ∧ w' = w.alloc (.cells #[.string s] 9) := by
  have hmf : ∀ (fn : Fn) (first cap : Array Value) (w : World), (Instr.makeFunc fn first cap).run Try.prog w = .ok (.func fn first cap) w := fun _ _ _ _ => rfl
  go_enter Try.func67, Try.ntmps67
  go_wp2
  go_ret
  exact ⟨rfl, rfl⟩

/-- The function value that 'records' hands back. -/
theorem records_stops (n : Nat) (hn : 1 ≤ n) (Bn : Nat) (s : ByteArray) (hs : s.size ≤ 1000000) (w : World) (hBn : w.cell? ⟨Bn, 0, none⟩ = some (.string s)) (hlt : Bn < w.heap.size) :
    SeqStopsK Fence.wide n Try.prog 79 #[.pointer (some ⟨Bn, 0, none⟩)] recV (KpB Bn) (fun ys => ys = scanAt s 0) (fun _ => True) s.size w := fun l J Jx W hW hJ _ hY h0 =>
  records1_in n hn l Bn s hs J Jx W hJ hY ((hW.cell (p := ⟨Bn, 0, none⟩) hlt).trans hBn) h0

end Go.Proofs.Ytembnjpflllpbaa
