/- The contract of wire.of: what a kind has. -/
import Derived.Test.YtbeoegppldjpoaaDoorWirePure
import Derived.KernelRfl
import Derived.Laws.Tables
import Derived.Great.BuildSlice
import Derived.Great.Walk
namespace Go.Proofs.YtbeoegppldjpoaaDoor
open Go.RowKit
set_option linter.unusedVariables false
set_option linter.unusedSimpArgs false

def Pt.cells (p : Pt) : Array Value := #[.bool p.ma, .bool p.ot, .bool p.se, .bool p.pa, .bool p.pu]
def Pt.val (p : Pt) : Value := .agg #[.bool p.ma, .bool p.ot, .bool p.se, .bool p.pa, .bool p.pu]
def ptVals : Array Value := ((List.range 17).flatMap fun i => (ptN i).cells.toList).toArray
def ptZ : Array Value := (List.replicate 85 (.bool false)).toArray
theorem alloc85 (ρ : Operand → Value) (o : Oper) (ho : o.op = .alloc 68) (w : World) : (execOp ρ o).run Tryd.prog w = .ok (.value (.pointer (some ⟨w.heap.size, 0, none⟩))) (w.alloc (.cells ptZ 68)) := by
  cases o
  simp only at ho
  subst ho
  kernel_rfl
theorem alloc_keep {w : World} {R : Nat} {o x : Obj} (h : w.heap[R]? = some x) : (w.alloc o).heap[R]? = some x := by rw [((Fr.refl [] w).alloc o).block R (lt_of_heap h) (by simp)]; exact h
theorem alloc7 (w : World) (o1 o2 o3 o4 o5 o6 o7 : Obj) : (((((((w.alloc o1).alloc o2).alloc o3).alloc o4).alloc o5).alloc o6).alloc o7).heap[w.heap.size]? = some o1 :=
  alloc_keep (alloc_keep (alloc_keep (alloc_keep (alloc_keep (alloc_keep (heap_alloc_new _ _))))))
theorem fr7 (w : World) (o1 o2 o3 o4 o5 o6 o7 : Obj) : Fr [] w (((((((w.alloc o1).alloc o2).alloc o3).alloc o4).alloc o5).alloc o6).alloc o7) := (((((((Fr.refl _ _).alloc _).alloc _).alloc _).alloc _).alloc _).alloc _).alloc _
theorem setRow_fr' {S : List Nat} {a w : World} (b : Nat) (vs : Array Value) (h : Fr S a w) (hb : b ∈ S ∨ a.heap.size ≤ b) : Fr S a (w.setRow b vs) :=
  ⟨h.os, h.tape, h.output, by rw [setRow_size]; exact h.size, fun k hk hk2 => (setRow_other _ _ _ _ (fun e => by subst e; exact hb.elim hk2 (fun hb => by omega))).trans (h.block k hk hk2)⟩
theorem of_end {R : Ending → World → Prop} {tmps : Array Value} {W : World} {b : Nat} {x0 x1 x2 x3 x4 y : Bool} (hb : tmps.getD 2 undef = .pointer (some ⟨b, 0, none⟩)) (hy : tmps.getD 3 undef = .bool y) (hc : W.heap[b]? = some (.cells #[.bool x0, .bool x1, .bool x2, .bool x3, .bool x4] 43 (0, 0))) (h : R (.returned (.tuple #[.agg #[.bool x0, .bool x1, .bool x2, .bool x3, .bool x4], .bool y])) W) :
    bodyPost Tryd.prog Tryd.f17 R Exit.ret { tmps := tmps, defers := [] } W := by
  have hres : Tryd.f17.results = #[.cell 2 43, .tmp 3] := by kernel_rfl
  have d0 : W.cell? ⟨b, 0, none⟩ = some (.bool x0) := by rw [Lib.cell_of_heap hc]; rfl
  have d1 : W.cell? ⟨b, 1, none⟩ = some (.bool x1) := by rw [Lib.cell_of_heap hc]; rfl
  have d2 : W.cell? ⟨b, 2, none⟩ = some (.bool x2) := by rw [Lib.cell_of_heap hc]; rfl
  have d3 : W.cell? ⟨b, 3, none⟩ = some (.bool x3) := by rw [Lib.cell_of_heap hc]; rfl
  have d4 : W.cell? ⟨b, 4, none⟩ = some (.bool x4) := by rw [Lib.cell_of_heap hc]; rfl
  refine bodyPost_ret (v := .tuple #[.agg #[.bool x0, .bool x1, .bool x2, .bool x3, .bool x4], .bool y]) ?_ rfl h
  rw [Array.getD_eq_getD_getElem?] at hb hy
  simp only [results, hres]
  go_simp
theorem wp_alloc85 {ops : Array Oper} {rest : List Oper} {o : Oper} {a : Act} {w : World} {Q : Exit → Act → World → Prop} (hg : o.guard = none) (hd : o.dst = some 10) (ho : o.op = .alloc 68) (R : Nat) (cs : Array Value) (T : TypeId) (hR : w.heap[R]? = some (.cells cs T (0, 0)))
    (h : ∀ (n : Nat) (W : World), W.heap[n]? = some (.cells ptZ 68 (0, 0)) → R ≠ n → W.heap[R]? = some (.cells cs T (0, 0)) → Hid (Fr [] w W ∧ n = w.heap.size) → wpList Tryd.prog ops Q rest (a.put (some 10) (.pointer (some ⟨n, 0, none⟩))) W) : wpList Tryd.prog ops Q (o :: rest) a w :=
  Go.Great.wpList_allocTo hg (some 10) hd _ _ (alloc85 _ _ ho _) (h _ _ (heap_alloc_new _ _) (by have := lt_of_heap hR; omega) (by rw [((Fr.refl [] w).alloc _).block R (lt_of_heap hR) (by simp)]; exact hR) ⟨(Fr.refl _ _).alloc _, rfl⟩)
theorem pt_cells : ∀ n, n < 17 → ptVals[n * 5]? = some (.bool (ptN n).ma) ∧ ptVals[n * 5 + 1]? = some (.bool (ptN n).ot) ∧ ptVals[n * 5 + 2]? = some (.bool (ptN n).se) ∧ ptVals[n * 5 + 3]? = some (.bool (ptN n).pa) ∧ ptVals[n * 5 + 4]? = some (.bool (ptN n).pu)
  | 0, _ => ⟨rfl, rfl, rfl, rfl, rfl⟩
  | 1, _ => ⟨rfl, rfl, rfl, rfl, rfl⟩
  | 2, _ => ⟨rfl, rfl, rfl, rfl, rfl⟩
  | 3, _ => ⟨rfl, rfl, rfl, rfl, rfl⟩
  | 4, _ => ⟨rfl, rfl, rfl, rfl, rfl⟩
  | 5, _ => ⟨rfl, rfl, rfl, rfl, rfl⟩
  | 6, _ => ⟨rfl, rfl, rfl, rfl, rfl⟩
  | 7, _ => ⟨rfl, rfl, rfl, rfl, rfl⟩
  | 8, _ => ⟨rfl, rfl, rfl, rfl, rfl⟩
  | 9, _ => ⟨rfl, rfl, rfl, rfl, rfl⟩
  | 10, _ => ⟨rfl, rfl, rfl, rfl, rfl⟩
  | 11, _ => ⟨rfl, rfl, rfl, rfl, rfl⟩
  | 12, _ => ⟨rfl, rfl, rfl, rfl, rfl⟩
  | 13, _ => ⟨rfl, rfl, rfl, rfl, rfl⟩
  | 14, _ => ⟨rfl, rfl, rfl, rfl, rfl⟩
  | 15, _ => ⟨rfl, rfl, rfl, rfl, rfl⟩
  | 16, _ => ⟨rfl, rfl, rfl, rfl, rfl⟩
  | n + 17, h => by omega
theorem infoP5 : (Tryd.prog.info? 43).map (·.size) = some 5 := by kernel_rfl
def OfPost (w : World) (v : Value) (b : Bool) (e : Ending) (w' : World) : Prop := e = .returned (.tuple #[v, .bool b]) ∧ Fr [] w w'
set_option maxHeartbeats 2000000 in
set_option maxRecDepth 100000 in
theorem of_no (V : Array Value) (hV : V = ptVals) (w : World) (k : Int) (h : k < 1 ∨ 17 ≤ k ∧ ¬ k < 1) :
    Calls Tryd.prog 17 #[.int .i64 k] w (OfPost w (.agg #[.bool false, .bool false, .bool false, .bool false, .bool false]) false) := by
  have hi : (Tryd.prog.info? 68).map (·.size) = some V.size := by rw [hV]; kernel_rfl
  have hz : ptZ.size = V.size := by rw [hV]; rfl
  have h1c : V.all (·.oneCell') = true := by rw [hV]; kernel_rfl
  have HI := Lib.hid hi
  have HZ := Lib.hid hz
  have H1C := Lib.hid h1c
  have HV := Lib.hid hV
  clear hi h1c hV hz
  rcases h with h | ⟨h, h'⟩
  · go_enter Tryd.func17, Tryd.ntmps17
    go_wp2_with (first | (refine wpList_store_row rfl 68 _ _ rfl n V rfl rfl 68 ptZ hW HI.out HZ.out H1C.out ?_) | (refine wpList_store_row rfl 43 _ _ rfl w.heap.size #[.bool false, .bool false, .bool false, .bool false, .bool false] rfl rfl 43 _ hR2 infoP5 rfl (by simp [Value.oneCell']) ?_) | (refine wpList_buildTo rfl 68 _ rfl (some 34) rfl V (by rw [HV.out]; kernel_rfl) ?_) | (refine wp_alloc85 rfl rfl rfl w.heap.size #[.bool false, .bool false, .bool false, .bool false, .bool false] 43 (by with_reducible exact alloc7 _ _ _ _ _ _ _ _) ?_; intro n W hW hne hR HF; (have HG := Lib.hid (And.intro (show Fr [] w W by with_reducible exact (fr7 w _ _ _ _ _ _ _).then HF.out.1) (show w.heap.size ≤ n by rw [HF.out.2]; with_reducible exact (fr7 w _ _ _ _ _ _ _).size))); clear HF; (have hR2 := (setRow_other W n w.heap.size V hne).trans hR)))
    refine of_end rfl rfl (setRow_heap _ _ _ _ _ _ hR2) ⟨rfl, setRow_fr' _ _ (setRow_fr' _ _ HG.out.1 (.inr HG.out.2)) (.inr (Nat.le_refl _))⟩
  · go_enter Tryd.func17, Tryd.ntmps17
    go_wp2_with (first | (refine wpList_store_row rfl 68 _ _ rfl n V rfl rfl 68 ptZ hW HI.out HZ.out H1C.out ?_) | (refine wpList_store_row rfl 43 _ _ rfl w.heap.size #[.bool false, .bool false, .bool false, .bool false, .bool false] rfl rfl 43 _ hR2 infoP5 rfl (by simp [Value.oneCell']) ?_) | (refine wpList_buildTo rfl 68 _ rfl (some 34) rfl V (by rw [HV.out]; kernel_rfl) ?_) | (refine wp_alloc85 rfl rfl rfl w.heap.size #[.bool false, .bool false, .bool false, .bool false, .bool false] 43 (by with_reducible exact alloc7 _ _ _ _ _ _ _ _) ?_; intro n W hW hne hR HF; (have HG := Lib.hid (And.intro (show Fr [] w W by with_reducible exact (fr7 w _ _ _ _ _ _ _).then HF.out.1) (show w.heap.size ≤ n by rw [HF.out.2]; with_reducible exact (fr7 w _ _ _ _ _ _ _).size))); clear HF; (have hR2 := (setRow_other W n w.heap.size V hne).trans hR)))
    refine of_end rfl rfl (setRow_heap _ _ _ _ _ _ hR2) ⟨rfl, setRow_fr' _ _ (setRow_fr' _ _ HG.out.1 (.inr HG.out.2)) (.inr (Nat.le_refl _))⟩
set_option maxHeartbeats 2000000 in
set_option maxRecDepth 100000 in
theorem of_yes (V : Array Value) (hV : V = ptVals) (w : World) (m : Nat) (h : ¬ (m : Int) < 1) (h' : (m : Int) < 17) (b0 b1 b2 b3 b4 : Bool) (hp : ptN m = ⟨b0, b1, b2, b3, b4⟩) :
    Calls Tryd.prog 17 #[.int .i64 m] w (OfPost w (.agg #[.bool b0, .bool b1, .bool b2, .bool b3, .bool b4]) true) := by
  have hi : (Tryd.prog.info? 68).map (·.size) = some V.size := by rw [hV]; kernel_rfl
  have hz : ptZ.size = V.size := by rw [hV]; rfl
  have h1c : V.all (·.oneCell') = true := by rw [hV]; kernel_rfl
  have hpc := pt_cells m (by omega)
  rw [hp, ← hV] at hpc
  have HPC := Lib.hid hpc
  have HI := Lib.hid hi
  have HZ := Lib.hid hz
  have H1C := Lib.hid h1c
  have HV := Lib.hid hV
  clear hi h1c hV hz hp hpc
  have h0 : (0 : Int) ≤ (m : Int) := by omega
  go_enter Tryd.func17, Tryd.ntmps17
  go_wp2_with (first | (refine wpList_store_row rfl 68 _ _ rfl n V rfl rfl 68 ptZ hW HI.out HZ.out H1C.out ?_) | (refine wpList_store_row rfl 43 _ _ rfl w.heap.size #[.bool b0, .bool b1, .bool b2, .bool b3, .bool b4] rfl rfl 43 _ hR2 infoP5 rfl (by simp [Value.oneCell']) ?_) | (refine wpList_buildTo rfl 68 _ rfl (some 34) rfl V (by rw [HV.out]; kernel_rfl) ?_) | (refine wp_alloc85 rfl rfl rfl w.heap.size #[.bool false, .bool false, .bool false, .bool false, .bool false] 43 (by with_reducible exact alloc7 _ _ _ _ _ _ _ _) ?_; intro n W hW hne hR HF; (have HG := Lib.hid (And.intro (show Fr [] w W by with_reducible exact (fr7 w _ _ _ _ _ _ _).then HF.out.1) (show w.heap.size ≤ n by rw [HF.out.2]; with_reducible exact (fr7 w _ _ _ _ _ _ _).size))); clear HF; (have hR2 := (setRow_other W n w.heap.size V hne).trans hR); (have c0 : (W.setRow n V).cell? ⟨n, m * 5, none⟩ = some (.bool b0) := by rw [cell_setRow_same W n _ _ V _ _ hW]; exact HPC.out.1); (have c1 : (W.setRow n V).cell? ⟨n, m * 5 + 1, none⟩ = some (.bool b1) := by rw [cell_setRow_same W n _ _ V _ _ hW]; exact HPC.out.2.1); (have c2 : (W.setRow n V).cell? ⟨n, m * 5 + 2, none⟩ = some (.bool b2) := by rw [cell_setRow_same W n _ _ V _ _ hW]; exact HPC.out.2.2.1); (have c3 : (W.setRow n V).cell? ⟨n, m * 5 + 3, none⟩ = some (.bool b3) := by rw [cell_setRow_same W n _ _ V _ _ hW]; exact HPC.out.2.2.2.1); (have c4 : (W.setRow n V).cell? ⟨n, m * 5 + 4, none⟩ = some (.bool b4) := by rw [cell_setRow_same W n _ _ V _ _ hW]; exact HPC.out.2.2.2.2)))
  refine of_end rfl rfl (setRow_heap _ _ _ _ _ _ hR2) ⟨rfl, setRow_fr' _ _ (setRow_fr' _ _ HG.out.1 (.inr HG.out.2)) (.inr (Nat.le_refl _))⟩
theorem of_calls (w : World) (k : Int) : Calls Tryd.prog 17 #[.int .i64 k] w fun e w' => e = .returned (.tuple #[(ptOf k).val, .bool (kIs k)]) ∧ Fr [] w w' := by
  by_cases h : 1 ≤ k ∧ k ≤ 16
  · have hk : kIs k = true := by unfold kIs; rw [decide_eq_true h.1, decide_eq_true h.2]; rfl
    obtain ⟨m, rfl⟩ := Int.eq_ofNat_of_zero_le (by omega : 0 ≤ k)
    rw [ptOf, if_pos hk, hk, Int.toNat_natCast]
    refine (of_yes ptVals rfl w m (by omega) (by omega) _ _ _ _ _ rfl).mono ?_
    rintro e w' h
    exact h
  · have hk : kIs k = false := by
      unfold kIs
      by_cases h1 : 1 ≤ k
      · rw [decide_eq_false (show ¬ k ≤ 16 from fun h2 => h ⟨h1, h2⟩), Bool.and_false]
      · rw [decide_eq_false h1, Bool.false_and]
    rw [ptOf, hk]
    refine (of_no ptVals rfl w k (by omega)).mono ?_
    rintro e w' h
    exact h
end Go.Proofs.YtbeoegppldjpoaaDoor
