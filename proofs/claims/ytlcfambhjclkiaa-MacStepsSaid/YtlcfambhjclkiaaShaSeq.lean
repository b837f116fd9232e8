/- Contracts of sha.begin, keys, blocks, and of the iterator over a text's blocks. -/
import Derived.Test.YtlcfambhjclkiaaShaIn
import Derived.RangeFuncNested
import Derived.RangeFuncBox
import Derived.RangeFuncBound
import Derived.RangeFuncCalls
import Derived.RangeFuncLeaves
import Derived.Shelf.Abstract
import Derived.Shelf.RegionOpen
import Derived.WalkKit
import Derived.OwnWalkIn
import Derived.TacticsInMore
import Derived.LoopNIn
import Derived.LoopIn
import Derived.Maps.AppendAt
import Derived.Scope
import Derived.ControlIn
import Derived.Deep.RegionHeld3
import Derived.Deep.DrawnRows
import Derived.StillTailTactics
import Derived.Deep.Cut
namespace Go.Proofs.Ytlcfambhjclkiaa
open Go.RowKit Go.Shelf
set_option linter.unusedVariables false
set_option linter.unusedSimpArgs false
attribute [local go_sem] Oper.semAt_some

theorem Fr.grownBy {w w' : World} (h : Fr [] w w') : w.grownBy w' none := ⟨h.os, h.tape, h.output, h.size, fun k hk _ => h.block k hk (by simp)⟩

section
variable {F : Fence} {n : Nat} {P : Program}
theorem wpListIn_loadRow {ops : Array Oper} {rest : List Oper} {o : Oper} {a : Act} {w : World} {Q : Exit → Act → World → Prop} (hgd : o.guard = none) (ty : TypeId) (x : Operand) (ho : o.op = .load ty x)
    (g : Nat) (hx : a.eval x = .pointer (some ⟨g, 0, none⟩)) (t : TypeId) (cs : Array Value) (fr : Nat × Nat) (d : TypeDesc) (hg : w.heap[g]? = some (.cells cs t fr))
    (hu : P.underlying ty = some d) (hd : (match d with | .struct _ | .array _ _ => true | _ => false) = true) (hi : (P.info? ty).map (·.size) = some cs.size)
    (h : wpListIn F n P ops Q rest (a.put o.dst (.agg cs)) w) : wpListIn F n P ops Q (o :: rest) a w := by
  refine wpListIn_plain hgd fun K hK => ?_
  unfold Oper.wpIn
  refine ⟨by simp [Oper.about, ho], ?_⟩
  rw [Oper.semAt_plain F _ _ (by rw [ho]; intro c hc'; cases hc')]
  unfold execOp
  simp only [ho, hx, Instr.loadAt, Instr.sureAddr, Sem.run_bind, Sem.run_pure, Result.andThen_ok, run_loadVar_row w g t ty cs fr d hg hu hd hi]
  exact hK _ _ h
theorem wpListIn_storeRow {ops : Array Oper} {rest : List Oper} {o : Oper} {a : Act} {w : World} {Q : Exit → Act → World → Prop} (hgd : o.guard = none) (ty : TypeId) (x y : Operand) (ho : o.op = .store ty x y)
    (g : Nat) (cells : Array Value) (hx : a.eval x = .pointer (some ⟨g, 0, none⟩)) (hy : a.eval y = .agg cells)
    (t : TypeId) (old : Array Value) (hg : w.heap[g]? = some (.cells old t (0, 0))) (hi : (P.info? ty).map (·.size) = some cells.size)
    (hold : old.size = cells.size) (h1 : cells.all (·.oneCell') = true)
    (h : wpListIn F n P ops Q rest (a.put o.dst undef) (w.setRow g cells)) : wpListIn F n P ops Q (o :: rest) a w := by
  refine wpListIn_plain hgd fun K hK => ?_
  unfold Oper.wpIn
  refine ⟨by simp [Oper.about, ho], ?_⟩
  rw [Oper.semAt_plain F _ _ (by rw [ho]; intro c hc'; cases hc')]
  unfold execOp
  simp only [ho, hx, hy, Instr.storeAt, Instr.sureAddr, Sem.run_bind, Sem.run_pure, Result.andThen_ok, run_storeVar_row w g t ty old cells hg hi hold h1]
  exact hK _ _ h
end

/-! ### the numbers that all begin with -/
def u64z : Array Value := uCells (List.replicate 64 0)
theorem alloc64 (ρ : Operand → Value) (o : Oper) (ho : o.op = .alloc 53) (w : World) : (execOp ρ o).run Try.prog w = .ok (.value (.pointer (some ⟨w.heap.size, 0, none⟩))) (w.alloc (.cells u64z 53)) := by
  cases o
  simp only at ho
  subst ho
  kernel_rfl
set_option maxHeartbeats 1000000 in
set_option maxRecDepth 100000 in
theorem begin_calls (w : World) :
    Calls Try.prog 29 #[] w fun e w' => e = .returned (.agg (uCells shaBegin)) ∧ Fr [] w w' := by
  go_enter Try.func29, Try.ntmps29
  go_wp2
  exact bodyPost_ret (v := .agg (uCells shaBegin)) (by simp [results, Try.results29, go_sem, uCells, shaBegin]) rfl ⟨rfl, (Fr.refl _ _).alloc _⟩
set_option maxHeartbeats 1000000 in
set_option maxRecDepth 100000 in
theorem keys_core (V : Array Value) (hV : V = uCells shaKeys) (w : World) :
    Calls Try.prog 30 #[] w fun e w' => e = .returned (.agg V) ∧ Fr [] w w' := by
  have hi : (Try.prog.info? 53).map (·.size) = some V.size := by rw [hV]; kernel_rfl
  have hz : u64z.size = V.size := by rw [hV]; rfl
  have h1 : V.all (·.oneCell') = true := by rw [hV]; exact uCells_one _
  have HN := Lib.hid (heap_alloc_new w (.cells u64z 53))
  have HG := Lib.hid (And.intro hi (And.intro hz h1))
  have HV := Lib.hid hV
  have HS : Hid (((w.alloc (.cells u64z 53)).setRow w.heap.size V).heap[w.heap.size]? = some (.cells V 53 (0, 0)) ∧ Fr [] w ((w.alloc (.cells u64z 53)).setRow w.heap.size V)) := by
    refine ⟨setRow_heap _ _ _ _ _ _ (heap_alloc_new w _), ?_⟩
    have hF : Fr [w.heap.size] (w.alloc (.cells u64z 53)) ((w.alloc (.cells u64z 53)).setRow w.heap.size V) := ⟨rfl, rfl, rfl, by simp, fun k _ hk => setRow_other _ _ k _ (fun e => hk (by simp [e]))⟩
    exact ((Fr.refl _ _).alloc _).trans hF (fun i hi => .inr (by simp at hi; omega))
  clear hi hz h1 hV
  go_enter Try.func30, Try.ntmps30
  go_wp2_with (first | (refine Go.Great.wpList_allocTo rfl (some 0) rfl _ _ (alloc64 _ _ rfl _) ?_) | (refine wpList_buildTo rfl _ _ rfl (some 1) rfl V (by rw [HV.out]; kernel_rfl) ?_) | (refine wpList_store_row rfl _ _ _ rfl w.heap.size V rfl rfl 53 u64z HN.out HG.out.1 HG.out.2.1 HG.out.2.2 ?_))
  exact bodyPost_ret (results_cell_row Try.results30 _ _ w.heap.size 53 V (0, 0) _ rfl HS.out.1 Try.underlying53 rfl HG.out.1) rfl ⟨rfl, HS.out.2⟩
theorem keys_calls (w : World) :
    Calls Try.prog 30 #[] w fun e w' => e = .returned (.agg (uCells shaKeys)) ∧ Fr [] w w' := keys_core _ rfl w

set_option maxHeartbeats 400000 in
set_option maxRecDepth 100000 in
theorem blocks_calls (w : World) (s : ByteArray) :
    Calls Try.prog 31 #[.string s] w fun e w' => e = .returned (.func (.func 47) #[] #[.pointer (some ⟨w.heap.size, 0, none⟩)]) ∧ w' = w.alloc (.cells #[.string s] 9) := by
  have hmf : ∀ (fn : Fn) (first cap : Array Value) (w : World), (Instr.makeFunc fn first cap).run Try.prog w = .ok (.func fn first cap) w := fun _ _ _ _ => rfl
  go_enter Try.func31, Try.ntmps31
  go_wp2
  go_ret
  exact ⟨rfl, rfl⟩

/-! ### a block's numbers -/
/-- Numbers of a block. -/
def SW : Type := { l : List Nat // l.length = 64 ∧ U32s l }
theorem shaBs_len (s : List UInt8) : ∀ i, (shaBs s i).length = 64
  | 0 => by simp [shaBs]
  | i + 1 => by rw [shaBs, shaB, List.length_set]; exact shaBs_len s i
theorem shaEs_len (w : List Nat) (hw : w.length = 64) : ∀ j, (shaEs w j).length = 64
  | 0 => hw
  | j + 1 => by rw [shaEs, shaE, List.length_set]; exact shaEs_len w hw j
theorem U32s.set {l : List Nat} (h : U32s l) (k v : Nat) (hv : v < 4294967296) : U32s (l.set k v) := by
  intro i
  rw [List.getD_eq_getElem?_getD, List.getElem?_set]
  have := h i
  rw [List.getD_eq_getElem?_getD] at this
  split
  · split
    · exact hv
    · decide
  · exact this
theorem shaB1_lt (x : Nat) (c : UInt8) : (x * 256) % 4294967296 ||| c.toNat < 4294967296 := orr32 (mod32 _) (by have := c.toNat_lt; omega)
theorem shaBs_u (s : List UInt8) : ∀ i, U32s (shaBs s i)
  | 0 => U32s.of_all (by intro x hx; simp [shaBs] at hx; omega)
  | i + 1 => (shaBs_u s i).set _ _ (shaB1_lt _ _)
theorem shaEs_u (w : List Nat) (hw : U32s w) : ∀ j, U32s (shaEs w j)
  | 0 => hw
  | j + 1 => (shaEs_u w hw j).set _ _ (mod32 _)
def shaWsS (s : List UInt8) : SW := ⟨shaWs s, shaEs_len _ (shaBs_len _ _) _, shaEs_u _ (shaBs_u _ _) _⟩
/-- The blocks of a text from its place k on. -/
def shaScan (s : ByteArray) (k : Nat) : List SW := if h : k + 64 ≤ s.size then shaWsS (s.extract k s.size).data.toList :: shaScan s (k + 64) else []
termination_by s.size - k
theorem shaWsS_val (s : List UInt8) : (shaWsS s).1 = shaWs s := by simp only [shaWsS]
theorem shaScan_map (s : ByteArray) (k : Nat) : (shaScan s k).map (·.1) = shaWss s k := by
  rw [shaScan, shaWss]
  split
  · rename_i h
    rw [List.map_cons, shaScan_map s (k + 64), shaWsS_val]
  · rfl
termination_by s.size - k

/-- What a round keeps for the iterator: its own box. -/
def KpV (Bn : Nat) (A B : World) : Prop := A.heap.size ≤ B.heap.size ∧ ∀ v, VarV 9 A Bn v → VarV 9 B Bn v
theorem KpV.trans {Bn : Nat} {A B C : World} (h : KpV Bn A B) (k : KpV Bn B C) : KpV Bn A C := ⟨Nat.le_trans h.1 k.1, fun v hv => k.2 v (h.2 v hv)⟩
theorem KpV.of_fr {Bn : Nat} {A B : World} {S : List Nat} (h : Fr S A B) (hn : Bn ∉ S) : KpV Bn A B := ⟨h.size, fun v hv => hv.keep h hn⟩
theorem KpV.put {Bn : Nat} (W : World) (l : Nat) (o o' : Obj) (h : W.heap[l]? = some o) (hc : o.isCells = false) : KpV Bn W (W.putObj l o') := by
  refine ⟨by simp, fun v hv => ?_⟩
  by_cases e : Bn = l
  · subst e
    have h' : W.heap[Bn]? = some (.cells #[v] 9 (0, 0)) := hv
    rw [h'] at h
    injection h with h
    subst h
    cases hc
  · exact (World.putObj_heap_other e).trans hv

theorem still0 {P : Program} {f : FuncId} {args : Array Value} {w : World} {v : Value} (h : ∀ W, Calls P f args W fun e w' => e = .returned v ∧ W = w') :
    Calls P f args w fun e w'' => e = .returned v ∧ w'' = w := (h _).mono fun _ _ h => ⟨h.1, h.2.symm⟩
/-- In a round: what lay when it began, and the block's numbers so far. -/
structure BlS (W0 w : World) (bw : Nat) (l : List Nat) : Prop where
  ua : UA 53 w bw l
  fr : Fr [] W0 w
  new : W0.heap.size ≤ bw
theorem BlS.make (W0 : World) {n : Nat} (hn : n = W0.heap.size) : BlS W0 (W0.alloc (.cells u64z 53)) n (List.replicate 64 0) :=
  ⟨UA.new _ _ _ hn, (Fr.refl _ _).alloc _, by omega⟩
theorem BlS.set {W0 w : World} {bw : Nat} {l : List Nat} (h : BlS W0 w bw l) (k v : Nat) : BlS W0 (w.setCell ⟨bw, k, none⟩ (.int .u32 (v : Int))) bw (l.set k v) :=
  ⟨h.ua.set k v, h.fr.setCell (.inr h.new) _, h.new⟩
theorem BlS.drew {W0 w : World} {bw : Nat} {l : List Nat} (h : BlS W0 w bw l) : BlS W0 w.drew bw l := ⟨h.ua, h.fr.drew, h.new⟩
theorem BlS.drewN {W0 w : World} {bw : Nat} {l : List Nat} (h : BlS W0 w bw l) (n : Nat) : BlS W0 (w.drewN n) bw l := ⟨h.ua, h.fr.drewN n, h.new⟩
theorem shaB_val {a : Nat} (ha : a < 4294967296) (c : UInt8) : bits .or .u32 ((a : Int) * 256 % 4294967296) (c.toNat : Int) = (((a * 256) % 4294967296 ||| c.toNat : Nat) : Int) :=
  or32 (by simp) rfl (mod32 _) (by have := c.toNat_lt; omega) rfl
theorem s0_val {a : Nat} (ha : a < 4294967296) : bits .xor .u32 (bits .xor .u32 (shaR a 7 : Nat) (shaR a 18 : Nat)) ((a : Int) / 8) = ((shaS0 a : Nat) : Int) ∧ shaS0 a < 4294967296 := by
  have h1 := shaR_lt (k := 7) ha
  have h2 := shaR_lt (k := 18) ha
  have h3 : a / 8 < 4294967296 := by omega
  rw [show (a : Int) / 8 = ((a / 8 : Nat) : Int) from by simp, u32_xor_nat _ _ h1 h2, u32_xor_nat _ _ (xor32 h1 h2) h3]
  exact ⟨rfl, xor32 (xor32 h1 h2) h3⟩
theorem s1_val {a : Nat} (ha : a < 4294967296) : bits .xor .u32 (bits .xor .u32 (shaR a 17 : Nat) (shaR a 19 : Nat)) ((a : Int) / 1024) = ((shaS1 a : Nat) : Int) ∧ shaS1 a < 4294967296 := by
  have h1 := shaR_lt (k := 17) ha
  have h2 := shaR_lt (k := 19) ha
  have h3 : a / 1024 < 4294967296 := by omega
  rw [show (a : Int) / 1024 = ((a / 1024 : Nat) : Int) from by simp, u32_xor_nat _ _ h1 h2, u32_xor_nat _ _ (xor32 h1 h2) h3]
  exact ⟨rfl, xor32 (xor32 h1 h2) h3⟩

set_option maxHeartbeats 4000000 in
set_option maxRecDepth 100000 in
theorem blocks1_in (n : Nat) (hn : 1 ≤ n) (l Bn : Nat) (s : ByteArray) (hs : s.size ≤ 2000000) (J : List SW → World → Prop) (W : World)
    (hJ : AbidesFrom W.heap.size J) (hJB : ∀ pre W1 v, J pre W1 → J pre (W1.setCell ⟨Bn, 0, none⟩ v))
    (hY : ∀ pre x W1, J pre W1 → pre.length < s.size → YieldAt Fence.wide (n - 1) Try.prog l #[.agg (uCells x.1)] W1 fun e W' => e = .returned (.bool true) ∧ J (pre ++ [x]) W' ∧ KpV Bn W1 W')
    (hB : VarV 9 W Bn (.string s)) (h0 : J [] W) :
    CallsIn Fence.wide n Try.prog 47 #[.func (.yield l) #[] #[], .pointer (some ⟨Bn, 0, none⟩)] W fun e W' => (∃ v, e = .returned v) ∧ J (shaScan s 0) W' := by
  refine callsIn_of_wp Try.func47 rfl trivial ?_ rfl
  simp only [Try.ntmps47, List.size_toArray, List.length_cons, List.length_nil, Nat.reduceAdd, Nat.reduceSub, Array.replicate_succ, Array.replicate_zero, List.push_toArray, List.append_toArray, List.nil_append, List.cons_append]
  gi_wp2
  gi_loopw [13] (fun v13 wr => ∃ (k : Nat) (pre : List SW), k ≤ s.size ∧ pre.length ≤ k ∧ Hid (J pre wr ∧ VarV 9 wr Bn (.string (s.extract k s.size)) ∧ pre ++ shaScan s k = shaScan s 0)) (fun _ wr => match wr.cell? ⟨Bn, 0, none⟩ with | some (.string t) => t.size | _ => 0)
  case atStart =>
    refine ⟨0, [], Nat.zero_le _, Nat.le_refl _, h0, ?_, rfl⟩
    have e : s.extract 0 s.size = s := by
      apply ByteArray.ext
      simp
    rw [e]
    exact hB
  case round =>
    obtain ⟨k, pre, hk, hpk, H⟩ := hrel
    have hxs : (s.extract k s.size).size = s.size - k := by rw [ByteArray.size_extract]; omega
    have hc := H.out.2.1.cell
    by_cases hlt : k + 64 ≤ s.size
    · obtain ⟨m, hm⟩ : ∃ m, s.size - k = m + 64 := ⟨s.size - k - 64, by omega⟩
      rw [hm] at hxs
      have hE0 : shaScan s k = shaWsS (s.extract k s.size).data.toList :: shaScan s (k + 64) := by rw [shaScan, dif_pos hlt]
      have hE1 : (s.extract k s.size).extract 64 (s.extract k s.size).size = s.extract (k + 64) s.size := by
        rw [ByteArray.extract_extract, hxs]
        congr 1
        omega
      generalize s.extract k s.size = x at hc hxs H hE0 hE1
      have HE0 := Lib.hid hE0
      have HE1 := Lib.hid hE1
      clear hE0 hE1
      have HX := Lib.hid hxs
      have hx64 : 64 ≤ x.size := by omega
      have hsz2 : x.size ≤ 9223372036854775807 := by omega
      clear hxs hm
      obtain ⟨W0, rfl⟩ : ∃ W0 : World, W0 = wr := ⟨_, rfl⟩
      have B0 := BlS.make W0 rfl
      refine wpIn_wide.2 ?_
      go_wp2_with (refine Go.Great.wpList_allocTo rfl (some 3) rfl _ _ (alloc64 _ _ rfl _) ?_)
      generalize W0.alloc (.cells u64z 53) = W1 at B0 ⊢
      generalize W0.heap.size = bw at B0 ⊢
      have HB0 := Lib.hid B0
      clear B0 hc
      go_loopw [4, 13] (fun v4 v13 wq => ∃ i : Nat, v13 = .int .i64 i ∧ i ≤ 64 ∧ Hid (BlS W0 wq bw (shaBs x.data.toList i))) (fun _ v13 _ => 64 - (intOf v13).toNat)
      case atStart => exact ⟨0, rfl, by decide, HB0⟩
      case round =>
        clear HB0
        obtain ⟨i, rfl, hi, HB⟩ := hrel
        by_cases hlt2 : i < 64
        · have hL := shaBs_len x.data.toList i
          have hU := shaBs_u x.data.toList i (i / 4)
          have hE : Hid (shaBs x.data.toList (i + 1) = (shaBs x.data.toList i).set (i / 4) (((shaBs x.data.toList i).getD (i / 4) 0 * 256) % 4294967296 ||| (x.data.toList.getD i 0).toNat)) := Lib.hid rfl
          have hix : i < x.size := by omega
          have hgx : x.data.toList.getD i 0 = x[i] := by
            have h' : i < x.data.toList.length := by rw [Array.length_toList]; exact hix
            rw [List.getD_eq_getElem?_getD, List.getElem?_eq_getElem h']
            rfl
          rw [hgx] at hE
          generalize shaBs x.data.toList i = lw at HB hL hU hE
          have c0 := HB.out.ua.cell (i / 4) (by rw [hL]; omega)
          have z0 := HB.out.ua.frozen (i / 4)
          have hq := shaB_val hU x[i]
          have hc2 := HB.out.fr.cell' H.out.2.1.cell (by simp)
          have hu8 := (x[i]).toNat_lt
          generalize lw.getD (i / 4) 0 = a at c0 hU hE hq
          have hv : (a * 256) % 4294967296 ||| (x[i]).toNat < 4294967296 := shaB1_lt a x[i]
          generalize (a * 256) % 4294967296 ||| (x[i]).toNat = v at hE hq hv
          have HQ := Lib.hid hq
          clear hq
          have hi0 : (0 : Int) ≤ (i : Int) := by omega
          have hi1 : (i : Int) / 4 < 64 := by omega
          have hi2 : (0 : Int) ≤ (i : Int) / 4 := by omega
          have hi3 : (i : Int) < x.size := by omega
          clear hL hgx
          go_wp2_with fail
          go_region
          all_goals
            go_wp2_with fail
            refine ⟨⟨i + 1, by go_num, by omega, Lib.hid ?_⟩, by simp only [intOf]; omega⟩
            rw [HQ.out, hE.out]
            exact (HB.out.set _ _).drew
        · obtain rfl : i = 64 := by omega
          rw [show (((64 : Nat) : Int)) = (64 : Int) from rfl]
          have hL := shaBs_len x.data.toList 64
          have hU := shaBs_u x.data.toList 64
          have hE : Hid (shaWs x.data.toList = shaEs (shaBs x.data.toList 64) 48) := Lib.hid (by rw [shaWs])
          generalize shaBs x.data.toList 64 = lw at HB hL hU hE
          clear hi hlt2
          go_wp2_with fail
          have H1 := Lib.hid (show BlS W0 wr bw (shaEs lw (16 - 16)) from HB.out)
          clear HB
          go_loopw [5, 6, 7] (fun v5 v6 v7 wq => ∃ i : Nat, v5 = .int .i64 i ∧ 16 ≤ i ∧ i ≤ 64 ∧ Hid (BlS W0 wq bw (shaEs lw (i - 16)))) (fun v5 _ _ _ => 64 - (intOf v5).toNat)
          case atStart => exact ⟨16, rfl, by decide, by decide, H1⟩
          case round =>
            clear H1
            obtain ⟨i, rfl, hi16, hi, HB⟩ := hrel
            have hEL := shaEs_len lw hL (i - 16)
            have hEU := shaEs_u lw hU (i - 16)
            by_cases hlt2 : i < 64
            · have hEE : Hid (shaEs lw (i + 1 - 16) = (shaEs lw (i - 16)).set i (shaE1 (shaEs lw (i - 16)) i)) := Lib.hid (by
                rw [show i + 1 - 16 = (i - 16) + 1 from by omega, shaEs, shaE, show i - 16 + 16 = i from by omega])
              generalize shaEs lw (i - 16) = e at HB hEL hEU hEE
              have c0 := HB.out.ua.cell (i - 16) (by rw [hEL]; omega)
              have c1 := HB.out.ua.cell (i - 7) (by rw [hEL]; omega)
              have c2 := HB.out.ua.cell (i - 15) (by rw [hEL]; omega)
              have c3 := HB.out.ua.cell (i - 2) (by rw [hEL]; omega)
              have z0 := HB.out.ua.frozen i
              have u0 := hEU (i - 16)
              have u1 := hEU (i - 7)
              have u2 := hEU (i - 15)
              have u3 := hEU (i - 2)
              have c4 := HB.out.ua.cell i (by rw [hEL]; omega)
              have hE1 : Hid (shaE1 e i = (e.getD (i - 16) 0 + e.getD (i - 7) 0 + shaS0 (e.getD (i - 15) 0) + shaS1 (e.getD (i - 2) 0)) % 4294967296) := Lib.hid rfl
              generalize e.getD (i - 16) 0 = a0 at c0 u0 hE1
              generalize e.getD (i - 7) 0 = a1 at c1 u1 hE1
              generalize e.getD (i - 15) 0 = a2 at c2 u2 hE1
              generalize e.getD (i - 2) 0 = a3 at c3 u3 hE1
              have HV : Hid (((a0 : Int) + a1 + shaS0 a2 + shaS1 a3) % 4294967296 = ((shaE1 e i : Nat) : Int)) := Lib.hid (by rw [hE1.out]; omega)
              obtain ⟨q0, b0⟩ := s0_val u2
              obtain ⟨q1, b1⟩ := s1_val u3
              generalize shaS0 a2 = S0 at q0 b0 HV
              generalize shaS1 a3 = S1 at q1 b1 HV
              clear hE1
              have j0 : (0 : Int) ≤ (i : Int) - 16 := by omega
              have j1 : (0 : Int) ≤ (i : Int) - 15 := by omega
              have j2 : (0 : Int) ≤ (i : Int) - 7 := by omega
              have j3 : (0 : Int) ≤ (i : Int) - 2 := by omega
              have k0 : (i : Int) - 16 < 64 := by omega
              have k1 : (i : Int) - 15 < 64 := by omega
              have k2 : (i : Int) - 7 < 64 := by omega
              have k3 : (i : Int) - 2 < 64 := by omega
              have k4 : (i : Int) < 64 := by omega
              have k5 : (0 : Int) ≤ (i : Int) := by omega
              have m0 : (16 : Int) ≤ (i : Int) := by omega
              have m1 : (15 : Int) ≤ (i : Int) := by omega
              have m2 : (7 : Int) ≤ (i : Int) := by omega
              have m3 : (2 : Int) ≤ (i : Int) := by omega
              have HEL := Lib.hid hEL
              clear hEL hEU
              go_wp2_with fail
              go_quiet (fail)
              obtain ⟨w2, hw2⟩ : ∃ w2 : World, (wr.drewN nq).drew = w2 := ⟨_, rfl⟩
              have d0 : w2.cell? ⟨bw, i - 16, none⟩ = some (.int .u32 (a0 : Int)) := by rw [← hw2]; exact c0
              have d1 : w2.cell? ⟨bw, i - 7, none⟩ = some (.int .u32 (a1 : Int)) := by rw [← hw2]; exact c1
              have HB2 : Hid (BlS W0 w2 bw e) := Lib.hid (by rw [← hw2]; exact (HB.out.drewN _).drew)
              have d4 : w2.cell? ⟨bw, i, none⟩ = _ := HB2.out.ua.cell i (by have := shaEs_len; rw [HEL.out]; omega)
              have z2 := HB2.out.ua.frozen i
              have r0 : IntKind.i64.wrap ((i : Int) - 16) = (i : Int) - 16 := by rw [IntKind.wrap_i64]; omega
              have r1 : IntKind.i64.wrap ((i : Int) - 7) = (i : Int) - 7 := by rw [IntKind.wrap_i64]; omega
              have r2 : ((i : Int) - 16).toNat = i - 16 := by omega
              have r3 : ((i : Int) - 7).toNat = i - 7 := by omega
              have HW2 := Lib.hid hw2
              clear c0 c1 c2 c3 c4 z0 hw2
              go_wp2_with fail
              refine wp_region_still_tail 29 (by kernel_rfl) (by kernel_rfl) ?_
              simp only [List.take_succ_cons, List.take_zero, List.drop_succ_cons, List.drop_zero]
              change wpStill _ _ (wr.drewN nq).drew (fun a' => wpList _ _ _ _ a' (wr.drewN nq).drew) _ _
              rw [HW2.out]
              repeat still_step
              refine wpStill_step (fun K hK => ?_)
              go_simp
              with_reducible refine ⟨_, still0 (fun W => right7_calls W a2 rfl u2), hK _ ?_⟩
              clear hK K
              repeat still_step
              refine wpStill_step (fun K hK => ?_)
              go_simp
              with_reducible refine ⟨_, still0 (fun W => right18_calls W a2 rfl u2), hK _ ?_⟩
              clear hK K
              repeat still_step
              refine wpStill_step (fun K hK => ?_)
              go_simp
              with_reducible refine ⟨_, still0 (fun W => right17_calls W a3 rfl u3), hK _ ?_⟩
              clear hK K
              repeat still_step
              refine wpStill_step (fun K hK => ?_)
              go_simp
              with_reducible refine ⟨_, still0 (fun W => right19_calls W a3 rfl u3), hK _ ?_⟩
              clear hK K
              repeat still_step
              refine wpStill_nil ?_
              go_wp2_with fail
              clear r0 r1 r2 r3
              rw [HV.out]
              refine ⟨⟨i + 1, by go_num, by omega, by omega, Lib.hid (by rw [hEE.out]; exact HB2.out.set _ _)⟩, by simp only [intOf]; omega⟩
            · obtain rfl : i = 64 := by omega
              rw [show 64 - 16 = 48 from rfl, ← hE.out] at HB
              rw [show 64 - 16 = 48 from rfl, ← hE.out] at hEL
              rw [show (((64 : Nat) : Int)) = (64 : Int) from rfl]
              go_upto_region 13 with fail
              refine (wpIn_wide (n := n)).1 ?_
              have hJ1 := hJ _ _ _ none H.out.1 HB.out.fr.grownBy (by simp)
              have hV1 := H.out.2.1.keep HB.out.fr (by simp)
              have hY1 := hY pre (shaWsS x.data.toList) wr hJ1 (by omega)
              rw [shaWsS_val] at hY1
              obtain ⟨fn, tmps, assign, body, hy, hR⟩ := hY1
              have HI : Hid ((Try.prog.info? 53).map (·.size) = some (uCells (shaWs x.data.toList)).size) := Lib.hid (by rw [uCells_size, hEL]; exact info64)
              have HV1 := Lib.hid hV1
              generalize hws : shaWs x.data.toList = Ws at *
              clear hws hL hU hE hEL hEU hJ1 hV1 hi16 hi hlt2
              gi_wp2_with (refine wpListIn_loadRow rfl _ _ rfl bw rfl 53 (uCells Ws) (0, 0) _ HB.out.ua Try.underlying53 rfl HI.out ?_)
              refine hR.mono ?_
              rintro e w3 ⟨rfl, hJ3, hk3⟩
              have HV3 := Lib.hid (hk3.2 _ HV1.out)
              have hc3 := HV3.out.cell
              have hz3 := HV3.out.frozen 0
              have HJ3 := Lib.hid hJ3
              clear hy hR hJ3 hk3
              gi_wp2_with fail
              go_wp2_with fail
              have hm0 : (match (w3.setCell ⟨Bn, 0, none⟩ (.string (x.extract 64 x.size))).cell? ⟨Bn, 0, none⟩ with | some (.string t) => t.size | _ => 0) = x.size - 64 := by
                have := (HV3.out.set (.string (x.extract 64 x.size))).cell
                rw [this]
                simp only [ByteArray.size_extract]
                omega
              have hm1 : (match W0.cell? ⟨Bn, 0, none⟩ with | some (.string t) => t.size | _ => 0) = x.size := by
                rw [H.out.2.1.cell]
              rw [hm0, hm1]
              refine ⟨⟨k + 64, pre ++ [shaWsS x.data.toList], hlt, by rw [List.length_append]; simp; omega, Lib.hid ⟨hJB _ _ _ HJ3.out, ?_, ?_⟩⟩, by omega⟩
              · rw [← HE1.out]
                exact HV3.out.set _
              · rw [← H.out.2.2, HE0.out, List.append_assoc, List.singleton_append]
    · have hE0 : shaScan s k = [] := by rw [shaScan, dif_neg hlt]
      have HJ0 : Hid (J (shaScan s 0) wr) := Lib.hid (by rw [← H.out.2.2, hE0, List.append_nil]; exact H.out.1)
      have hx64 : (s.extract k s.size).size < 64 := by omega
      generalize s.extract k s.size = x at hc hx64 H
      have hx65 : ¬ 64 ≤ (x.size : Int) := by omega
      clear hE0 hxs H hlt
      gi_wp2_with fail
      go_end0
      exact ⟨⟨_, rfl⟩, HJ0.out⟩

/-- The function value that 'blocks' hands back: it gives the blocks, one by one. -/
theorem blocks_gives (n : Nat) (hn : 1 ≤ n) (l Bn : Nat) (s : ByteArray) (hs : s.size ≤ 2000000) (J : List SW → World → Prop) (W : World)
    (hJ : AbidesFrom W.heap.size J) (hJB : ∀ pre W1 v, J pre W1 → J pre (W1.setCell ⟨Bn, 0, none⟩ v))
    (hY : ∀ pre x W1, J pre W1 → pre.length < s.size → YieldAt Fence.wide (n - 1) Try.prog l #[.agg (uCells x.1)] W1 fun e W' => e = .returned (.bool true) ∧ J (pre ++ [x]) W' ∧ KpV Bn W1 W')
    (hB : VarV 9 W Bn (.string s)) (h0 : J [] W) :
    CallsIn Fence.wide n Try.prog 47 (#[.func (.yield l) #[] #[]] ++ #[.pointer (some ⟨Bn, 0, none⟩)]) W fun e W' => (∃ v, e = .returned v) ∧ J (shaScan s 0) W' :=
  blocks1_in n hn l Bn s hs J W hJ hJB hY hB h0
end Go.Proofs.Ytlcfambhjclkiaa
