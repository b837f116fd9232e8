/- The contract of sha.Sum. -/
import Derived.Test.YtlcfambhjclkiaaRangeBox
import Derived.Test.YtlcfambhjclkiaaShaFill
import Derived.Test.YtlcfambhjclkiaaBWrite
namespace Go.Proofs.Ytlcfambhjclkiaa
open Go.RowKit Go.Shelf
set_option linter.unusedVariables false
set_option linter.unusedSimpArgs false
attribute [local go_sem] Oper.semAt_some

/-- Texts, one behind the other. -/
def catB (l : List ByteArray) : ByteArray := lB (l.map (·.data.toList)).flatten
theorem join_nil : ∀ (l : List (List UInt8)), Lib.join l [] = l.flatten
  | [] => rfl
  | [x] => by simp [Lib.join]
  | x :: y :: l => by
    have h := join_nil (y :: l)
    simp [Lib.join] at h ⊢
    rw [h]
theorem Join_calls (w : World) (A : Option Addr) (c : Nat) (l : List ByteArray) (hA : RdV w A (l.map .string)) (hsp : ∀ ad, A = some ad → ad.spot = none) (hc : l.length ≤ c) (hl : l.length ≤ 1000000) (hs : (catB l).size ≤ 140737488355328) :
    Calls Try.prog 33 #[.slice A l.length c, .string ⟨#[]⟩] w fun e w' => e = .returned (.string (catB l)) ∧ Fr [] w w' := by
  cases l with
  | nil =>
    refine (Try.strings_Join_none A c ⟨#[]⟩ w).mono ?_
    rintro e w' ⟨rfl, rfl⟩
    exact ⟨rfl, Fr.refl _ _⟩
  | cons x l =>
    obtain ⟨ad, rfl, h0⟩ := hA 0 (.string x) rfl
    obtain ⟨bk, o, sp⟩ := ad
    obtain rfl : sp = none := hsp _ rfl
    have hlt := World.block_lt_of_cell? w _ h0
    rw [Addr.add_lit] at hlt
    have hj : Lib.join ((x :: l).map (·.data.toList)) (⟨#[]⟩ : ByteArray).data.toList = ((x :: l).map (·.data.toList)).flatten := join_nil _
    refine (Try.strings_Join bk o c (x :: l) ⟨#[]⟩ w (fun j y hy => ?_) hlt (by omega) hc (by rw [hj]; rw [catB, lB_size] at hs; exact hs)).mono ?_
    · obtain ⟨ad', ha, hcell⟩ := hA j (.string y) (by rw [List.getElem?_map, hy]; rfl)
      injection ha with ha
      subst ha
      rw [Addr.add_lit] at hcell
      exact hcell
    · rintro e w' ⟨rfl, hb⟩
      exact ⟨by rw [hj]; rfl, Fr.of_below hb⟩

section
variable {F : Fence} {n : Nat} {P : Program}
theorem wpListIn_allocTo {ops : Array Oper} {rest : List Oper} {o : Oper} {a : Act} {w : World} {Q : Exit → Act → World → Prop} (hgd : o.guard = none) (T : TypeId) (ho : o.op = .alloc T) (dst : Option Tmp) (hd : o.dst = dst) (v : Value) (ob : Obj)
    (hrun : (execOp a.eval o).run P w = .ok (.value v) (w.alloc ob)) (h : wpListIn F n P ops Q rest (a.put dst v) (w.alloc ob)) : wpListIn F n P ops Q (o :: rest) a w := by
  subst hd
  refine wpListIn_plain hgd fun K hK => ?_
  unfold Oper.wpIn
  refine ⟨by simp [Oper.about, ho], ?_⟩
  rw [Oper.semAt_plain F _ _ (by rw [ho]; intro c hc'; cases hc'), hrun]
  exact hK _ _ h
end

theorem shaOut_take (h : List Nat) (j : Nat) (hj : j < h.length) : lB ((h.take j).flatMap shaNum) ++ lB (shaNum (h.getD j 0)) = lB ((h.take (j + 1)).flatMap shaNum) := by
  rw [lB_app, List.take_succ_eq_append_getElem hj, List.flatMap_append, List.getD_eq_getElem?_getD, List.getElem?_eq_getElem hj]
  simp
theorem shaOut_len (l : List Nat) : (lB (l.flatMap shaNum)).size = 4 * l.length := by
  rw [lB_size]
  induction l with
  | nil => rfl
  | cons x l ih => rw [List.flatMap_cons, List.length_append, ih, List.length_cons, show (shaNum x).length = 4 from rfl]; omega
theorem Fr.putObj {S : List Nat} {a w : World} (h : Fr S a w) {l : Nat} (hl : l ∈ S ∨ a.heap.size ≤ l) (o : Obj) : Fr S a (w.putObj l o) :=
  ⟨h.os, h.tape, h.output, by simp; exact h.size, fun k hk hn => (World.putObj_heap_other (by rintro rfl; exact hl.elim hn (fun h1 => by omega))).trans (h.block k hk hn)⟩
/-- The digest behind some blocks. -/
def shaHs (pre : List SW) : List Nat := pre.foldl (fun h x => shaIn h x.1) shaBegin
theorem shaIn_len (h w : List Nat) : (shaIn h w).length = 8 := by rw [shaIn, shaAdd, List.length_map, List.length_range]
theorem shaIn_u (h w : List Nat) : U32s (shaIn h w) := U32s.of_all (by
  intro x hx
  rw [shaIn, shaAdd, List.mem_map] at hx
  obtain ⟨i, _, rfl⟩ := hx
  exact mod32 _)
theorem shaHs_snoc (pre : List SW) (x : SW) : shaHs (pre ++ [x]) = shaIn (shaHs pre) x.1 := by rw [shaHs, List.foldl_append]; rfl
theorem shaHs_ok (pre : List SW) : (shaHs pre).length = 8 ∧ U32s (shaHs pre) := by
  rcases List.eq_nil_or_concat pre with rfl | ⟨l, x, rfl⟩
  · exact ⟨rfl, U32s.of_all (by decide)⟩
  · rw [List.concat_eq_append, shaHs_snoc]
    exact ⟨shaIn_len _ _, shaIn_u _ _⟩
theorem shaHs_scan (s : ByteArray) : shaHs (shaScan (shaFill s) 0) = shaH s := by
  rw [shaH, ← shaScan_map, List.foldl_map]
  rfl
theorem keys_len : shaKeys.length = 64 := rfl
theorem keys_u : U32s shaKeys := U32s.of_all (by decide)

/-- Where Sum stands between two rounds. -/
structure SumI (w0 W : World) (bh bk : Nat) (h : List Nat) : Prop where
  ah : UA 51 W bh h
  ak : UA 53 W bk shaKeys
  fr : Fr [] w0 W
  nw : w0.heap.size ≤ bh ∧ bh < bk
theorem SumI.keep {w0 W W' : World} {bh bk : Nat} {h : List Nat} {S : List Nat} (s : SumI w0 W bh bk h) (hf : Fr S W W') (hS : ∀ k, k ∈ S → bk < k) : SumI w0 W' bh bk h := by
  obtain ⟨ah, ak, fr, n0, n1⟩ := s
  exact ⟨ah.keep hf (fun e => by have := hS _ e; omega), ak.keep hf (fun e => by have := hS _ e; omega), fr.trans hf (fun i hi => .inr (by have := hS _ hi; omega)), n0, n1⟩
theorem SumI.own {w0 : World} {bh bk B Bn : Nat} (hB : bk < B) : OwnFrom B (fun (pre : List SW) W => SumI w0 W bh bk (shaHs pre) ∧ Bn < W.heap.size) := by
  rintro pre W W' row ⟨hs, hn⟩ hg hr
  have hf : Fr row.toList W W' := ⟨hg.os, hg.tape, hg.output, hg.size, fun k hk hn => hg.block k hk (fun e => hn (by rw [← e]; simp))⟩
  refine ⟨hs.keep hf (fun k hk => ?_), Nat.lt_of_lt_of_le hn hg.size⟩
  have := (hr k (by simpa using hk)).1
  omega
theorem SumI.box {w0 W : World} {bh bk Bn : Nat} {h : List Nat} (s : SumI w0 W bh bk h) (hB : bk < Bn) (v : Value) : SumI w0 (W.setCell ⟨Bn, 0, none⟩ v) bh bk h :=
  s.keep (S := [Bn]) ((Fr.refl _ _).setCell (.inl (by simp)) _) (fun k hk => by simp at hk; omega)
theorem SumI.make {w w2 : World} (hf : Fr [] w w2) {V : Array Value} (hV : V = uCells shaKeys) : ((w2.alloc (.cells #[.int .u32 0, .int .u32 0, .int .u32 0, .int .u32 0, .int .u32 0, .int .u32 0, .int .u32 0, .int .u32 0] 51)).alloc (.cells u64z 53)).heap[w2.heap.size]? = some (.cells #[.int .u32 0, .int .u32 0, .int .u32 0, .int .u32 0, .int .u32 0, .int .u32 0, .int .u32 0, .int .u32 0] 51 (0, 0)) ∧
    (((w2.alloc (.cells #[.int .u32 0, .int .u32 0, .int .u32 0, .int .u32 0, .int .u32 0, .int .u32 0, .int .u32 0, .int .u32 0] 51)).alloc (.cells u64z 53)).setRow w2.heap.size (uCells shaBegin)).heap[(w2.alloc (.cells #[.int .u32 0, .int .u32 0, .int .u32 0, .int .u32 0, .int .u32 0, .int .u32 0, .int .u32 0, .int .u32 0] 51)).heap.size]? = some (.cells u64z 53 (0, 0)) ∧
    SumI w ((((w2.alloc (.cells #[.int .u32 0, .int .u32 0, .int .u32 0, .int .u32 0, .int .u32 0, .int .u32 0, .int .u32 0, .int .u32 0] 51)).alloc (.cells u64z 53)).setRow w2.heap.size (uCells shaBegin)).setRow (w2.heap.size + 1) V) w2.heap.size (w2.heap.size + 1) (shaHs []) := by
  subst hV
  have a0 := (((Fr.refl [] (w2.alloc (.cells #[.int .u32 0, .int .u32 0, .int .u32 0, .int .u32 0, .int .u32 0, .int .u32 0, .int .u32 0, .int .u32 0] 51))).alloc (.cells u64z 53)).block _ (by simp) (by simp)).trans (heap_alloc_new w2 _)
  have a1 := heap_alloc_new (w2.alloc (.cells #[.int .u32 0, .int .u32 0, .int .u32 0, .int .u32 0, .int .u32 0, .int .u32 0, .int .u32 0, .int .u32 0] 51)) (.cells u64z 53)
  rw [World.size_alloc] at a1
  have a2 : (((w2.alloc (.cells #[.int .u32 0, .int .u32 0, .int .u32 0, .int .u32 0, .int .u32 0, .int .u32 0, .int .u32 0, .int .u32 0] 51)).alloc (.cells u64z 53)).setRow w2.heap.size (uCells shaBegin)).heap[w2.heap.size + 1]? = some (.cells u64z 53 (0, 0)) := (setRow_other _ _ _ _ (by omega)).trans a1
  refine ⟨a0, by rw [World.size_alloc]; exact a2, ?_, setRow_heap _ _ _ _ _ _ a2, ?_, hf.size, by omega⟩
  · exact (setRow_other _ _ _ _ (by omega)).trans (setRow_heap _ _ _ _ _ _ a0)
  · have f1 : Fr [] w ((w2.alloc (.cells #[.int .u32 0, .int .u32 0, .int .u32 0, .int .u32 0, .int .u32 0, .int .u32 0, .int .u32 0, .int .u32 0] 51)).alloc (.cells u64z 53)) := (hf.alloc _).alloc _
    have fs : ∀ (W : World) (g : Nat) (cs : Array Value), Fr [g] W (W.setRow g cs) := fun W g cs => ⟨rfl, rfl, rfl, by simp, fun k _ hk => setRow_other _ _ _ _ (fun e => hk (by simp [e]))⟩
    have hs := hf.size
    exact (f1.trans (fs _ _ _) (fun i hi => .inr (by simp at hi; omega))).trans (fs _ _ _) (fun i hi => .inr (by simp at hi; omega))

theorem fr_setRow1 (W : World) (g : Nat) (cs : Array Value) : Fr [g] W (W.setRow g cs) := ⟨rfl, rfl, rfl, by simp, fun k _ hk => setRow_other _ _ _ _ (fun e => hk (by simp [e]))⟩
theorem keeps_setRow {W : World} {g : Nat} {old : Array Value} {T : TypeId} {fz : Nat × Nat} (h : W.heap[g]? = some (.cells old T fz)) (cs : Array Value) : KeepsOthers W (W.setRow g cs) :=
  ⟨by simp, fun k o hk ho => by
    by_cases e : k = g
    · subst e
      rw [h] at hk
      injection hk with hk
      subst hk
      cases ho
    · exact (setRow_other _ _ _ _ e).trans hk⟩
/-- A variable of its own for a block's numbers. -/
theorem box_make (W : World) (x : List Nat) : Fr [] W ((W.alloc (.cells u64z 53)).setRow W.heap.size (uCells x)) ∧ KeepsOthers W ((W.alloc (.cells u64z 53)).setRow W.heap.size (uCells x)) ∧ UA 53 ((W.alloc (.cells u64z 53)).setRow W.heap.size (uCells x)) W.heap.size x :=
  ⟨((Fr.refl [] W).alloc _).trans (fr_setRow1 _ _ _) (fun i hi => .inr (by simp at hi; omega)), (KeepsOthers.alloc _ _).trans (keeps_setRow (heap_alloc_new W _) _), setRow_heap _ _ _ _ _ _ (heap_alloc_new W _)⟩
theorem SumI.store {w0 W : World} {bh bk : Nat} {h : List Nat} (s : SumI w0 W bh bk h) (y : List Nat) : SumI w0 (W.setRow bh (uCells y)) bh bk y := by
  obtain ⟨ah, ak, fr, n0, n1⟩ := s
  exact ⟨ah.row y, ak.keep (fr_setRow1 _ _ _) (by simp; omega), fr.trans (fr_setRow1 _ _ _) (fun i hi => .inr (by simp at hi; omega)), n0, n1⟩

theorem index8 (h : List Nat) (hl : h.length = 8) (j : Nat) (hj : j < 8) (w : World) : (Instr.index 51 (.agg (uCells h)) (.int .i64 (j : Int))).run Try.prog w = .ok (.int .u32 ((h.getD j 0 : Nat) : Int)) w := by
  obtain ⟨a, b, c, d, e, f, g, k, rfl⟩ := list8 hl
  match j, hj with
  | 0, _ => rfl
  | 1, _ => rfl
  | 2, _ => rfl
  | 3, _ => rfl
  | 4, _ => rfl
  | 5, _ => rfl
  | 6, _ => rfl
  | 7, _ => rfl
theorem shaNum_cells (x : Nat) (hx : x < 4294967296) : Lib.strCells (lB (shaNum x)) = [.int .u8 ((x : Int) / 16777216), .int .u8 ((x : Int) / 65536 % 256), .int .u8 ((x : Int) / 256 % 256), .int .u8 ((x : Int) % 256)] := by
  simp only [Lib.strCells, lB, shaNum, List.map_cons, List.map_nil, UInt8.toNat_ofNat']
  have h1 : (x : Int) % 256 = ((x % 256 : Nat) : Int) := by simp
  have h2 : (x : Int) / 256 % 256 = ((x / 256 % 256 : Nat) : Int) := by simp
  have h3 : (x : Int) / 65536 % 256 = ((x / 65536 % 256 : Nat) : Int) := by simp
  have h4 : (x : Int) / 16777216 = ((x / 16777216 % 256 : Nat) : Int) := by omega
  rw [h1, h2, h3, h4]

set_option maxHeartbeats 4000000 in
set_option maxRecDepth 100000 in
theorem Sum_in (n : Nat) (hn : 5 ≤ n) (w : World) (A : Option Addr) (c : Nat) (l : List ByteArray) (hA : RdV w A (l.map .string)) (hsp : ∀ ad, A = some ad → ad.spot = none) (hc : l.length ≤ c) (hl : l.length ≤ 1000000) (hs : (catB l).size ≤ 1000000) :
    CallsIn Fence.wide n Try.prog 16 #[.slice A l.length c] w fun e w' => e = .returned (.string (shaSum (catB l))) ∧ Fr [] w w' := by
  have h1 : 1 ≤ n := by omega
  refine callsIn_of_wp_marks Try.func16 rfl trivial ?_ rfl
  simp only [Try.ntmps16, List.size_toArray, List.length_cons, List.length_nil, Nat.reduceAdd, Nat.reduceSub, Array.replicate_succ, Array.replicate_zero, List.push_toArray, List.append_toArray, List.nil_append, List.cons_append]
  refine wpIn_wide.2 ?_
  go_wp2_with fail
  (with_reducible refine (begin_calls _).mono ?_)
  rintro e w1 ⟨rfl, hf1⟩
  go_wp2_with fail
  obtain ⟨VK, hVK⟩ : ∃ V, V = uCells shaKeys := ⟨_, rfl⟩
  (with_reducible refine (keys_core VK hVK _).mono ?_)
  rintro e w2 ⟨rfl, hf2⟩
  have HM := Lib.hid (SumI.make (hf1.then hf2) hVK)
  have HK : Hid ((Try.prog.info? 53).map (·.size) = some VK.size ∧ u64z.size = VK.size ∧ VK.all (·.oneCell') = true) := Lib.hid ⟨by rw [hVK, uCells_size, keys_len]; exact info64, by rw [hVK, uCells_size, keys_len, u64z, uCells_size, List.length_replicate], by rw [hVK]; exact uCells_one _⟩
  clear hVK
  clear hf1 hf2
  go_wp2_with (first | (refine Go.Great.wpList_allocTo rfl (some 4) rfl _ _ (alloc64 _ _ rfl _) ?_) | (refine wpList_store_row rfl _ _ _ rfl w2.heap.size (uCells shaBegin) rfl rfl 51 #[.int .u32 0, .int .u32 0, .int .u32 0, .int .u32 0, .int .u32 0, .int .u32 0, .int .u32 0, .int .u32 0] HM.out.1 info8 rfl (uCells_one _) ?_) | (refine wpList_store_row rfl _ _ _ rfl ((w2.alloc (.cells #[.int .u32 0, .int .u32 0, .int .u32 0, .int .u32 0, .int .u32 0, .int .u32 0, .int .u32 0, .int .u32 0] 51)).heap.size) VK rfl rfl 53 u64z HM.out.2.1 HK.out.1 HK.out.2.1 HK.out.2.2 ?_))
  have HI0 := Lib.hid HM.out.2.2
  have hA2 : RdV ((((w2.alloc (.cells #[.int .u32 0, .int .u32 0, .int .u32 0, .int .u32 0, .int .u32 0, .int .u32 0, .int .u32 0, .int .u32 0] 51)).alloc (.cells u64z 53)).setRow w2.heap.size (uCells shaBegin)).setRow (w2.heap.size + 1) VK) A (l.map .string) := hA.keep HI0.out.fr (fun _ _ => by simp)
  clear HM
  generalize ((((w2.alloc (.cells _ 51)).alloc (.cells u64z 53)).setRow w2.heap.size (uCells shaBegin)).setRow (w2.heap.size + 1) VK) = W3 at HI0 hA2 ⊢
  generalize w2.heap.size + 1 = bk at HI0 ⊢
  generalize w2.heap.size = bh at HI0 ⊢
  (with_reducible refine (Join_calls W3 A c l hA2 hsp hc hl (by omega)).mono ?_)
  rintro e w4 ⟨rfl, hf4⟩
  have HI4 := Lib.hid (HI0.out.keep hf4 (by simp))
  generalize hcat : catB l = s at hs ⊢
  have HCAT := Lib.hid hcat
  clear hcat
  generalize l.length = lc at *
  clear hA hA2 hsp hc hl HI0 hf4
  go_wp2_with fail
  (with_reducible refine (fill_calls w4 s hs).mono ?_)
  rintro e w5 ⟨rfl, hf5⟩
  have HI5 := Lib.hid (HI4.out.keep hf5 (by simp))
  clear HI4 hf5
  have HT : Hid ((shaFill s).size ≤ 2000000) := Lib.hid (by
    rw [shaFill, ByteArray.size_append, ByteArray.size_append, ByteArray.size_append, lB_size, lB_size, List.length_replicate]
    have e1 : (⟨#[128]⟩ : ByteArray).size = 1 := rfl
    have e2 : (shaLen (s.size * 8)).length = 8 := rfl
    have e3 : shaZeros s.size < 64 := Nat.mod_lt _ (by decide)
    omega)
  have HE := Lib.hid (shaHs_scan s)
  generalize hft : shaFill s = t at HT HE ⊢
  clear hft
  go_wp2_with fail
  (with_reducible refine (blocks_calls w5 t).mono ?_)
  rintro e w6 ⟨rfl, hw6⟩
  have HB6 : Hid (VarV 9 w6 w5.heap.size (.string t) ∧ bk < w5.heap.size ∧ w6.heap.size = w5.heap.size + 1) := Lib.hid (by
    rw [hw6]
    exact ⟨VarV.new _ _ _ rfl, by have := HI5.out.ak.lt; omega, by simp⟩)
  have HI6 : Hid (SumI w w6 bh bk (shaHs [])) := Lib.hid (by rw [hw6]; exact HI5.out.keep ((Fr.refl [] _).alloc _) (by simp))
  clear HI5 hw6
  have HWW : Hid (w.heap.size ≤ w6.heap.size) := Lib.hid HI6.out.fr.size
  generalize w5.heap.size = Bn at HB6 ⊢
  go_wp2_with fail
  refine (wpIn_wide (n := n)).1 ?_
  refine range_box rfl h1 (gf := 47) (lb := #[.pointer (some ⟨Bn, 0, none⟩)]) rfl trivial (enters_of Try.func47 (by kernel_rfl) rfl) (encs := fun x : SW => #[.agg (uCells x.1)]) (fun _ => rfl)
    (Kp := KpV Bn) KpV.trans (fun W l o o' h hc => KpV.put W l o o' h hc) (Bn := Bn) (by have := HB6.out.2.2; omega) (P0 := fun W => VarV 9 W Bn (.string t)) (fun W o h => h.keep ((Fr.refl [] W).alloc o) (by simp)) HB6.out.1
    (S := shaScan t 0) (N := t.size) (fun l J W a b c d e => blocks_gives (n - 1) (by omega) l Bn t HT.out J W a b c d e)
    (fun pre W => SumI w W bh bk (shaHs pre) ∧ Bn < W.heap.size) (SumI.own (by have := HB6.out.2; omega)) (fun pre W v h => ⟨h.1.box HB6.out.2.1 v, by simp; exact h.2⟩) ⟨HI6.out, by have := HB6.out.2.2; omega⟩
    (fun x a' W => ∃ bx, bk < bx ∧ bx ≠ Bn ∧ UA 53 W bx x.1 ∧ a' = { tmps := #[.slice A lc c, undef, .string ⟨#[]⟩, .pointer (some ⟨bh, 0, none⟩), .pointer (some ⟨bk, 0, none⟩), .pointer (some ⟨bx, 0, none⟩), undef, undef, undef, .agg (uCells shaBegin), .agg VK, .slice A lc c, .string s, .string t, .func (.func 47) #[] #[.pointer (some ⟨Bn, 0, none⟩)], .agg (uCells x.1), undef, undef, undef, undef, undef, undef, undef, undef, undef, undef, undef, undef, undef, undef, undef, undef, undef, undef, undef, undef, undef, undef, undef], defers := [] }) ?hax ?assign ?body ?done
  case hax =>
    rintro x a' _ W W' row ⟨bx, hb1, hb2, hbx, ha⟩ hg hr
    refine ⟨bx, hb1, hb2, (hg.block bx hbx.lt (fun e => ?_)).trans hbx, ha⟩
    obtain ⟨_, o, ho, hoc⟩ := hr bx e.symm
    have h' : W.heap[bx]? = some (.cells (uCells x.1) 53 (0, 0)) := hbx
    rw [h'] at ho
    injection ho with ho
    subst ho
    cases hoc
  case assign =>
    rintro l pre x W K hi hK
    have hm := Lib.hid (box_make W x.1)
    have hlen : Hid ((Try.prog.info? 53).map (·.size) = some (uCells x.1).size ∧ u64z.size = (uCells x.1).size) := Lib.hid ⟨by rw [uCells_size, x.2.1]; exact info64, by rw [uCells_size, x.2.1, u64z, uCells_size, List.length_replicate]⟩
    simp only [List.zip_toArray, List.zip_cons_cons, List.zip_nil_left, List.zip_nil_right, List.foldl_toArray', List.foldl_cons, List.foldl_nil, List.setIfInBounds_toArray, List.set_cons_succ, List.set_cons_zero, List.size_toArray, List.length_cons, List.length_nil]
    gi_wp2_with (first | (refine wpListIn_allocTo rfl _ rfl (some 5) rfl _ _ (alloc64 _ _ rfl _) ?_) | (refine wpListIn_storeRow rfl _ _ _ rfl W.heap.size (uCells x.1) rfl rfl 53 u64z (heap_alloc_new W _) hlen.out.1 hlen.out.2 (uCells_one _) ?_))
    exact hK _ _ (hm.out.2.1.from _) (KpV.of_fr hm.out.1 (by simp)) ⟨hi.1.keep hm.out.1 (by simp), Nat.lt_of_lt_of_le hi.2 hm.out.1.size⟩ ⟨W.heap.size, hi.1.ak.lt, by have := hi.2; omega, hm.out.2.2, rfl⟩
  case body =>
    rintro l pre x a' W ⟨hi, hBn⟩ ⟨bx, hb1, hb2, hbx, rfl⟩ hlen
    obtain ⟨hhl, hhu⟩ := shaHs_ok pre
    have hix := Lib.hid (in_calls W (shaHs pre) shaKeys x.1 hhl keys_len rfl x.2.1 hhu keys_u x.2.2)
    have HSN := Lib.hid (shaHs_snoc pre x)
    have HHL := Lib.hid (show (uCells (shaHs pre)).size = 8 from by rw [uCells_size, hhl])
    have HIL := Lib.hid (show (uCells (shaIn (shaHs pre) x.1)).size = 8 from by rw [uCells_size, shaIn_len])
    have HXL := Lib.hid (show (uCells x.1).size = 64 from by rw [uCells_size, x.2.1])
    have HKL := Lib.hid (show (uCells shaKeys).size = 64 from by rw [uCells_size, keys_len])
    obtain ⟨VK2, hVK2⟩ : ∃ V, uCells shaKeys = V := ⟨_, rfl⟩
    have hak : W.heap[bk]? = some (.cells VK2 53 (0, 0)) := by rw [← hVK2]; exact hi.ak
    have HAK := Lib.hid hak
    rw [hVK2] at hix HKL
    clear hhl hhu hak hVK2
    gi_wp2_with (first
      | (refine wpListIn_loadRow rfl _ (.tmp 3) rfl bh rfl 51 (uCells (shaHs pre)) (0, 0) _ hi.ah Try.underlying51 rfl (by rw [HHL.out]; exact info8) ?_)
      | (refine wpListIn_loadRow rfl _ (.tmp 4) rfl bk rfl 53 VK2 (0, 0) _ HAK.out Try.underlying53 rfl (by rw [HKL.out]; exact info64) ?_)
      | (refine wpListIn_loadRow rfl _ (.tmp 5) rfl bx rfl 53 (uCells x.1) (0, 0) _ hbx Try.underlying53 rfl (by rw [HXL.out]; exact info64) ?_))
    refine ⟨trivial, fun _ => by omega, (CallsIn.inRound l (callsIn_wide.2 hix.out)).mono ?_⟩
    rintro e w7 ⟨rfl, hf7⟩
    have HI7 := Lib.hid (hi.keep hf7 (by simp))
    have HF7 := Lib.hid hf7
    clear hix hf7
    gi_wp2_with (refine wpListIn_storeRow rfl _ _ _ rfl bh (uCells (shaIn (shaHs pre) x.1)) rfl rfl 51 (uCells (shaHs pre)) HI7.out.ah (by rw [HIL.out]; exact info8) (by rw [HIL.out, HHL.out]) (uCells_one _) ?_)
    have hkk : KeepsFrom w6.heap.size W (w7.setRow bh (uCells (shaIn (shaHs pre) x.1))) := by
      refine ⟨by simp; exact HF7.out.size, fun k o hB hk ho => ?_⟩
      have h7 := (HF7.out.block k (lt_of_heap hk) (by simp)).trans hk
      exact (keeps_setRow HI7.out.ah (uCells (shaIn (shaHs pre) x.1))).same k o h7 ho
    refine ⟨hkk, KpV.of_fr (S := [bh]) ((HF7.out.mono (by simp)).trans (fr_setRow1 _ _ _) (fun i hi => .inl hi)) (by have := HI7.out.nw; have := HB6.out.2.1; simp; omega), ?_, ?_⟩
    · rw [HSN.out]
      exact HI7.out.store _
    · simp
      exact Nat.lt_of_lt_of_le hBn HF7.out.size
  case done =>
    rintro D W hD ⟨hi, hBn⟩ hd
    have hres : Hid (shaSum s = shaOut (shaH s)) := Lib.hid rfl
    have hok := shaHs_ok (shaScan t 0)
    rw [HE.out] at hi hok
    generalize shaH s = h at hi hok hres
    have HL8 := Lib.hid (show (uCells h).size = 8 from by rw [uCells_size, hok.1])
    have HIX := Lib.hid (fun j hj => index8 h hok.1 j hj)
    have HOK := Lib.hid hok
    have HD := Lib.hid hd
    have HI := Lib.hid hi
    clear hi hok hd HI6 HB6 HK HT HE h1
    go_wp2_with (refine wpList_load_row rfl _ (.tmp 3) rfl bh rfl 51 (uCells h) (0, 0) _ ((((Fr.refl [] W).alloc _).block bh HI.out.ah.lt (by simp)).trans HI.out.ah) Try.underlying51 rfl (by rw [HL8.out]; exact info8) ?_)
    have h0 : BldN 62 5 w (W.alloc (.cells #[.pointer none, .slice none 0 0] 62)) W.heap.size [] ⟨#[]⟩ := BldN.make _ _ HI.out.fr rfl
    have hD2 := (((Fr.refl [] W).alloc (.cells #[.pointer none, .slice none 0 0] 62)).block D (lt_of_heap HD.out) (by simp)).trans HD.out
    have hWD : D < W.heap.size := lt_of_heap HD.out
    generalize W.alloc (.cells #[.pointer none, .slice none 0 0] 62) = W1 at h0 hD2 ⊢
    generalize W.heap.size = b at h0 hWD ⊢
    have H0 := Lib.hid (And.intro h0 hD2)
    clear h0 hD2 HI HD HL8
    go_loopw [8, 21] (fun v8 v21 wr => ∃ (j : Nat) (r : List Nat), v21 = .int .i64 j ∧ j ≤ 8 ∧ Hid (BldN 62 5 w wr b r (lB ((h.take j).flatMap shaNum)) ∧ wr.heap[D]? = some (.deferred (some [])) ∧ (∀ k, k ∈ b :: r → D < k))) (fun _ v21 _ => 8 - (intOf v21).toNat)
    case atStart => exact ⟨0, [], rfl, by decide, H0.out.1, H0.out.2, by simp; omega⟩
    case round =>
      clear H0
      obtain ⟨j, r, rfl, hj, H⟩ := hrel
      by_cases hlt : j < 8
      · have hix := HIX.out j hlt
        have hx := HOK.out.2 j
        have HT := Lib.hid (shaOut_take h j (by rw [HOK.out.1]; exact hlt))
        have hxs : Hid ((lB ((h.take j).flatMap shaNum)).size ≤ 1000) := Lib.hid (by rw [shaOut_len, List.length_take]; omega)
        generalize lB ((h.take j).flatMap shaNum) = acc at H HT hxs
        generalize h.getD j 0 = x at hix hx HT
        have HX := Lib.hid (shaNum_cells x hx)
        have hx4 : (lB (shaNum x)).size = 4 := by rw [lB_size]; rfl
        have HC := Lib.hid (And.intro hxs.out hx4)
        have HNM : Hid (wr.heap.size ∉ b :: r) := Lib.hid (fun hm => by have := H.out.1.bld.lt _ hm; omega)
        clear hxs hx4
        go_wp2_with fail
        (with_reducible refine (Wr_calls 62 bty_b b _ _ _ (lB (shaNum x)) _ _ 4 rfl (RdV.new wr _ 5 rfl HX.out) HNM.out HC.out.2.symm (by rw [HC.out.2]; decide) (H.out.1.bld.keep ((Fr.refl [] _).alloc _) (by simp)) (by have := HC.out; omega)).mono ?_)
        rintro e w2 ⟨rfl, r2, hb2, hf2, hn2⟩
        have h3 : BldN 62 5 w w2 b r2 (acc ++ lB (shaNum x)) ∧ w2.heap[D]? = some (.deferred (some [])) ∧ (∀ k, k ∈ b :: r2 → D < k) := by
          have hD3 : D < wr.heap.size := lt_of_heap H.out.2.1
          refine ⟨(H.out.1.other (S := []) ((Fr.refl [] wr).alloc _) (by simp) (by simp)).step hb2 hf2 hn2, (hf2.block D (by simp; omega) (fun hm => by have := H.out.2.2 D hm; omega)).trans ((((Fr.refl [] wr).alloc _).block D hD3 (by simp)).trans H.out.2.1), fun k hk => ?_⟩
          rcases List.mem_cons.1 hk with rfl | hk
          · exact H.out.2.2 _ (by simp)
          · rcases hn2 k hk with h | h
            · exact H.out.2.2 _ (by simp [h])
            · simp at h
              omega
        rw [HT.out] at h3
        have H3 := Lib.hid h3
        clear h3 hb2 hf2 hn2 hix HT HX HC HNM
        go_wp2_with fail
        exact ⟨⟨j + 1, r2, by go_num, by omega, H3⟩, by simp only [intOf]; omega⟩
      · obtain rfl : j = 8 := by omega
        have HT : Hid (lB ((h.take 8).flatMap shaNum) = shaSum s) := Lib.hid (by rw [hres.out, List.take_of_length_le (by rw [HOK.out.1]; exact Nat.le_refl _), shaOut])
        rw [HT.out] at H
        go_wp2_with fail
        (with_reducible refine (String_calls 62 bty_b b _ _ _ H.out.1.bld).mono ?_)
        rintro e w4 ⟨rfl, hb4, hf4⟩
        have HFr := Lib.hid (H.out.1.fr.trans hf4 (fun k hk => .inr (H.out.1.new k (by simp [hk]))))
        have HD4 := Lib.hid ((hf4.block D (lt_of_heap H.out.2.1) (fun hm => by have := H.out.2.2 D (by simp [hm]); omega)).trans H.out.2.1)
        clear hb4 hf4 H
        go_wp2_with fail
        refine ⟨by simp, .inl ⟨_, _, rfl, run_takeDeferred HD4.out, ?_⟩⟩
        exact ⟨_, results_tmp rfl _ _ _, by rw [HCAT.out]; rfl, HFr.out.putObj (.inr (by have := HWW.out; omega)) _⟩
theorem Sum_calls' (w : World) (A : Option Addr) (c : Nat) (l : List ByteArray) (hA : RdV w A (l.map .string)) (hsp : ∀ ad, A = some ad → ad.spot = none) (hc : l.length ≤ c) (hl : l.length ≤ 1000000) (hs : (catB l).size ≤ 1000000) :
    Calls Try.prog 16 #[.slice A l.length c] w fun e w' => e = .returned (.string (shaSum (catB l))) ∧ Fr [] w w' :=
  callsIn_wide.1 (Sum_in 5 (Nat.le_refl _) w A c l hA hsp hc hl hs)
end Go.Proofs.Ytlcfambhjclkiaa
