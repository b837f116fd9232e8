/- The plain side of the document's digest: its fill, its blocks, its numbers are the program's. -/
import Derived.Test.YtlcfambhjclkiaaShaPrimes
import Derived.Test.YtlcfambhjclkiaaShaBlk
import Derived.Test.YtlcfambhjclkiaaShaSum
import Derived.Test.YtlcfambhjclkiaaSRow1
namespace Go.Proofs.Ytlcfambhjclkiaa
open Go.RowKit
set_option linter.unusedVariables false
set_option linter.unusedSimpArgs false

/-- The first i entries are there, the others are 0. -/
def fillK (l : List Nat) (n i : Nat) : List Nat := l.take i ++ List.replicate (n - i) 0
theorem fillK_zero (l : List Nat) (n : Nat) : fillK l n 0 = List.replicate n 0 := by simp [fillK]
theorem fillK_all (l : List Nat) (n i : Nat) (hl : l.length = n) (hi : n ≤ i) : fillK l n i = l := by
  rw [fillK, List.take_of_length_le (by omega), show n - i = 0 from by omega]; simp
theorem fillK_len (l : List Nat) (n i : Nat) (hl : l.length = n) : (fillK l n i).length = n := by
  rw [fillK, List.length_append, List.length_take, List.length_replicate]; omega
theorem fillK_set (l : List Nat) (n i : Nat) (hl : l.length = n) (hi : i < n) : (fillK l n i).set i (l.getD i 0) = fillK l n (i + 1) := by
  have h1 : (l.take i).length = i := by rw [List.length_take]; omega
  have h2 : l.getD i 0 = l[i]'(by omega) := by rw [List.getD_eq_getElem?_getD, List.getElem?_eq_getElem (by omega)]; rfl
  rw [fillK, fillK, List.set_append_right _ _ (by omega), h1, Nat.sub_self, show n - i = (n - (i + 1)) + 1 from by omega, List.replicate_succ, List.set_cons_zero, h2, show List.take (i + 1) l = List.take i l ++ [l[i]'(by omega)] from List.take_succ_eq_append_getElem (by omega), List.append_assoc]
  rfl
theorem range_getD (f : Nat → Nat) (n : Nat) (l : List Nat) (h : (List.range n).map f = l) (i : Nat) (hi : i < n) : f i = l.getD i 0 := by
  rw [← h, List.getD_eq_getElem?_getD, List.getElem?_map, List.getElem?_range hi]
  rfl
theorem key_root (i : Nat) (h : i < 64) : rootP ((prAt 310).getD i 0) true = shaKeys.getD i 0 := range_getD _ 64 _ primes_keys i h
theorem begin_root (i : Nat) (h : i < 8) : rootP ((prAt 310).getD i 0) false = shaBegin.getD i 0 := range_getD _ 8 _ primes_begin i h

/-! ### blocks -/
theorem shaBs_cut (l m : List UInt8) (h : ∀ j, j < 64 → l.getD j 0 = m.getD j 0) : ∀ i, i ≤ 64 → shaBs l i = shaBs m i
  | 0, _ => rfl
  | i + 1, hi => by rw [shaBs, shaBs, shaBs_cut l m h i (by omega), shaB, shaB, h i (by omega)]
theorem shaWs_cut (l m : List UInt8) (h : ∀ j, j < 64 → l.getD j 0 = m.getD j 0) : shaWs l = shaWs m := by
  rw [shaWs, shaWs, shaBs_cut l m h 64 (Nat.le_refl _)]
theorem getD_extract (t : ByteArray) (a b j : Nat) : (t.extract a b).data.toList.getD j 0 = if j < min b t.size - a then t.data.toList.getD (a + j) 0 else 0 := by
  simp only [List.getD_eq_getElem?_getD, Array.getElem?_toList, ByteArray.data_extract, Array.getElem?_extract]
  have : t.data.size = t.size := rfl
  rw [this]
  split <;> simp_all
/-- The digest behind j blocks, as the document has it. -/
def shaHd (t : ByteArray) : Nat → List Nat
  | 0 => shaBegin
  | j + 1 => shaIn (shaHd t j) (shaWs (t.extract (64 * j) (64 * j + 64)).data.toList)
theorem shaHd_len (t : ByteArray) : ∀ j, (shaHd t j).length = 8
  | 0 => rfl
  | j + 1 => shaIn_len _ _
theorem begin_u : U32s shaBegin := U32s.of_all (by decide)
theorem shaHd_u (t : ByteArray) : ∀ j, U32s (shaHd t j)
  | 0 => begin_u
  | j + 1 => shaIn_u _ _
theorem shaHd_fold (t : ByteArray) (n : Nat) (hn : t.size = 64 * n) : ∀ k j, j + k = n → (shaWss t (64 * j)).foldl shaIn (shaHd t j) = shaHd t n
  | 0, j, h => by
    obtain rfl : j = n := by omega
    rw [shaWss, dif_neg (by omega)]; rfl
  | k + 1, j, h => by
    rw [shaWss, dif_pos (by omega), List.foldl_cons]
    have e : shaWs (t.extract (64 * j) t.size).data.toList = shaWs (t.extract (64 * j) (64 * j + 64)).data.toList := shaWs_cut _ _ (fun i hi => by
      rw [getD_extract, getD_extract, if_pos (by omega), if_pos (by omega)])
    rw [e, ← shaHd_fold t n hn k (j + 1) (by omega), shaHd, show 64 * (j + 1) = 64 * j + 64 from by omega]
theorem shaFill_size (s : ByteArray) : ∃ n, (shaFill s).size = 64 * n := by
  refine ⟨(shaFill s).size / 64, ?_⟩
  have e : (shaFill s).size = s.size + 1 + shaZeros s.size + 8 := by
    simp only [shaFill, ByteArray.size_append, lB_size, List.length_replicate]; rfl
  rw [e]
  unfold shaZeros
  omega
theorem shaHd_all (s : ByteArray) (n : Nat) (hn : (shaFill s).size = 64 * n) : shaHd (shaFill s) n = shaH s := by
  rw [shaH, ← shaHd_fold (shaFill s) n hn n 0 (by omega)]; rfl

/-- Where the document's Sum stands. -/
structure DsS (w0 w : World) (bh bk : Nat) (h k : List Nat) : Prop where
  ah : UA 51 w bh h
  ak : UA 53 w bk k
  fr : Fr [] w0 w
  nw : w0.heap.size ≤ bh ∧ bh < bk
theorem DsS.keep {w0 W W' : World} {bh bk : Nat} {h k : List Nat} (s : DsS w0 W bh bk h k) (hf : Fr [] W W') : DsS w0 W' bh bk h k :=
  ⟨s.ah.keep hf (by simp), s.ak.keep hf (by simp), s.fr.then hf, s.nw⟩
theorem DsS.keepR {w0 W W' : World} {bh bk : Nat} {h k : List Nat} {S : List Nat} (s : DsS w0 W bh bk h k) (hf : Fr S W W') (hS : ∀ i, i ∈ S → bk < i) : DsS w0 W' bh bk h k := by
  obtain ⟨ah, ak, fr, n0, n1⟩ := s
  exact ⟨ah.keep hf (fun e => by have := hS _ e; omega), ak.keep hf (fun e => by have := hS _ e; omega), fr.trans hf (fun i hi => .inr (by have := hS _ hi; omega)), n0, n1⟩
theorem DsS.setk {w0 w : World} {bh bk : Nat} {h k : List Nat} (s : DsS w0 w bh bk h k) (i v : Nat) : DsS w0 (w.setCell ⟨bk, i, none⟩ (.int .u32 (v : Int))) bh bk h (k.set i v) := by
  obtain ⟨ah, ak, fr, n0, n1⟩ := s
  have hF : Fr [bk] w (w.setCell ⟨bk, i, none⟩ (.int .u32 (v : Int))) := (Fr.refl _ _).setCell (.inl (by simp)) _
  exact ⟨ah.keep hF (by simp; omega), ak.set i v, fr.trans hF (fun i hi => .inr (by simp at hi; omega)), n0, n1⟩
theorem DsS.seth {w0 w : World} {bh bk : Nat} {h k : List Nat} (s : DsS w0 w bh bk h k) (i v : Nat) : DsS w0 (w.setCell ⟨bh, i, none⟩ (.int .u32 (v : Int))) bh bk (h.set i v) k := by
  obtain ⟨ah, ak, fr, n0, n1⟩ := s
  have hF : Fr [bh] w (w.setCell ⟨bh, i, none⟩ (.int .u32 (v : Int))) := (Fr.refl _ _).setCell (.inl (by simp)) _
  exact ⟨ah.set i v, ak.keep hF (by simp; omega), fr.trans hF (fun i hi => .inr (by simp at hi; omega)), n0, n1⟩
theorem DsS.row {w0 w : World} {bh bk : Nat} {h k : List Nat} (s : DsS w0 w bh bk h k) (y : List Nat) : DsS w0 (w.setRow bh (uCells y)) bh bk y k := by
  obtain ⟨ah, ak, fr, n0, n1⟩ := s
  exact ⟨ah.row y, ak.keep (fr_setRow1 _ _ _) (by simp; omega), fr.trans (fr_setRow1 _ _ _) (fun i hi => .inr (by simp at hi; omega)), n0, n1⟩
theorem DsS.make (w w1 : World) (hf : Fr [] w w1) : DsS w ((w1.alloc (.cells #[.int .u32 0, .int .u32 0, .int .u32 0, .int .u32 0, .int .u32 0, .int .u32 0, .int .u32 0, .int .u32 0] 51)).alloc (.cells u64z 53)) w1.heap.size (w1.heap.size + 1) (fillK shaBegin 8 0) (fillK shaKeys 64 0) := by
  rw [fillK_zero, fillK_zero]
  have hs := hf.size
  exact ⟨(UA.new8 _ _ rfl).keep ((Fr.refl [] _).alloc _) (by simp), UA.new _ _ _ (by simp), (hf.alloc _).alloc _, by omega, by omega⟩
section
variable {P : Program} {ops : Array Oper} {w : World}
/-- A whole array is loaded, at a step of a still walk. -/
theorem still_load_row {o : Oper} {a : Act} {next : Act → Prop} (ty : TypeId) (x : Operand) (ho : o.op = .load ty x)
    (g : Nat) (hx : a.eval x = .pointer (some ⟨g, 0, none⟩)) (t : TypeId) (cs : Array Value) (fr : Nat × Nat) (d : TypeDesc) (hg : w.heap[g]? = some (.cells cs t fr))
    (hu : P.underlying ty = some d) (hd : (match d with | .struct _ | .array _ _ => true | _ => false) = true) (hi : (P.info? ty).map (·.size) = some cs.size)
    (h : next (a.put o.dst (.agg cs))) : o.still P a w next := by
  unfold Oper.still execOp
  simp only [ho, hx, Instr.loadAt, Instr.sureAddr, Sem.run_bind, Sem.run_pure, Result.andThen_ok, run_loadVar_row w g t ty cs fr d hg hu hd hi]
  exact ⟨rfl, h⟩
theorem still_load_step {o : Oper} {a : Act} {rest : List Oper} {Q : Act → Prop} (hgd : o.guard = none) (ty : TypeId) (x : Operand) (ho : o.op = .load ty x)
    (g : Nat) (hx : a.eval x = .pointer (some ⟨g, 0, none⟩)) (t : TypeId) (cs : Array Value) (fr : Nat × Nat) (d : TypeDesc) (hg : w.heap[g]? = some (.cells cs t fr))
    (hu : P.underlying ty = some d) (hd : (match d with | .struct _ | .array _ _ => true | _ => false) = true) (hi : (P.info? ty).map (·.size) = some cs.size)
    (h : wpStill P ops w Q rest (a.put o.dst (.agg cs))) : wpStill P ops w Q (o :: rest) a := by
  unfold wpStill
  have hw : Region.wanted o (yielded ops a.tmps) = true := by simp [Region.wanted, hgd]
  rw [if_pos hw]
  exact still_load_row ty x ho g hx t cs fr d hg hu hd hi h
end
end Go.Proofs.Ytlcfambhjclkiaa
