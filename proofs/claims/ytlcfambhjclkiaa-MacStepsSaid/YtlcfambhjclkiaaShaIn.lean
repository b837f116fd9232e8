/- The contract of sha.in: a block goes in. -/
import Derived.Test.YtlcfambhjclkiaaShaR
import Derived.Test.YtlcfambhjclkiaaUA
import Derived.Test.YtlcfambhjclkiaaVar
namespace Go.Proofs.Ytlcfambhjclkiaa
open Go.RowKit
set_option linter.unusedVariables false
set_option linter.unusedSimpArgs false

/-- A call that turns nothing, in a region that only reads, behind another such region. -/
theorem still2 {P : Program} {f : FuncId} {args : Array Value} {w : World} {a n : Nat} {v : Value} (h : ∀ W, Calls P f args W fun e w' => e = .returned v ∧ W = w') :
    Calls P f args (w.drewN (a + n)) fun e w'' => e = .returned v ∧ ∃ m, w'' = w.drewN (a + m) := (h _).mono fun _ _ h => ⟨h.1, n, h.2.symm⟩
theorem still1 {P : Program} {f : FuncId} {args : Array Value} {w : World} {n : Nat} {v : Value} (h : ∀ W, Calls P f args W fun e w' => e = .returned v ∧ W = w') :
    Calls P f args (w.drewN n) fun e w'' => e = .returned v ∧ ∃ m, w'' = w.drewN m := (h _).mono fun _ _ h => ⟨h.1, n, h.2.symm⟩
/-- All numbers of a row are of 32 bits. -/
def U32s (l : List Nat) : Prop := ∀ k, l.getD k 0 < 4294967296
theorem U32s.of_all {l : List Nat} (h : ∀ x, x ∈ l → x < 4294967296) : U32s l := by
  intro k
  rw [List.getD_eq_getElem?_getD]
  cases hk : l[k]? with
  | none => decide
  | some x => exact h x (List.mem_of_getElem? hk)
theorem shaRd_len (k w : Nat) (x : List Nat) : (shaRd k w x).length = 8 := rfl
theorem shaRds_len (w x : List Nat) (hx : x.length = 8) : ∀ i, (shaRds w x i).length = 8
  | 0 => hx
  | i + 1 => rfl
theorem list8 {l : List Nat} (h : l.length = 8) : ∃ a b c d e f g k, l = [a, b, c, d, e, f, g, k] := by
  match l, h with
  | [a, b, c, d, e, f, g, k], _ => exact ⟨a, b, c, d, e, f, g, k, rfl⟩
theorem mod32 (a : Nat) : a % 4294967296 < 4294967296 := Nat.mod_lt _ (by decide)
theorem shaRd_u (k w : Nat) (x : List Nat) (hx : U32s x) : U32s (shaRd k w x) := by
  intro i
  have h0 := hx 0
  have h1 := hx 1
  have h2 := hx 2
  have h4 := hx 4
  have h5 := hx 5
  have h6 := hx 6
  have hm := mod32
  unfold shaRd
  match i with
  | 0 => simp only [List.getD_cons_zero]; exact hm _
  | 1 => simp only [List.getD_cons_zero, List.getD_cons_succ] at *; exact h0
  | 2 => simp only [List.getD_cons_zero, List.getD_cons_succ] at *; exact h1
  | 3 => simp only [List.getD_cons_zero, List.getD_cons_succ] at *; exact h2
  | 4 => simp only [List.getD_cons_zero, List.getD_cons_succ] at *; exact hm _
  | 5 => simp only [List.getD_cons_zero, List.getD_cons_succ] at *; exact h4
  | 6 => simp only [List.getD_cons_zero, List.getD_cons_succ] at *; exact h5
  | 7 => simp only [List.getD_cons_zero, List.getD_cons_succ] at *; exact h6
  | i + 8 => simp [List.getD_eq_getElem?_getD]
theorem shaRds_u (w x : List Nat) (hx : U32s x) : ∀ i, U32s (shaRds w x i)
  | 0 => hx
  | i + 1 => shaRd_u _ _ _ (shaRds_u w x hx i)

theorem xor32 {a b : Nat} (ha : a < 4294967296) (hb : b < 4294967296) : a ^^^ b < 4294967296 := Nat.xor_lt_two_pow (n := 32) ha hb
theorem and32 {a b : Nat} (ha : a < 4294967296) : a &&& b < 4294967296 := Nat.lt_of_le_of_lt Nat.and_le_left ha
theorem orr32 {a b : Nat} (ha : a < 4294967296) (hb : b < 4294967296) : a ||| b < 4294967296 := Nat.or_lt_two_pow (n := 32) ha hb
theorem t0_val {e : Nat} (he : e < 4294967296) : bits .xor .u32 (bits .xor .u32 (shaR e 6 : Nat) (shaR e 11 : Nat)) (shaR e 25 : Nat) = ((shaT0 e : Nat) : Int) ∧ shaT0 e < 4294967296 := by
  have h1 := shaR_lt (k := 6) he
  have h2 := shaR_lt (k := 11) he
  have h3 := shaR_lt (k := 25) he
  rw [u32_xor_nat _ _ h1 h2, u32_xor_nat _ _ (xor32 h1 h2) h3]
  exact ⟨rfl, xor32 (xor32 h1 h2) h3⟩
theorem t1_val {e : Nat} (he : e < 4294967296) : bits .xor .u32 (bits .xor .u32 (shaR e 2 : Nat) (shaR e 13 : Nat)) (shaR e 22 : Nat) = ((shaT1 e : Nat) : Int) ∧ shaT1 e < 4294967296 := by
  have h1 := shaR_lt (k := 2) he
  have h2 := shaR_lt (k := 13) he
  have h3 := shaR_lt (k := 22) he
  rw [u32_xor_nat _ _ h1 h2, u32_xor_nat _ _ (xor32 h1 h2) h3]
  exact ⟨rfl, xor32 (xor32 h1 h2) h3⟩
theorem ch_val {e f g : Nat} (he : e < 4294967296) (hf : f < 4294967296) (hg : g < 4294967296) : bits .xor .u32 (g : Int) (bits .and .u32 (e : Int) (bits .xor .u32 (f : Int) (g : Int))) = ((shaCh e f g : Nat) : Int) ∧ shaCh e f g < 4294967296 := by
  rw [u32_xor_nat _ _ hf hg, u32_and_nat _ _ he (xor32 hf hg), u32_xor_nat _ _ hg (and32 he)]
  exact ⟨rfl, xor32 hg (and32 he)⟩
theorem maj_val {a b c : Nat} (ha : a < 4294967296) (hb : b < 4294967296) (hc : c < 4294967296) : bits .or .u32 (bits .and .u32 (a : Int) (b : Int)) (bits .and .u32 (bits .or .u32 (a : Int) (b : Int)) (c : Int)) = ((shaMaj a b c : Nat) : Int) ∧ shaMaj a b c < 4294967296 := by
  rw [u32_and_nat _ _ ha hb, u32_or_nat _ _ ha hb, u32_and_nat _ _ (orr32 ha hb) hc, u32_or_nat _ _ (and32 ha) (and32 (orr32 ha hb))]
  exact ⟨rfl, orr32 (and32 ha) (and32 (orr32 ha hb))⟩
/-- A round, its parts named. -/
theorem rd_parts (ki wi x0 x1 x2 x3 x4 x5 x6 x7 : Nat) : ∃ t u v z : Nat, (((x7 : Int) + shaT0 x4 + shaCh x4 x5 x6 + ki) % 4294967296 + wi) % 4294967296 = t ∧ ((shaT1 x0 : Int) + shaMaj x0 x1 x2) % 4294967296 = u ∧ t < 4294967296 ∧ u < 4294967296 ∧ ((t : Int) + u) % 4294967296 = v ∧ ((x3 : Int) + t) % 4294967296 = z ∧ shaRd ki wi [x0, x1, x2, x3, x4, x5, x6, x7] = [v, x0, x1, x2, z, x4, x5, x6] := by
  refine ⟨(x7 + shaT0 x4 + shaCh x4 x5 x6 + ki + wi) % 4294967296, (shaT1 x0 + shaMaj x0 x1 x2) % 4294967296, ((x7 + shaT0 x4 + shaCh x4 x5 x6 + ki + wi) % 4294967296 + (shaT1 x0 + shaMaj x0 x1 x2) % 4294967296) % 4294967296, (x3 + (x7 + shaT0 x4 + shaCh x4 x5 x6 + ki + wi) % 4294967296) % 4294967296, by omega, by omega, by omega, by omega, by omega, by omega, ?_⟩
  simp only [shaRd, List.getD_cons_zero, List.getD_cons_succ]

/-- Where 'in' stands: the digest so far, the keys, the block's numbers, the round's eight. -/
structure InS (w0 w : World) (bh bk bw br bx : Nat) (h k W x : List Nat) : Prop where
  ah : UA 51 w bh h
  ak : UA 53 w bk k
  aw : UA 53 w bw W
  ar : UA 51 w br [0, 0, 0, 0, 0, 0, 0, 0]
  ax : UA 51 w bx x
  fr : Fr [] w0 w
  new : w0.heap.size ≤ bh ∧ bh < bk ∧ bk < bw ∧ bw < br ∧ br < bx
theorem InS.drewN {w0 w : World} {bh bk bw br bx : Nat} {h k W x : List Nat} (s : InS w0 w bh bk bw br bx h k W x) (n : Nat) : InS w0 (w.drewN n) bh bk bw br bx h k W x :=
  ⟨s.ah, s.ak, s.aw, s.ar, s.ax, s.fr.drewN n, s.new⟩
theorem InS.row {w0 w : World} {bh bk bw br bx : Nat} {h k W x : List Nat} (s : InS w0 w bh bk bw br bx h k W x) (y : List Nat) : InS w0 (w.setRow bx (uCells y)) bh bk bw br bx h k W y := by
  obtain ⟨ah, ak, aw, ar, ax, fr, n0, n1, n2, n3, n4⟩ := s
  have hF : Fr [bx] w (w.setRow bx (uCells y)) := ⟨rfl, rfl, rfl, by simp, fun k _ hk => setRow_other w bx k _ (fun e => hk (by simp [e]))⟩
  refine ⟨ah.keep hF (by simp; omega), ak.keep hF (by simp; omega), aw.keep hF (by simp; omega), ar.keep hF (by simp; omega), ax.row y, fr.trans hF (fun i hi => .inr (by simp at hi; omega)), n0, n1, n2, n3, n4⟩

/-- The sum's first j numbers are there. -/
def shaAddK (h x : List Nat) (j : Nat) : List Nat := (List.range 8).map fun i => if i < j then (h.getD i 0 + x.getD i 0) % 4294967296 else h.getD i 0
theorem shaAddK_zero (h x : List Nat) (hh : h.length = 8) : shaAddK h x 0 = h := by
  obtain ⟨a, b, c, d, e, f, g, k, rfl⟩ := list8 hh
  rfl
theorem shaAddK_end (h x : List Nat) : shaAddK h x 8 = shaAdd h x := by
  unfold shaAddK shaAdd
  apply List.map_congr_left
  intro i hi
  rw [if_pos (List.mem_range.1 hi)]
theorem shaAddK_len (h x : List Nat) (j : Nat) : (shaAddK h x j).length = 8 := by simp [shaAddK]
theorem shaAddK_get (h x : List Nat) (j : Nat) (hj : j < 8) : (shaAddK h x j).getD j 0 = h.getD j 0 := by
  simp [shaAddK, List.getD_eq_getElem?_getD, List.getElem?_map, List.getElem?_range hj]
theorem shaAddK_succ (h x : List Nat) (j : Nat) (hj : j < 8) : shaAddK h x (j + 1) = (shaAddK h x j).set j ((h.getD j 0 + x.getD j 0) % 4294967296) := by
  apply List.ext_getElem (by simp [shaAddK])
  intro i h1 h2
  rw [shaAddK_len] at h1
  rw [List.getElem_set]
  simp only [shaAddK, List.getElem_map, List.getElem_range]
  by_cases e : j = i
  · subst e
    simp
  · rw [if_neg e]
    by_cases h3 : i < j
    · rw [if_pos h3, if_pos (by omega)]
    · rw [if_neg h3, if_neg (by omega)]
theorem InS.add {w0 w : World} {bh bk bw br bx : Nat} {h k W x : List Nat} (s : InS w0 w bh bk bw br bx h k W x) (j v : Nat) : InS w0 (w.setCell ⟨bh, j, none⟩ (.int .u32 (v : Int))) bh bk bw br bx (h.set j v) k W x := by
  obtain ⟨ah, ak, aw, ar, ax, fr, n0, n1, n2, n3, n4⟩ := s
  have hF : Fr [bh] w (w.setCell ⟨bh, j, none⟩ (.int .u32 (v : Int))) := (Fr.refl _ _).setCell (.inl (by simp)) _
  refine ⟨ah.set j v, ak.keep hF (by simp; omega), aw.keep hF (by simp; omega), ar.keep hF (by simp; omega), ax.keep hF (by simp; omega), fr.trans hF (fun i hi => .inr (by simp at hi; omega)), n0, n1, n2, n3, n4⟩
theorem InS.res {w0 w : World} {bh bk bw br bx : Nat} {h k W x : List Nat} (s : InS w0 w bh bk bw br bx h k W x) (y : List Nat) : UA 51 (w.setRow br (uCells y)) br y ∧ Fr [] w0 (w.setRow br (uCells y)) := by
  obtain ⟨ah, ak, aw, ar, ax, fr, n0, n1, n2, n3, n4⟩ := s
  have hF : Fr [br] w (w.setRow br (uCells y)) := ⟨rfl, rfl, rfl, by simp, fun k _ hk => setRow_other w br k _ (fun e => hk (by simp [e]))⟩
  exact ⟨ar.row y, fr.trans hF (fun i hi => .inr (by simp at hi; omega))⟩
theorem info8 : (Try.prog.info? 51).map (·.size) = some 8 := by kernel_rfl
theorem info64 : (Try.prog.info? 53).map (·.size) = some 64 := by kernel_rfl

theorem uz8 : (#[.int .u32 0, .int .u32 0, .int .u32 0, .int .u32 0, .int .u32 0, .int .u32 0, .int .u32 0, .int .u32 0] : Array Value) = uCells [0, 0, 0, 0, 0, 0, 0, 0] := rfl
theorem alloc3 (w : World) (o1 o2 o3 o4 : Obj) : ((((w.alloc o1).alloc o2).alloc o3).alloc o4).heap[w.heap.size]? = some o1 := by
  have k : ∀ (W : World) (o x : Obj), W.heap[w.heap.size]? = some x → (W.alloc o).heap[w.heap.size]? = some x := fun W o x h => (((Fr.refl [] W).alloc o).block _ (lt_of_heap h) (by simp)).trans h
  exact k _ _ _ (k _ _ _ (k _ _ _ (heap_alloc_new _ _)))
theorem alloc5 (w : World) (o1 o2 o3 o4 o : Obj) : (((((w.alloc o1).alloc o2).alloc o3).alloc o4).alloc o).heap[w.heap.size + 1 + 1 + 1 + 1]? = some o := by
  have h := heap_alloc_new ((((w.alloc o1).alloc o2).alloc o3).alloc o4) o
  rw [show ((((w.alloc o1).alloc o2).alloc o3).alloc o4).heap.size = w.heap.size + 1 + 1 + 1 + 1 from by simp] at h
  exact h
theorem UA.new8 (T : TypeId) (w : World) {n : Nat} (hn : n = w.heap.size) : UA T (w.alloc (.cells #[.int .u32 0, .int .u32 0, .int .u32 0, .int .u32 0, .int .u32 0, .int .u32 0, .int .u32 0, .int .u32 0] T)) n [0, 0, 0, 0, 0, 0, 0, 0] := UA.new T w [0, 0, 0, 0, 0, 0, 0, 0] hn
theorem InS.make (w : World) (h k W : List Nat) : InS w ((((((w.alloc (.cells (uCells h) 51)).alloc (.cells (uCells k) 53)).alloc (.cells (uCells W) 53)).alloc (.cells #[.int .u32 0, .int .u32 0, .int .u32 0, .int .u32 0, .int .u32 0, .int .u32 0, .int .u32 0, .int .u32 0] 51)).alloc (.cells #[.int .u32 0, .int .u32 0, .int .u32 0, .int .u32 0, .int .u32 0, .int .u32 0, .int .u32 0, .int .u32 0] 51)).setRow (w.heap.size + 1 + 1 + 1 + 1) (uCells h))
    w.heap.size (w.heap.size + 1) (w.heap.size + 1 + 1) (w.heap.size + 1 + 1 + 1) (w.heap.size + 1 + 1 + 1 + 1) h k W h := by
  refine InS.row (x := [0, 0, 0, 0, 0, 0, 0, 0]) ⟨?_, ?_, ?_, ?_, UA.new8 _ _ (by simp), ((((((Fr.refl _ w).alloc _).alloc _).alloc _).alloc _).alloc _), by omega⟩ h
  · exact ((((UA.new _ _ _ rfl).keep ((Fr.refl [] _).alloc _) (by simp)).keep ((Fr.refl [] _).alloc _) (by simp)).keep ((Fr.refl [] _).alloc _) (by simp)).keep ((Fr.refl [] _).alloc _) (by simp)
  · exact (((UA.new _ _ _ (by simp)).keep ((Fr.refl [] _).alloc _) (by simp)).keep ((Fr.refl [] _).alloc _) (by simp)).keep ((Fr.refl [] _).alloc _) (by simp)
  · exact ((UA.new _ _ _ (by simp)).keep ((Fr.refl [] _).alloc _) (by simp)).keep ((Fr.refl [] _).alloc _) (by simp)
  · exact (UA.new8 _ _ (by simp)).keep ((Fr.refl [] _).alloc _) (by simp)

set_option maxHeartbeats 2000000 in
set_option maxRecDepth 100000 in
theorem in_calls (w : World) (h k W : List Nat) (hh : h.length = 8) (hk : k.length = 64) (hkk : k = shaKeys) (hW : W.length = 64) (uh : U32s h) (uk : U32s k) (uW : U32s W) :
    Calls Try.prog 34 #[.agg (uCells h), .agg (uCells k), .agg (uCells W)] w fun e w' => e = .returned (.agg (uCells (shaIn h W))) ∧ Fr [] w w' := by
  have HL := Lib.hid (alloc3 w (.cells (uCells h) 51) (.cells (uCells k) 53) (.cells (uCells W) 53))
  have HN := Lib.hid (alloc5 w (.cells (uCells h) 51) (.cells (uCells k) 53) (.cells (uCells W) 53) (.cells #[.int .u32 0, .int .u32 0, .int .u32 0, .int .u32 0, .int .u32 0, .int .u32 0, .int .u32 0, .int .u32 0] 51))
  have HI : Hid ((Try.prog.info? 51).map (·.size) = some (uCells h).size) := Lib.hid (by rw [uCells_size, hh]; exact info8)
  have HS := Lib.hid (show (#[.int .u32 0, .int .u32 0, .int .u32 0, .int .u32 0, .int .u32 0, .int .u32 0, .int .u32 0, .int .u32 0] : Array Value).size = (uCells h).size from by rw [uCells_size, hh]; rfl)
  have HM := Lib.hid (InS.make w h k W)
  have HH := Lib.hid (And.intro hh (And.intro hk (And.intro hkk (And.intro hW (And.intro uh (And.intro uk uW))))))
  clear hh hk hkk hW uh uk uW
  go_enter Try.func34, Try.ntmps34
  go_wp2_with (first | (refine wpList_load_row rfl _ _ rfl w.heap.size rfl 51 (uCells h) (0, 0) _ (HL.out _) Try.underlying51 rfl HI.out ?_) | (refine wpList_store_row rfl _ _ _ rfl (w.heap.size + 1 + 1 + 1 + 1) (uCells h) rfl rfl 51 #[.int .u32 0, .int .u32 0, .int .u32 0, .int .u32 0, .int .u32 0, .int .u32 0, .int .u32 0, .int .u32 0] (HN.out _) HI.out HS.out (uCells_one _) ?_))
  have h0 := HM.out
  clear HM HL HN HS
  generalize ((((((w.alloc (.cells (uCells h) 51)).alloc (.cells (uCells k) 53)).alloc (.cells (uCells W) 53)).alloc (.cells _ 51)).alloc (.cells _ 51)).setRow (w.heap.size + 1 + 1 + 1 + 1) (uCells h)) = W0 at h0 ⊢
  generalize w.heap.size + 1 + 1 + 1 + 1 = bx at h0 ⊢
  generalize w.heap.size + 1 + 1 + 1 = br at h0 ⊢
  generalize w.heap.size + 1 + 1 = bw at h0 ⊢
  generalize w.heap.size + 1 = bk at h0 ⊢
  generalize w.heap.size = bh at h0 ⊢
  have H0 := Lib.hid h0
  clear h0
  go_loopw [8, 9, 10, 11, 12, 15] (fun v8 v9 v10 v11 v12 v15 wr => ∃ i : Nat, v15 = .int .i64 i ∧ i ≤ 64 ∧ Hid (InS w wr bh bk bw br bx h k W (shaRds W h i))) (fun _ _ _ _ _ v15 _ => 64 - (intOf v15).toNat)
  case atStart => exact ⟨0, rfl, by decide, H0⟩
  case round =>
    clear H0
    obtain ⟨i, rfl, hi, H⟩ := hrel
    by_cases hlt : i < 64
    · have hL := shaRds_len W h HH.out.1 i
      have hU := shaRds_u W h HH.out.2.2.2.2.1 i
      have HE : Hid (shaRds W h (i + 1) = shaRd (k.getD i 0) (W.getD i 0) (shaRds W h i)) := Lib.hid (by rw [HH.out.2.2.1]; rfl)
      generalize shaRds W h i = x at H hL hU HE
      obtain ⟨x0, x1, x2, x3, x4, x5, x6, x7, rfl⟩ := list8 hL
      have c0 := H.out.ax.cell 0 (by show 0 < 8; decide)
      have c1 := H.out.ax.cell 1 (by show 1 < 8; decide)
      have c2 := H.out.ax.cell 2 (by show 2 < 8; decide)
      have c3 := H.out.ax.cell 3 (by show 3 < 8; decide)
      have c4 := H.out.ax.cell 4 (by show 4 < 8; decide)
      have c5 := H.out.ax.cell 5 (by show 5 < 8; decide)
      have c6 := H.out.ax.cell 6 (by show 6 < 8; decide)
      have c7 := H.out.ax.cell 7 (by show 7 < 8; decide)
      have ck := H.out.ak.cell i (by rw [HH.out.2.1]; exact hlt)
      have cw := H.out.aw.cell i (by rw [HH.out.2.2.2.1]; exact hlt)
      have u0 := hU 0
      have u1 := hU 1
      have u2 := hU 2
      have u3 := hU 3
      have u4 := hU 4
      have u5 := hU 5
      have u6 := hU 6
      have u7 := hU 7
      have uk := HH.out.2.2.2.2.2.1 i
      have uW := HH.out.2.2.2.2.2.2 i
      simp only [List.getD_cons_zero, List.getD_cons_succ] at c0 c1 c2 c3 c4 c5 c6 c7 u0 u1 u2 u3 u4 u5 u6 u7
      generalize k.getD i 0 = ki at ck uk HE
      generalize W.getD i 0 = wi at cw uW HE
      have hi0 : (0 : Int) ≤ (i : Int) := by omega
      have hi1 : (i : Int) < 64 := by omega
      clear hL hU
      obtain ⟨t, u, v, z, ht, hu, ht1, hu1, hv, hz, hrd⟩ := rd_parts ki wi x0 x1 x2 x3 x4 x5 x6 x7
      rw [hrd] at HE
      clear hrd
      obtain ⟨q1, b1⟩ := t0_val u4
      obtain ⟨q2, b2⟩ := t1_val u0
      obtain ⟨q3, b3⟩ := ch_val u4 u5 u6
      obtain ⟨q4, b4⟩ := maj_val u0 u1 u2
      generalize shaT0 x4 = T0 at *
      generalize shaT1 x0 = T1 at *
      generalize shaCh x4 x5 x6 = Ch at *
      generalize shaMaj x0 x1 x2 = Mj at *
      have HQ := Lib.hid (And.intro ht (And.intro hu (And.intro hv hz)))
      clear ht hu hv hz
      go_wp2_with fail
      go_quiet (fail)
      go_wp2_with fail
      go_quiet ((first | (go_at_call 48; with_reducible exact still2 (fun W => right6_calls W x4 rfl u4)) | (go_at_call 48; with_reducible exact still2 (fun W => right11_calls W x4 rfl u4)) | (go_at_call 48; with_reducible exact still2 (fun W => right25_calls W x4 rfl u4))))
      rw [HQ.out.1]
      go_wp2_with fail
      go_quiet ((first | (go_at_call 48; with_reducible exact still2 (fun W => right2_calls W x0 rfl u0)) | (go_at_call 48; with_reducible exact still2 (fun W => right13_calls W x0 rfl u0)) | (go_at_call 48; with_reducible exact still2 (fun W => right22_calls W x0 rfl u0))))
      rw [HQ.out.2.1]
      have hv := HQ.out.2.2.1
      have hz := HQ.out.2.2.2
      go_wp2_with (refine wpList_store_row rfl _ _ _ rfl bx (uCells [v, x0, x1, x2, z, x4, x5, x6]) rfl rfl 51 (uCells [x0, x1, x2, x3, x4, x5, x6, x7]) (H.out.drewN _).ax info8 rfl (uCells_one _) ?_)
      refine ⟨⟨i + 1, by go_num, by omega, Lib.hid (by rw [HE.out]; exact (H.out.drewN _).row _)⟩, by simp only [intOf]; omega⟩
    · obtain rfl : i = 64 := by omega
      have HE : Hid (shaIn h W = shaAdd h (shaRds W h 64)) := Lib.hid rfl
      have hL := shaRds_len W h HH.out.1 64
      have hU := shaRds_u W h HH.out.2.2.2.2.1 64
      generalize shaRds W h 64 = x at H HE hL hU
      have HX := Lib.hid (And.intro hL hU)
      clear hL hU hlt hi
      go_wp2_with fail
      go_loopw [13, 92] (fun v13 v92 wr => ∃ j : Nat, v92 = .int .i64 j ∧ j ≤ 8 ∧ Hid (InS w wr bh bk bw br bx (shaAddK h x j) k W x)) (fun _ v92 _ => 8 - (intOf v92).toNat)
      case atStart => exact ⟨0, rfl, by decide, Lib.hid (by rw [shaAddK_zero h x HH.out.1]; exact H.out)⟩
      case round =>
        clear H
        obtain ⟨j, rfl, hj, H⟩ := hrel
        by_cases hlt : j < 8
        · have c0 := H.out.ah.cell j (by rw [shaAddK_len]; exact hlt)
          rw [shaAddK_get h x j hlt] at c0
          have c1 := H.out.ax.cell j (by rw [HX.out.1]; exact hlt)
          have z0 := H.out.ah.frozen j
          have HS := Lib.hid (shaAddK_succ h x j hlt)
          have u0 := HH.out.2.2.2.2.1 j
          have u1 := HX.out.2 j
          generalize h.getD j 0 = a at c0 u0 HS
          generalize x.getD j 0 = b at c1 u1 HS
          have hj0 : (0 : Int) ≤ (j : Int) := by omega
          have hj1 : (j : Int) < 8 := by omega
          obtain ⟨v, hv, hv2⟩ : ∃ v : Nat, ((a : Int) + b) % 4294967296 = (v : Int) ∧ (a + b) % 4294967296 = v := ⟨(a + b) % 4294967296, by omega, rfl⟩
          rw [hv2] at HS
          clear hv2
          go_wp2_with fail
          go_region
          all_goals
            go_wp2_with fail
            refine ⟨⟨j + 1, by go_num, by omega, Lib.hid (by rw [HS.out]; exact ((H.out.add j v).drewN 1))⟩, by simp only [intOf]; omega⟩
        · obtain rfl : j = 8 := by omega
          rw [shaAddK_end, ← HE.out] at H
          have hl8 : (uCells (shaIn h W)).size = 8 := by rw [uCells_size, HE.out]; rfl
          have HI8 : Hid ((Try.prog.info? 51).map (·.size) = some (uCells (shaIn h W)).size) := Lib.hid (by rw [hl8]; exact info8)
          have HZ8 := Lib.hid (show (uCells [0, 0, 0, 0, 0, 0, 0, 0]).size = (uCells (shaIn h W)).size from by rw [hl8]; rfl)
          generalize hres : shaIn h W = res at H HI8 HZ8
          have HRES := Lib.hid hres
          clear hl8 hlt hj HE HI hres
          have HR := Lib.hid (H.out.res res)
          go_wp2_with (first | (refine wpList_load_row rfl _ _ rfl bh rfl 51 (uCells res) (0, 0) _ H.out.ah Try.underlying51 rfl HI8.out ?_) | (refine wpList_store_row rfl _ _ _ rfl br (uCells res) rfl rfl 51 (uCells [0, 0, 0, 0, 0, 0, 0, 0]) H.out.ar HI8.out HZ8.out (uCells_one _) ?_))
          refine bodyPost_ret (results_cell_row Try.results34 _ _ br 51 (uCells res) (0, 0) _ rfl HR.out.1 Try.underlying51 rfl HI8.out) rfl ⟨by rw [HRES.out], HR.out.2⟩
end Go.Proofs.Ytlcfambhjclkiaa
