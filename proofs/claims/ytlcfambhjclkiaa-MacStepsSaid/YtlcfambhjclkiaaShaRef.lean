/- Contracts of the document's layer 6: turn, times. -/
import Derived.Test.YtlcfambhjclkiaaShaIn
import Derived.Test.YtlcfambhjclkiaaShaDoc
namespace Go.Proofs.Ytlcfambhjclkiaa
open Go.RowKit
set_option linter.unusedVariables false
set_option linter.unusedSimpArgs false

set_option maxHeartbeats 1000000 in
set_option maxRecDepth 100000 in
theorem turn2_calls (w : World) (x : Nat) {xi : Int} (hxi : xi = x) (hx : x < 4294967296) :
    Calls Try.prog 54 #[.int .u32 xi, .int .i64 2] w fun e w' => e = .returned (.int .u32 (shaR x 2 : Nat)) ∧ w = w' := by
  subst hxi
  have h2 : bits .or .u32 ((x : Int) / 4) (((x : Int) * 1073741824) % 4294967296) = (shaR x 2 : Nat) := or32 (a := x / 4) (b := x * 1073741824 % 4294967296) (by simp) (by simp) (by omega) (Nat.mod_lt _ (by decide)) (by rw [Nat.or_comm]; rfl)
  generalize shaR x 2 = y at *
  go_enter Try.func54, Try.ntmps54
  go_wp2
  go_ret
  exact ⟨rfl, rfl⟩
set_option maxHeartbeats 1000000 in
set_option maxRecDepth 100000 in
theorem turn6_calls (w : World) (x : Nat) {xi : Int} (hxi : xi = x) (hx : x < 4294967296) :
    Calls Try.prog 54 #[.int .u32 xi, .int .i64 6] w fun e w' => e = .returned (.int .u32 (shaR x 6 : Nat)) ∧ w = w' := by
  subst hxi
  have h2 : bits .or .u32 ((x : Int) / 64) (((x : Int) * 67108864) % 4294967296) = (shaR x 6 : Nat) := or32 (a := x / 64) (b := x * 67108864 % 4294967296) (by simp) (by simp) (by omega) (Nat.mod_lt _ (by decide)) (by rw [Nat.or_comm]; rfl)
  generalize shaR x 6 = y at *
  go_enter Try.func54, Try.ntmps54
  go_wp2
  go_ret
  exact ⟨rfl, rfl⟩
set_option maxHeartbeats 1000000 in
set_option maxRecDepth 100000 in
theorem turn7_calls (w : World) (x : Nat) {xi : Int} (hxi : xi = x) (hx : x < 4294967296) :
    Calls Try.prog 54 #[.int .u32 xi, .int .i64 7] w fun e w' => e = .returned (.int .u32 (shaR x 7 : Nat)) ∧ w = w' := by
  subst hxi
  have h2 : bits .or .u32 ((x : Int) / 128) (((x : Int) * 33554432) % 4294967296) = (shaR x 7 : Nat) := or32 (a := x / 128) (b := x * 33554432 % 4294967296) (by simp) (by simp) (by omega) (Nat.mod_lt _ (by decide)) (by rw [Nat.or_comm]; rfl)
  generalize shaR x 7 = y at *
  go_enter Try.func54, Try.ntmps54
  go_wp2
  go_ret
  exact ⟨rfl, rfl⟩
set_option maxHeartbeats 1000000 in
set_option maxRecDepth 100000 in
theorem turn11_calls (w : World) (x : Nat) {xi : Int} (hxi : xi = x) (hx : x < 4294967296) :
    Calls Try.prog 54 #[.int .u32 xi, .int .i64 11] w fun e w' => e = .returned (.int .u32 (shaR x 11 : Nat)) ∧ w = w' := by
  subst hxi
  have h2 : bits .or .u32 ((x : Int) / 2048) (((x : Int) * 2097152) % 4294967296) = (shaR x 11 : Nat) := or32 (a := x / 2048) (b := x * 2097152 % 4294967296) (by simp) (by simp) (by omega) (Nat.mod_lt _ (by decide)) (by rw [Nat.or_comm]; rfl)
  generalize shaR x 11 = y at *
  go_enter Try.func54, Try.ntmps54
  go_wp2
  go_ret
  exact ⟨rfl, rfl⟩
set_option maxHeartbeats 1000000 in
set_option maxRecDepth 100000 in
theorem turn13_calls (w : World) (x : Nat) {xi : Int} (hxi : xi = x) (hx : x < 4294967296) :
    Calls Try.prog 54 #[.int .u32 xi, .int .i64 13] w fun e w' => e = .returned (.int .u32 (shaR x 13 : Nat)) ∧ w = w' := by
  subst hxi
  have h2 : bits .or .u32 ((x : Int) / 8192) (((x : Int) * 524288) % 4294967296) = (shaR x 13 : Nat) := or32 (a := x / 8192) (b := x * 524288 % 4294967296) (by simp) (by simp) (by omega) (Nat.mod_lt _ (by decide)) (by rw [Nat.or_comm]; rfl)
  generalize shaR x 13 = y at *
  go_enter Try.func54, Try.ntmps54
  go_wp2
  go_ret
  exact ⟨rfl, rfl⟩
set_option maxHeartbeats 1000000 in
set_option maxRecDepth 100000 in
theorem turn17_calls (w : World) (x : Nat) {xi : Int} (hxi : xi = x) (hx : x < 4294967296) :
    Calls Try.prog 54 #[.int .u32 xi, .int .i64 17] w fun e w' => e = .returned (.int .u32 (shaR x 17 : Nat)) ∧ w = w' := by
  subst hxi
  have h2 : bits .or .u32 ((x : Int) / 131072) (((x : Int) * 32768) % 4294967296) = (shaR x 17 : Nat) := or32 (a := x / 131072) (b := x * 32768 % 4294967296) (by simp) (by simp) (by omega) (Nat.mod_lt _ (by decide)) (by rw [Nat.or_comm]; rfl)
  generalize shaR x 17 = y at *
  go_enter Try.func54, Try.ntmps54
  go_wp2
  go_ret
  exact ⟨rfl, rfl⟩
set_option maxHeartbeats 1000000 in
set_option maxRecDepth 100000 in
theorem turn18_calls (w : World) (x : Nat) {xi : Int} (hxi : xi = x) (hx : x < 4294967296) :
    Calls Try.prog 54 #[.int .u32 xi, .int .i64 18] w fun e w' => e = .returned (.int .u32 (shaR x 18 : Nat)) ∧ w = w' := by
  subst hxi
  have h2 : bits .or .u32 ((x : Int) / 262144) (((x : Int) * 16384) % 4294967296) = (shaR x 18 : Nat) := or32 (a := x / 262144) (b := x * 16384 % 4294967296) (by simp) (by simp) (by omega) (Nat.mod_lt _ (by decide)) (by rw [Nat.or_comm]; rfl)
  generalize shaR x 18 = y at *
  go_enter Try.func54, Try.ntmps54
  go_wp2
  go_ret
  exact ⟨rfl, rfl⟩
set_option maxHeartbeats 1000000 in
set_option maxRecDepth 100000 in
theorem turn19_calls (w : World) (x : Nat) {xi : Int} (hxi : xi = x) (hx : x < 4294967296) :
    Calls Try.prog 54 #[.int .u32 xi, .int .i64 19] w fun e w' => e = .returned (.int .u32 (shaR x 19 : Nat)) ∧ w = w' := by
  subst hxi
  have h2 : bits .or .u32 ((x : Int) / 524288) (((x : Int) * 8192) % 4294967296) = (shaR x 19 : Nat) := or32 (a := x / 524288) (b := x * 8192 % 4294967296) (by simp) (by simp) (by omega) (Nat.mod_lt _ (by decide)) (by rw [Nat.or_comm]; rfl)
  generalize shaR x 19 = y at *
  go_enter Try.func54, Try.ntmps54
  go_wp2
  go_ret
  exact ⟨rfl, rfl⟩
set_option maxHeartbeats 1000000 in
set_option maxRecDepth 100000 in
theorem turn22_calls (w : World) (x : Nat) {xi : Int} (hxi : xi = x) (hx : x < 4294967296) :
    Calls Try.prog 54 #[.int .u32 xi, .int .i64 22] w fun e w' => e = .returned (.int .u32 (shaR x 22 : Nat)) ∧ w = w' := by
  subst hxi
  have h2 : bits .or .u32 ((x : Int) / 4194304) (((x : Int) * 1024) % 4294967296) = (shaR x 22 : Nat) := or32 (a := x / 4194304) (b := x * 1024 % 4294967296) (by simp) (by simp) (by omega) (Nat.mod_lt _ (by decide)) (by rw [Nat.or_comm]; rfl)
  generalize shaR x 22 = y at *
  go_enter Try.func54, Try.ntmps54
  go_wp2
  go_ret
  exact ⟨rfl, rfl⟩
set_option maxHeartbeats 1000000 in
set_option maxRecDepth 100000 in
theorem turn25_calls (w : World) (x : Nat) {xi : Int} (hxi : xi = x) (hx : x < 4294967296) :
    Calls Try.prog 54 #[.int .u32 xi, .int .i64 25] w fun e w' => e = .returned (.int .u32 (shaR x 25 : Nat)) ∧ w = w' := by
  subst hxi
  have h2 : bits .or .u32 ((x : Int) / 33554432) (((x : Int) * 128) % 4294967296) = (shaR x 25 : Nat) := or32 (a := x / 33554432) (b := x * 128 % 4294967296) (by simp) (by simp) (by omega) (Nat.mod_lt _ (by decide)) (by rw [Nat.or_comm]; rfl)
  generalize shaR x 25 = y at *
  go_enter Try.func54, Try.ntmps54
  go_wp2
  go_ret
  exact ⟨rfl, rfl⟩

/-! ### numbers of 64 bits in arrays -/
def qCells (l : List Nat) : Array Value := (l.map fun x : Nat => Value.int .u64 (x : Int)).toArray
def QA (T : TypeId) (w : World) (g : Nat) (l : List Nat) : Prop := w.heap[g]? = some (.cells (qCells l) T (0, 0))
theorem QA.keep {T : TypeId} {w w' : World} {g : Nat} {l : List Nat} {S : List Nat} (h : QA T w g l) (hf : Fr S w w') (hg : g ∉ S) : QA T w' g l := (hf.block g (lt_of_heap h) hg).trans h
theorem QA.lt {T : TypeId} {w : World} {g : Nat} {l : List Nat} (h : QA T w g l) : g < w.heap.size := lt_of_heap h
theorem QA.cell {T : TypeId} {w : World} {g : Nat} {l : List Nat} (h : QA T w g l) (k : Nat) (hk : k < l.length) : w.cell? ⟨g, k, none⟩ = some (.int .u64 ((l.getD k 0 : Nat) : Int)) := by
  rw [Lib.cell_of_heap h]
  simp [qCells, List.getD_eq_getElem?_getD, List.getElem?_eq_getElem hk]
theorem QA.frozen {T : TypeId} {w : World} {g : Nat} {l : List Nat} (h : QA T w g l) (k : Nat) : w.frozen? ⟨g, k, none⟩ = false := Lib.frozen_of_heap h k
theorem QA.set {T : TypeId} {w : World} {g : Nat} {l : List Nat} (h : QA T w g l) (k v : Nat) : QA T (w.setCell ⟨g, k, none⟩ (.int .u64 (v : Int))) g (l.set k v) := by
  have h' : w.heap[g]? = some (.cells (qCells l) T (0, 0)) := h
  have e : qCells (l.set k v) = (qCells l).setIfInBounds k (.int .u64 (v : Int)) := by
    apply Array.ext'
    simp [qCells, List.map_set]
  simp [QA, World.setCell, Array.getElem?_modify, h', e, Array.set!]

/-! ### times -/
theorem tmStep_len (n x y : List Nat) (i : Nat) : ∀ k, (tmStep n x y i k).1.length = n.length
  | 0 => rfl
  | k + 1 => by rw [tmStep]; simp [tmStep_len n x y i k]
theorem tmStep_carry (n x y : List Nat) (i : Nat) : ∀ k, (tmStep n x y i k).2 < 4294967296
  | 0 => by rw [tmStep]; exact Nat.zero_lt_succ _
  | k + 1 => by rw [tmStep]; simp only; omega
theorem U32s.set' {l : List Nat} (h : U32s l) (k v : Nat) (hv : v < 4294967296) : U32s (l.set k v) := by
  intro i
  rw [List.getD_eq_getElem?_getD, List.getElem?_set]
  have := h i
  rw [List.getD_eq_getElem?_getD] at this
  split
  · split
    · exact hv
    · decide
  · exact this
theorem and64 (a : Nat) (ha : a < 18446744073709551616) : bits .and .u64 (a : Int) 4294967295 = ((a % 4294967296 : Nat) : Int) := by
  have := u64_and_nat a 4294967295 ha (by decide)
  rw [show (4294967295 : Int) = ((4294967295 : Nat) : Int) from rfl, this, show (4294967295 : Nat) = 2 ^ 32 - 1 from rfl, Nat.and_two_pow_sub_one_eq_mod]
theorem tmStep_low (n x y : List Nat) (i : Nat) (hn : U32s n) : ∀ k, U32s (tmStep n x y i k).1
  | 0 => hn
  | k + 1 => by rw [tmStep]; exact (tmStep_low n x y i hn k).set' _ _ (mod32 _)
/-- Where times stands: the product so far, the two factors. -/
structure TmS (w0 w : World) (bn bx by' br : Nat) (n x y : List Nat) : Prop where
  an : QA 95 w bn n
  ax : QA 85 w bx x
  ay : QA 95 w by' y
  ar : QA 85 w br [0, 0]
  fr : Fr [] w0 w
  new : w0.heap.size ≤ br ∧ br < bn ∧ bn < bx ∧ bx < by'
theorem TmS.set {w0 w : World} {bn bx by' br : Nat} {n x y : List Nat} (s : TmS w0 w bn bx by' br n x y) (k v : Nat) : TmS w0 (w.setCell ⟨bn, k, none⟩ (.int .u64 (v : Int))) bn bx by' br (n.set k v) x y := by
  obtain ⟨an, ax, ay, ar, fr, n0, n1, n2, n3⟩ := s
  have hF : Fr [bn] w (w.setCell ⟨bn, k, none⟩ (.int .u64 (v : Int))) := (Fr.refl _ _).setCell (.inl (by simp)) _
  exact ⟨an.set k v, ax.keep hF (by simp; omega), ay.keep hF (by simp; omega), ar.keep hF (by simp; omega), fr.trans hF (fun i hi => .inr (by simp at hi; omega)), n0, n1, n2, n3⟩
theorem TmS.drewN {w0 w : World} {bn bx by' br : Nat} {n x y : List Nat} (s : TmS w0 w bn bx by' br n x y) (m : Nat) : TmS w0 (w.drewN m) bn bx by' br n x y := ⟨s.an, s.ax, s.ay, s.ar, s.fr.drewN m, s.new⟩

theorem info2q : (Try.prog.info? 85).map (·.size) = some 2 := by kernel_rfl
theorem fr_setRowQ (W : World) (g : Nat) (cs : Array Value) : Fr [g] W (W.setRow g cs) := ⟨rfl, rfl, rfl, by simp, fun k _ hk => setRow_other _ _ _ _ (fun e => hk (by simp [e]))⟩
/-- The product behind i of the outer rounds. -/
def tmAt (x y : List Nat) : Nat → List Nat
  | 0 => [0, 0, 0, 0]
  | i + 1 => (tmStep (tmAt x y i) x y i (4 - i)).1
theorem tmAt_two (a hi lo : Nat) : tmAt (tmX a) (tmY hi lo) 2 = tmN a hi lo := rfl
theorem tmAt_ok (x y : List Nat) : ∀ i, (tmAt x y i).length = 4 ∧ U32s (tmAt x y i)
  | 0 => ⟨rfl, U32s.of_all (l := [0, 0, 0, 0]) (by decide)⟩
  | i + 1 => ⟨by rw [tmAt, tmStep_len]; exact (tmAt_ok x y i).1, by rw [tmAt]; exact tmStep_low _ _ _ _ (tmAt_ok x y i).2 _⟩
theorem TmS.make (w : World) (a hi lo : Nat) : TmS w ((((w.alloc (.cells #[.int .u64 0, .int .u64 0] 85)).alloc (.cells #[.int .u64 0, .int .u64 0, .int .u64 0, .int .u64 0] 95)).alloc (.cells #[.int .u64 ((a : Int) % 4294967296), .int .u64 ((a : Int) / 4294967296)] 85)).alloc (.cells #[.int .u64 ((lo : Int) % 4294967296), .int .u64 ((lo : Int) / 4294967296), .int .u64 ((hi : Int) % 4294967296), .int .u64 ((hi : Int) / 4294967296)] 95))
    (w.heap.size + 1) (w.heap.size + 1 + 1) (w.heap.size + 1 + 1 + 1) w.heap.size (tmAt (tmX a) (tmY hi lo) 0) (tmX a) (tmY hi lo) := by
  have e1 : (#[.int .u64 ((a : Int) % 4294967296), .int .u64 ((a : Int) / 4294967296)] : Array Value) = qCells (tmX a) := by simp [qCells, tmX]
  have e2 : (#[.int .u64 ((lo : Int) % 4294967296), .int .u64 ((lo : Int) / 4294967296), .int .u64 ((hi : Int) % 4294967296), .int .u64 ((hi : Int) / 4294967296)] : Array Value) = qCells (tmY hi lo) := by simp [qCells, tmY]
  have al : ∀ (W : World) (o x : Obj) (b : Nat), W.heap[b]? = some x → (W.alloc o).heap[b]? = some x := fun W o x b h => (((Fr.refl [] W).alloc o).block b (lt_of_heap h) (by simp)).trans h
  have nw : ∀ (W : World) (o : Obj) (b : Nat), b = W.heap.size → (W.alloc o).heap[b]? = some o := fun W o b h => by subst h; exact heap_alloc_new W o
  rw [e1, e2]
  exact ⟨al _ _ _ _ (al _ _ _ _ (nw _ _ _ (by simp))), al _ _ _ _ (nw _ _ _ (by simp)), nw _ _ _ (by simp), al _ _ _ _ (al _ _ _ _ (al _ _ _ _ (nw _ _ _ rfl))), ((((Fr.refl _ w).alloc _).alloc _).alloc _).alloc _, by omega⟩
theorem tm_val {nk xi yk c T : Nat} (hT : (nk + xi * yk + c) % 18446744073709551616 = T) : IntKind.u64.wrap (IntKind.u64.wrap ((nk : Int) + IntKind.u64.wrap ((xi : Int) * (yk : Int))) + (c : Int)) = (T : Int) := by
  have e : ∀ n : Int, IntKind.u64.wrap n = n % 18446744073709551616 := fun n => by simp [IntKind.wrap, IntKind.bits, IntKind.signed]
  rw [← hT, e, e, e]
  simp

set_option maxHeartbeats 2000000 in
set_option maxRecDepth 100000 in
theorem times_calls (w : World) (a hi lo : Nat) (ha : a < 18446744073709551616) (hh : hi < 18446744073709551616) (hl : lo < 18446744073709551616) :
    Calls Try.prog 53 #[.int .u64 a, .int .u64 hi, .int .u64 lo] w fun e w' => e = .returned (.agg #[.int .u64 ((timesP a hi lo).1 : Nat), .int .u64 ((timesP a hi lo).2 : Nat)]) ∧ Fr [] w w' := by
  have m1 : bits .and .u64 (a : Int) 4294967295 = ((a % 4294967296 : Nat) : Int) := and64 a ha
  have m2 : bits .and .u64 (hi : Int) 4294967295 = ((hi % 4294967296 : Nat) : Int) := and64 hi hh
  have m3 : bits .and .u64 (lo : Int) 4294967295 = ((lo % 4294967296 : Nat) : Int) := and64 lo hl
  go_enter Try.func53, Try.ntmps53
  go_wp2_with fail
  have h0 := TmS.make w a hi lo
  have hN := tmAt_two a hi lo
  have HP : Hid (timesP a hi lo = (((tmN a hi lo).getD 2 0 + (tmN a hi lo).getD 3 0 * 4294967296) % 18446744073709551616, ((tmN a hi lo).getD 0 0 + (tmN a hi lo).getD 1 0 * 4294967296) % 18446744073709551616)) := Lib.hid rfl
  have hxl : (tmX a).length = 2 := rfl
  have hyl : (tmY hi lo).length = 4 := rfl
  have hxu : U32s (tmX a) := U32s.of_all (by intro z hz; simp [tmX] at hz; omega)
  have hyu : U32s (tmY hi lo) := U32s.of_all (by intro z hz; simp [tmY] at hz; omega)
  generalize ((((w.alloc (.cells #[.int .u64 0, .int .u64 0] 85)).alloc (.cells #[.int .u64 0, .int .u64 0, .int .u64 0, .int .u64 0] 95)).alloc _).alloc _) = W0 at h0 ⊢
  generalize w.heap.size + 1 + 1 + 1 = by' at h0 ⊢
  generalize w.heap.size + 1 + 1 = bx at h0 ⊢
  generalize w.heap.size + 1 = bn at h0 ⊢
  generalize w.heap.size = br at h0 ⊢
  generalize tmX a = x at h0 hN hxl hxu
  generalize tmY hi lo = y at h0 hN hyl hyu
  have H0 := Lib.hid h0
  have HX := Lib.hid (And.intro hxl (And.intro hyl (And.intro hxu hyu)))
  have HN := Lib.hid hN
  clear h0 hxl hyl hxu hyu hN m1 m2 m3
  go_loopw [10, 11, 12, 13] (fun v10 v11 v12 v13 wr => ∃ i : Nat, v10 = .int .i64 i ∧ i ≤ 2 ∧ Hid (TmS w wr bn bx by' br (tmAt x y i) x y)) (fun v10 _ _ _ _ => 2 - (intOf v10).toNat)
  case atStart => exact ⟨0, rfl, by decide, H0⟩
  case round =>
    clear H0
    obtain ⟨i, rfl, hi2, H⟩ := hrel
    by_cases hlt : i < 2
    · obtain ⟨W1, rfl⟩ : ∃ W1 : World, W1 = wr := ⟨_, rfl⟩
      have HE : Hid (tmAt x y (i + 1) = (tmStep (tmAt x y i) x y i (4 - i)).1) := Lib.hid rfl
      have hok := tmAt_ok x y i
      generalize tmAt x y i = n0 at H HE hok
      have HO := Lib.hid hok
      clear hok
      go_wp2_with fail
      go_loopw [11, 12, 13] (fun v11 v12 v13 wr => ∃ k : Nat, v12 = .int .i64 k ∧ i + k ≤ 4 ∧ v11 = .int .u64 ((tmStep n0 x y i k).2 : Nat) ∧ Hid (TmS w wr bn bx by' br (tmStep n0 x y i k).1 x y)) (fun _ v12 _ _ => 4 - i - (intOf v12).toNat)
      case atStart => exact ⟨0, rfl, by omega, rfl, H⟩
      case round =>
        clear H
        obtain ⟨k, rfl, hik, rfl, H⟩ := hrel
        by_cases hk : i + k < 4
        · have hl := tmStep_len n0 x y i k
          have hu := tmStep_low n0 x y i HO.out.2 k
          have hc := tmStep_carry n0 x y i k
          have HS : Hid (tmStep n0 x y i (k + 1) = ((tmStep n0 x y i k).1.set (i + k) ((((tmStep n0 x y i k).1.getD (i + k) 0 + x.getD i 0 * y.getD k 0 + (tmStep n0 x y i k).2) % 18446744073709551616) % 4294967296), (((tmStep n0 x y i k).1.getD (i + k) 0 + x.getD i 0 * y.getD k 0 + (tmStep n0 x y i k).2) % 18446744073709551616) / 4294967296)) := Lib.hid rfl
          generalize (tmStep n0 x y i k).1 = nl at H hl hu HS
          generalize (tmStep n0 x y i k).2 = c at hc HS
          have c0 := H.out.an.cell (i + k) (by rw [hl, HO.out.1]; exact hk)
          have c1 := H.out.ax.cell i (by rw [HX.out.1]; exact hlt)
          have c2 := H.out.ay.cell k (by rw [HX.out.2.1]; omega)
          have z0 := H.out.an.frozen (i + k)
          have u0 := hu (i + k)
          have u1 := HX.out.2.2.1 i
          have u2 := HX.out.2.2.2 k
          generalize nl.getD (i + k) 0 = nk at c0 u0 HS
          generalize x.getD i 0 = xi at c1 u1 HS
          generalize y.getD k 0 = yk at c2 u2 HS
          obtain ⟨T, hT⟩ : ∃ T, (nk + xi * yk + c) % 18446744073709551616 = T := ⟨_, rfl⟩
          rw [hT] at HS
          have hTi := tm_val hT
          have hT64 : T < 18446744073709551616 := by rw [← hT]; exact Nat.mod_lt _ (by decide)
          have m4 := and64 T hT64
          have i0 : (0 : Int) ≤ (i : Int) + (k : Int) := by omega
          have i1 : (i : Int) + (k : Int) < 4 := by omega
          have i2 : (0 : Int) ≤ (i : Int) := by omega
          have i3 : (i : Int) < 2 := by omega
          have i4 : (0 : Int) ≤ (k : Int) := by omega
          have i5 : (k : Int) < 4 := by omega
          have HTI := Lib.hid (And.intro hTi m4)
          clear hl hu hT hTi m4
          go_wp2_with fail
          go_quiet (fail)
          rw [HTI.out.1]
          have m4 := HTI.out.2
          go_wp2_with fail
          have h4 := (H.out.drewN nq).set (i + k) (T % 4294967296)
          refine ⟨⟨k + 1, by go_num, by omega, by rw [HS.out]; simp, Lib.hid (by rw [HS.out]; exact h4)⟩, by simp only [intOf]; omega⟩
        · have hk4 : k = 4 - i := by omega
          subst hk4
          rw [← HE.out] at H
          have hge : ¬ ((i : Int) + ((4 - i : Nat) : Int) < 4) := by omega
          go_wp2_with fail
          exact ⟨⟨i + 1, by go_num, by omega, H⟩, by simp only [intOf]; omega⟩
    · obtain rfl : i = 2 := by omega
      rw [HN.out] at H
      have hok := tmAt_ok x y 2
      rw [HN.out] at hok
      generalize tmN a hi lo = nn at H hok HP
      obtain ⟨hl, hu⟩ := hok
      obtain ⟨n0, n1, n2, n3, rfl⟩ : ∃ n0 n1 n2 n3, nn = [n0, n1, n2, n3] := by
        match nn, hl with
        | [n0, n1, n2, n3], _ => exact ⟨n0, n1, n2, n3, rfl⟩
      have c0 := H.out.an.cell 0 (by show 0 < 4; decide)
      have c1 := H.out.an.cell 1 (by show 1 < 4; decide)
      have c2 := H.out.an.cell 2 (by show 2 < 4; decide)
      have c3 := H.out.an.cell 3 (by show 3 < 4; decide)
      have u0 := hu 0
      have u1 := hu 1
      have u2 := hu 2
      have u3 := hu 3
      simp only [List.getD_cons_zero, List.getD_cons_succ] at c0 c1 c2 c3 u0 u1 u2 u3
      obtain ⟨p, hp, hp'⟩ : ∃ p : Nat, (n2 : Int) + (n3 : Int) * 4294967296 = p ∧ (n2 + n3 * 4294967296) % 18446744073709551616 = p := ⟨n2 + n3 * 4294967296, by omega, by omega⟩
      obtain ⟨q, hq, hq'⟩ : ∃ q : Nat, (n0 : Int) + (n1 : Int) * 4294967296 = q ∧ (n0 + n1 * 4294967296) % 18446744073709551616 = q := ⟨n0 + n1 * 4294967296, by omega, by omega⟩
      have HV : Hid (timesP a hi lo = (p, q)) := Lib.hid (by rw [HP.out, ← hp', ← hq']; rfl)
      have HR : Hid ((wr.setRow br #[.int .u64 (p : Int), .int .u64 (q : Int)]).heap[br]? = some (.cells #[.int .u64 (p : Int), .int .u64 (q : Int)] 85 (0, 0)) ∧ Fr [] w (wr.setRow br #[.int .u64 (p : Int), .int .u64 (q : Int)])) :=
        Lib.hid ⟨setRow_heap _ _ _ _ _ _ H.out.ar, H.out.fr.trans (fr_setRowQ _ _ _) (fun i hi => .inr (by have := H.out.new; simp at hi; omega))⟩
      clear hu hl hp' hq' hlt hi2 HP
      go_wp2_with (refine wpList_store_row rfl _ _ _ rfl br #[.int .u64 (p : Int), .int .u64 (q : Int)] rfl rfl 85 (qCells [0, 0]) H.out.ar info2q rfl (by simp [Value.oneCell']) ?_)
      exact bodyPost_ret (results_cell_row Try.results53 _ _ br 85 #[.int .u64 (p : Int), .int .u64 (q : Int)] (0, 0) _ rfl HR.out.1 Try.underlying85 rfl info2q) rfl ⟨by rw [HV.out], HR.out.2⟩
end Go.Proofs.Ytlcfambhjclkiaa
