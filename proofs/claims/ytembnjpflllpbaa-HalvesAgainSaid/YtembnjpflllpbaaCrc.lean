/- Contracts of the package crc: the table, Extend's inner function, Extend. -/
import Derived.Test.YtembnjpflllpbaaProg
import Derived.Test.YtembnjpflllpbaaBld
import Derived.Test.YtembnjpflllpbaaVar
import Derived.Test.YtembnjpflllpbaaStrs
import Derived.Test.YtembnjpflllpbaaBytes
import Derived.Test.YtembnjpflllpbaaCrcPure
import Derived.Lib.Hide
import Derived.Outline
import Derived.Laws.Tables
namespace Go.Proofs.Ytembnjpflllpbaa
open Go.RowKit
set_option linter.unusedVariables false
set_option linter.unusedSimpArgs false

def tabV : Array Value := (crcTab.map fun x : Nat => Value.int .u32 (x : Int)).toArray
/-- The table in block g. -/
def TabB (w : World) (g : Nat) : Prop := w.heap[g]? = some (.cells tabV 134 (0, 0))
theorem TabB.keep {w w' : World} {g : Nat} {S : List Nat} (h : TabB w g) (hf : Fr S w w') (hb : g ∉ S) : TabB w' g := (hf.block g (lt_of_heap h) hb).trans h
theorem TabB.cell {w : World} {g : Nat} (h : TabB w g) (k : Nat) (hk : k < 16) : w.cell? ⟨g, k, none⟩ = some (.int .u32 (crcT k : Int)) := by
  rw [Lib.cell_of_heap h]
  have hl : k < crcTab.length := hk
  simp [tabV, crcT, List.getD_eq_getElem?_getD, List.getElem?_eq_getElem hl]

set_option maxHeartbeats 400000 in
set_option maxRecDepth 100000 in
theorem table_calls (w : World) :
    Calls Try.prog 85 #[] w fun e w' => e = .returned (.agg tabV) ∧ w' = w.alloc (.cells tabV 134) := by
  go_enter Try.func85, Try.ntmps85
  go_wp2
  exact bodyPost_ret (v := .agg tabV) (by simp [results, Try.results85, go_sem, tabV, crcTab]) rfl ⟨rfl, rfl⟩

set_option maxHeartbeats 400000 in
set_option maxRecDepth 100000 in
theorem half_calls (w : World) (g pr r b : Nat) {bi : Int} (hbi : bi = b) (hr : r < 4294967296) (hb : b < 4294967296) (hg : TabB w g) (hv : VarV 120 w pr (.int .u32 r)) :
    Calls Try.prog 86 #[.int .u32 bi, .pointer (some ⟨g, 0, none⟩), .pointer (some ⟨pr, 0, none⟩)] w fun e w' => e = .returned (.tuple #[]) ∧ VarV 120 w' pr (.int .u32 (crcHalf r b : Nat)) ∧ Fr [pr] w w' := by
  subst hbi
  have hk : (r ^^^ b) % 16 < 16 := Nat.mod_lt _ (by decide)
  have h1 : bits .xor .u32 (r : Int) (b : Int) = ((r ^^^ b : Nat) : Int) := u32_xor_nat r b hr hb
  have h2 : bits .and .u32 ((r ^^^ b : Nat) : Int) 15 = (((r ^^^ b) % 16 : Nat) : Int) := by
    have := u32_and_nat (r ^^^ b) 15 (xor_lt32 hr hb) (by decide)
    rw [show (15 : Int) = ((15 : Nat) : Int) from rfl, this, show (15 : Nat) = 2 ^ 4 - 1 from rfl, Nat.and_two_pow_sub_one_eq_mod]
  have h3 : bits .xor .u32 (crcT ((r ^^^ b) % 16) : Int) ((r : Int) / 16) = ((crcHalf r b : Nat) : Int) := by
    have := u32_xor_nat (crcT ((r ^^^ b) % 16)) (r / 16) (crcT_lt _) (by omega)
    rw [show (r : Int) / 16 = ((r / 16 : Nat) : Int) from by simp, this]
    rfl
  have hc := hg.cell _ hk
  have hc1 := hv.cell
  have hz := hv.frozen 0
  generalize hq : (r ^^^ b) % 16 = k at h2 h3 hc hk
  generalize crcHalf r b = x at h3 ⊢
  generalize r ^^^ b = y at h1 h2
  have H : ∀ W, W = (w.setCell ⟨pr, 0, none⟩ (.int .u32 (x : Int))).drew → VarV 120 W pr (.int .u32 (x : Int)) ∧ Fr [pr] w W := fun W hW => by
    subst hW
    exact ⟨(hv.set _).drew, ((Fr.refl _ w).setCell (.inl (by simp)) _).drew⟩
  have HH := Lib.hid H
  clear H hv hg hq
  go_enter Try.func86, Try.ntmps86
  go_wp2_with fail
  go_region
  all_goals
    go_end0
    exact ⟨rfl, HH.out _ rfl⟩

theorem infoTab : (Try.prog.info? 134).map (·.size) = some tabV.size := by kernel_rfl
theorem tabOne : tabV.all (·.oneCell') = true := by simp [tabV, crcTab, Value.oneCell']
theorem crcL_snoc (r : Nat) (l : List UInt8) (c : UInt8) : crcL r (l ++ [c]) = crcIn (crcL r l) c.toNat := by
  unfold crcL
  rw [List.foldl_append]
  rfl
theorem take_next (s : ByteArray) (k : Nat) (h : k < s.size) : s.data.toList.take (k + 1) = s.data.toList.take k ++ [s[k]] := by
  rw [List.take_succ_eq_append_getElem (by simpa using h)]; rfl

/-- Where Extend stands: the table, and the register. -/
structure ExtS (w0 w : World) (g pr r : Nat) : Prop where
  tab : TabB w g
  reg : VarV 120 w pr (.int .u32 (r : Int))
  fr : Fr [] w0 w
  ng : g ≠ pr
  new : w0.heap.size ≤ pr
theorem ExtS.make {w0 w1 : World} (hf : Fr [] w0 w1) (r1 : Nat) (old : Array Value) : ExtS w0 (((w1.alloc (.cells old 134)).setRow w1.heap.size tabV).alloc (.cells #[.int .u32 (r1 : Int)] 120)) w1.heap.size (w1.heap.size + 1) r1 := by
  have h1 : TabB ((w1.alloc (.cells old 134)).setRow w1.heap.size tabV) w1.heap.size := setRow_heap _ _ old tabV _ _ (heap_alloc_new w1 _)
  have hn := hf.size
  refine ⟨h1.keep (S := []) ((Fr.refl _ _).alloc _) (by simp), VarV.new _ _ _ (by simp), ?_, by omega, by omega⟩
  refine (hf.trans (S' := [w1.heap.size]) (((Fr.refl _ _).alloc _).setRow (.inl (by simp)) _) (fun k hk => .inr (by simp at hk; omega))).alloc _
theorem ExtS.step {w0 w w' : World} {g pr r r' : Nat} (h : ExtS w0 w g pr r) (hv : VarV 120 w' pr (.int .u32 (r' : Int))) (hf : Fr [pr] w w') : ExtS w0 w' g pr r' :=
  ⟨h.tab.keep hf (by simp; exact h.ng), hv, h.fr.trans hf (fun k hk => .inr (by simp at hk; subst hk; exact h.new)), h.ng, h.new⟩

set_option maxHeartbeats 1000000 in
set_option maxRecDepth 100000 in
theorem Extend_calls (w : World) (r : Nat) {ri : Int} (hri : ri = r) (hr : r < 4294967296) (s : ByteArray) (hs : s.size ≤ 9223372036854775806) :
    Calls Try.prog 83 #[.int .u32 ri, .string s] w fun e w' => e = .returned (.int .u32 (crcExt r s : Nat)) ∧ Fr [] w w' := by
  subst hri
  have hmf : ∀ (fn : Fn) (first cap : Array Value) (w : World), (Instr.makeFunc fn first cap).run Try.prog w = .ok (.func fn first cap) w := fun _ _ _ _ => rfl
  have h1 : bits .xor .u32 (r : Int) 4294967295 = ((r ^^^ 4294967295 : Nat) : Int) := u32_xor_nat r 4294967295 hr (by decide)
  have hr1 : r ^^^ 4294967295 < 4294967296 := xor_lt32 hr (by decide)
  have HE : Hid (crcExt r s = crcL (r ^^^ 4294967295) s.data.toList ^^^ 4294967295) := Lib.hid rfl
  generalize crcExt r s = res at HE ⊢
  generalize r ^^^ 4294967295 = r1 at h1 HE hr1
  go_enter Try.func83, Try.ntmps83
  go_wp2_with fail
  (with_reducible refine (table_calls _).mono ?_)
  rintro e w1 ⟨rfl, hw1⟩
  have hf1 : Fr [] w w1 := by rw [hw1]; exact (Fr.refl _ _).alloc _
  clear hw1
  go_wp2_with (refine wpList_store_row rfl _ _ _ rfl w1.heap.size tabV rfl rfl 134 _ (heap_alloc_new w1 _) infoTab rfl tabOne ?_)
  have h0 := ExtS.make hf1 r1 #[Value.int IntKind.u32 0, Value.int IntKind.u32 0, Value.int IntKind.u32 0, Value.int IntKind.u32 0, Value.int IntKind.u32 0, Value.int IntKind.u32 0, Value.int IntKind.u32 0, Value.int IntKind.u32 0, Value.int IntKind.u32 0, Value.int IntKind.u32 0, Value.int IntKind.u32 0, Value.int IntKind.u32 0, Value.int IntKind.u32 0, Value.int IntKind.u32 0, Value.int IntKind.u32 0, Value.int IntKind.u32 0]
  generalize ((w1.alloc _).setRow w1.heap.size tabV).alloc _ = W0 at h0 ⊢
  generalize w1.heap.size + 1 = pr at h0 ⊢
  generalize w1.heap.size = g at h0 ⊢
  have H0 := Lib.hid h0
  clear h0 hf1 h1 hmf
  go_loopw [15] (fun v15 wr => ∃ k : Nat, v15 = .int .i64 k ∧ k ≤ s.size ∧ Hid (ExtS w wr g pr (crcL r1 (s.data.toList.take k)))) (fun v15 _ => s.size - (intOf v15).toNat)
  case atStart => exact ⟨0, rfl, Nat.zero_le _, H0⟩
  case round =>
    clear H0
    obtain ⟨k, rfl, hk, H⟩ := hrel
    have hL := crcL_lt (s.data.toList.take k) r1 hr1
    by_cases hlt : k < s.size
    · have hts := crcL_snoc r1 (s.data.toList.take k) s[k]
      rw [← take_next s k hlt] at hts
      have HT := Lib.hid hts
      have hc := (s[k]).toNat_lt
      clear hts
      generalize hx : crcL r1 (s.data.toList.take k) = x at H HT hL
      generalize hcc : s[k] = c at HT hc
      clear hx
      go_wp2_with fail
      (with_reducible refine (half_calls _ g pr x c.toNat rfl hL (by omega) H.out.tab H.out.reg).mono ?_)
      rintro e w2 ⟨rfl, hv2, hf2⟩
      have H2 := Lib.hid (H.out.step hv2 hf2)
      clear hv2 hf2 H
      have hx2 := crcHalf_lt c.toNat hL
      generalize hh : crcHalf x c.toNat = x2 at H2 hx2
      have HH := Lib.hid hh
      clear hh
      go_wp2_with fail
      (with_reducible refine (half_calls _ g pr x2 (c.toNat / 16) (by omega) hx2 (by omega) H2.out.tab H2.out.reg).mono ?_)
      rintro e w3 ⟨rfl, hv3, hf3⟩
      have H3 := Lib.hid (H2.out.step hv3 hf3)
      clear hv3 hf3 H2
      go_wp2_with fail
      refine ⟨⟨k + 1, by go_num, by omega, Lib.hid (by rw [HT.out, crcIn, HH.out]; exact H3.out)⟩, by simp only [intOf]; omega⟩
    · obtain rfl : k = s.size := by omega
      rw [List.take_of_length_le (by rw [Array.length_toList]; exact Nat.le_refl _)] at H hL
      generalize crcL r1 s.data.toList = x at H HE hL
      have hx : bits .xor .u32 (x : Int) 4294967295 = (res : Int) := by rw [HE.out]; exact u32_xor_nat x 4294967295 hL (by decide)
      have hc := H.out.reg.cell
      go_wp2_with fail
      go_ret
      exact ⟨rfl, H.out.fr⟩

end Go.Proofs.Ytembnjpflllpbaa
