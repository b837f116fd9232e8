/- The contract of the document's put. -/
import Derived.Test.YtndenbcdhbnamaaRDisk2
import Derived.Test.YtndenbcdhbnamaaSRowSet
import Derived.Test.YtndenbcdhbnamaaRows3
namespace Go.Proofs.Ytndenbcdhbnamaa
open Go.RowKit
set_option linter.unusedVariables false
set_option linter.unusedSimpArgs false

theorem cut1_cells (s : ByteArray) (k : Nat) (hk : k < s.size) : Lib.strCells (s.extract k (k + 1)) = [.int .u8 (s[k].toNat : Int)] := by
  have h' : k < s.data.toList.length := by rw [Array.length_toList]; exact hk
  simp only [Lib.strCells, ByteArray.data_extract, Array.toList_extract, List.extract_eq_take_drop]
  rw [show k + 1 - k = 1 from by omega, List.drop_eq_getElem_cons h']
  rfl
theorem ovB_put1 (st : ByteArray) (at' : Nat) (s : ByteArray) (k : Nat) (h : at' + s.size ≤ st.size) (hk : k < s.size) :
    (Lib.strCells (ovB st at' (s.extract 0 k))).set (at' + k) (.int .u8 (s[k].toNat : Int)) = Lib.strCells (ovB st at' (s.extract 0 (k + 1))) := by
  have z1 := cut_size s 0 k (by omega) (by omega)
  have z2 := cut_size s k (k + 1) (by omega) (by omega)
  have s1 := ovB_size (t := st) (off := at') (s := s.extract 0 k) (by omega)
  have hl : (Lib.strCells (ovB st at' (s.extract 0 k))).length = st.size := by rw [Lib.strCells_length, s1]
  rw [← ovB_step st at' s k h hk, ovB_cells (ovB st at' (s.extract 0 k)), cut1_cells s k hk, z2]
  rw [List.set_eq_take_append_cons_drop, if_pos (by omega)]
  simp [Nat.add_assoc]

set_option maxHeartbeats 1000000 in
set_option maxRecDepth 100000 in
theorem rput_calls (w : World) (A : Option Addr) (cap : Nat) (st : ByteArray) (hrd : RdV w A (Lib.strCells st)) (at' : Nat) {ati : Int} (hat : ati = at') (s : ByteArray) (hfit : at' + s.size ≤ st.size) (hbig : st.size ≤ 131072) (h0 : 0 < st.size) (hsc : st.size ≤ cap) (hcm : cap ≤ maxLen) :
    Calls Try.prog 34 #[.slice A st.size cap, .agg #[.int .i64 ati, .string s]] w fun e w' => ∃ v' r', e = .returned v' ∧ SRow 5 1 w' v' r' st.size (Lib.strCells (ovB st at' s)) ∧ Fr [] w w' ∧ (∀ k, k ∈ r' → w.heap.size ≤ k) := by
  subst hat
  obtain ⟨cs, hcs⟩ : ∃ cs, cs = Lib.strCells st := ⟨_, rfl⟩
  have hlc : cs.length = st.size * 1 := by rw [hcs, Lib.strCells_length, Nat.mul_one]
  have hone : ∀ u ∈ cs, u.oneCell' = true := by rw [hcs]; exact fun v hv => Lib.strCells_oneCell st v hv
  rw [← hcs] at hrd
  have HCS := Lib.hid hcs
  clear hcs
  have HN := Lib.hid (heap_alloc_new w (.cells #[.int .i64 at', .string s] 64))
  have hw1 : ∀ E : TypeId, RdV ((w.alloc (.cells #[.int .i64 at', .string s] 64)).alloc (.cells #[] E)) A cs := fun E => by
    refine hrd.keep (S := []) (((Fr.refl _ _).alloc _).alloc _) (by simp)
  have HRD := Lib.hid hw1
  have hem : SRow 5 1 ((w.alloc (.cells #[.int .i64 at', .string s] 64)).alloc (.cells #[] 5)) (.slice (some ⟨w.heap.size + 1, 0, none⟩) 0 0) [w.heap.size + 1] 0 [] := SRow.empty _ _ _ (by simp)
  have HEM := Lib.hid hem
  clear hw1 hrd hem
  go_enter Try.func34, Try.ntmps34
  go_wp2_with (at_builtin; refine wpList_sapp_any rfl _ _ 39 rfl 5 Try.underlying39 (.int .u8 0) 1 1 (by kernel_rfl) rfl (by decide) _ _ 0 [] rfl HEM.out A st.size cap cs rfl hlc (HRD.out _) hone (by simp only [maxLen]; omega) (by omega) ?_)
  intro v' w2 r' h2 hf2 hn2
  (try rw [Nat.zero_add] at h2)
  (try rw [List.nil_append] at h2)
  rw [HCS.out] at h2
  obtain ⟨A', cap', rfl, hsc', hcm', hrd', hblk⟩ := h2.reads
  have hA' : ∃ g, A' = some ⟨g, 0, none⟩ := by
    obtain ⟨ad, ha, _⟩ := hrd' 0 ((Lib.strCells st)[0]'(by rw [Lib.strCells_length]; omega)) (by rw [List.getElem?_eq_getElem])
    obtain ⟨g, hg, _⟩ := srow_addr h2 ad ha
    exact ⟨g, by rw [ha, hg]⟩
  obtain ⟨g, rfl⟩ := hA'
  obtain ⟨g', hg', hr'⟩ := srow_addr h2 _ rfl
  injection hg' with hg'
  subst hg' hr'
  have hgn : w.heap.size + 1 ≤ g := by
    rcases hn2 g (by simp) with h | h
    · (try simp at h); omega
    · (try simp at h); omega
  have hF2 : Fr [] w w2 := ((((Fr.refl [] w).alloc _).alloc _).trans hf2 (fun k hk => by simp at hk; exact .inr (by omega)))
  have hb2 : w2.heap[w.heap.size]? = some (.cells #[.int .i64 at', .string s] 64 (0, 0)) := by
    have e1 := (((Fr.refl [] (w.alloc (.cells #[.int .i64 at', .string s] 64))).alloc (.cells #[] 5)).block w.heap.size (by simp) (by simp)).trans HN.out
    exact (hf2.block w.heap.size (lt_of_heap e1) (by simp)).trans e1
  have H2 := Lib.hid (And.intro h2 (And.intro hF2 hb2))
  clear h2 hF2 hb2 hf2 hn2 hrd' HN HRD HEM hblk hlc hone HCS
  unfold maxLen at hcm'
  go_wp2_with fail
  go_loopw [6] (fun v6 wr => ∃ (k : Nat), v6 = .int .i64 k ∧ k ≤ s.size ∧ Hid (SRow 5 1 wr (.slice (some ⟨g, 0, none⟩) st.size cap') [g] st.size (Lib.strCells (ovB st at' (s.extract 0 k))) ∧ Fr [] w wr ∧ wr.heap[w.heap.size]? = some (.cells #[.int .i64 at', .string s] 64 (0, 0)))) (fun v6 _ => s.size - (intOf v6).toNat)
  case atStart => exact ⟨0, rfl, Nat.zero_le _, by rw [ovB_nil]; exact H2.out⟩
  case round =>
    clear H2
    obtain ⟨k, rfl, hk, H⟩ := hrel
    have c0 : wr.cell? ⟨w.heap.size, 0, none⟩ = some (.int .i64 at') := by rw [Lib.cell_of_heap H.out.2.2]; rfl
    have c1 : wr.cell? ⟨w.heap.size, 1, none⟩ = some (.string s) := by rw [Lib.cell_of_heap H.out.2.2]; rfl
    by_cases hlt : k < s.size
    · have z0 : wr.frozen? ⟨g, at' + k, none⟩ = false := by
        have hj : (Lib.strCells (ovB st at' (s.extract 0 k)))[at' + k]? = some ((Lib.strCells (ovB st at' (s.extract 0 k)))[at' + k]'(by rw [Lib.strCells_length, ovB_size (by rw [ByteArray.size_extract]; omega)]; omega)) := List.getElem?_eq_getElem _
        exact (H.out.1.cell1 _ _ hj).2
      have hc : ∃ u, wr.cell? ⟨g, at' + k, none⟩ = some u := ⟨_, (H.out.1.cell1 (at' + k) _ (List.getElem?_eq_getElem (by rw [Lib.strCells_length, ovB_size (by rw [ByteArray.size_extract]; omega)]; omega))).1⟩
      obtain ⟨u, hu⟩ := hc
      have hfin : SRow 5 1 (wr.drew.setCell ⟨g, at' + k, none⟩ (.int .u8 (s[k].toNat : Int))) (.slice (some ⟨g, 0, none⟩) st.size cap') [g] st.size (Lib.strCells (ovB st at' (s.extract 0 (k + 1)))) ∧ Fr [] w (wr.drew.setCell ⟨g, at' + k, none⟩ (.int .u8 (s[k].toNat : Int))) ∧ (wr.drew.setCell ⟨g, at' + k, none⟩ (.int .u8 (s[k].toNat : Int))).heap[w.heap.size]? = some (.cells #[.int .i64 at', .string s] 64 (0, 0)) := by
        have h1 := (H.out.1.keep ((Fr.refl [] _).drew) (by simp)).set1 (at' + k) (by omega) (.int .u8 (s[k].toNat : Int))
        rw [ovB_put1 st at' s k hfit hlt] at h1
        have hs : Fr [g] wr (wr.drew.setCell ⟨g, at' + k, none⟩ (.int .u8 (s[k].toNat : Int))) := ((Fr.refl _ _).drew).setCell (.inl (by simp)) _
        refine ⟨h1, H.out.2.1.trans hs (fun x hx => by simp at hx; exact .inr (by omega)), (hs.block _ (lt_of_heap H.out.2.2) (by simp; omega)).trans H.out.2.2⟩
      have HF := Lib.hid hfin
      have hat : at' + k < st.size := by omega
      have hlen : st.size ≤ cap' := hsc'
      clear hfin
      go_wp2_with fail
      go_region
      all_goals
        go_wp2_with fail
        refine ⟨⟨k + 1, by go_num, by omega, HF⟩, by simp only [intOf]; omega⟩
    · obtain rfl : k = s.size := by omega
      have hE : s.extract 0 s.size = s := ByteArray.extract_zero_size
      rw [hE] at H
      go_wp2_with fail
      go_ret
      exact ⟨_, _, rfl, H.out.1, H.out.2.1, by simp; omega⟩
end Go.Proofs.Ytndenbcdhbnamaa
