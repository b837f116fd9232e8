/- The contract of the inner function of Crash. -/
import Derived.Test.YtembnjpflllpbaaDisk3
namespace Go.Proofs.Ytembnjpflllpbaa
open Go.RowKit
set_option linter.unusedVariables false
set_option linter.unusedSimpArgs false

set_option maxHeartbeats 1000000 in
set_option maxRecDepth 100000 in
theorem crashPut_core (w : World) (b ps pn pk pd pl : Nat) (v : Value) (r : List Nat) (st nw : ByteArray) (wl : List (Nat × ByteArray)) (left : Int) (bad : Bool) (h : DK w b ps pn v r st nw wl left bad)
    (k : Nat) {ki : Int} (hki : ki = k) (s : ByteArray) (keep : Int) (n lost : Nat) (hn : n = min keep.toNat s.size) (hks : k + s.size ≤ st.size) (hk0 : -9223372036854775808 ≤ keep) (hk1 : keep ≤ 9223372036854775807) (hl : lost ≤ 1099511627776)
    (h1 : VarV 3 w pk (.int .i64 keep)) (h2 : VarV 24 w pd (.pointer (some ⟨b, 0, none⟩))) (h3 : VarV 3 w pl (.int .i64 lost)) (e1 : pk ≠ pl) (e2 : ps ≠ pk) (e3 : ps ≠ pl) (e4 : ps ≠ pd) (kp : Int) (lp : Nat) (hkp : kp = keep - n) (hlp : lp = lost + (s.size - n)) :
    Calls Try.prog 33 #[.agg #[.int .i64 ki, .string s], .pointer (some ⟨pk, 0, none⟩), .pointer (some ⟨pd, 0, none⟩), .pointer (some ⟨pl, 0, none⟩)] w fun e w' => e = .returned (.tuple #[]) ∧ BB 5 w' ps (ovB st k (s.extract 0 n)) ∧ VarV 3 w' pk (.int .i64 kp) ∧ VarV 3 w' pl (.int .i64 lp) ∧ Fr [pk, pl, ps] w w' := by
  subst hki
  have hbig := h.big
  have hns : n ≤ s.size := by omega
  have hcut : (s.extract 0 n).size = n := by rw [ByteArray.size_extract]; omega
  have hlt := h.lt
  have hpk := h1.lt
  have hpl := h3.lt
  have hpd := h2.lt
  have hps : ps < w.heap.size := hlt ps (by simp)
  have hpb : b < w.heap.size := hlt b (by simp)
  have hf0 : Fr [] w (w.alloc (.cells #[.int .i64 k, .string s] 69)) := (Fr.refl _ _).alloc _
  have ck : (w.alloc (.cells #[.int .i64 k, .string s] 69)).cell? ⟨pk, 0, none⟩ = some (.int .i64 keep) := (h1.keep hf0 (by simp)).cell
  have cd : (w.alloc (.cells #[.int .i64 k, .string s] 69)).cell? ⟨pd, 0, none⟩ = some (.pointer (some ⟨b, 0, none⟩)) := (h2.keep hf0 (by simp)).cell
  have cb : (w.alloc (.cells #[.int .i64 k, .string s] 69)).cell? ⟨b, 0, none⟩ = some (.slice (some ⟨ps, 0, none⟩) st.size st.size) := by rw [Lib.cell_of_heap (h.keep hf0 (by simp)).blk]; rfl
  have HB := Lib.hid (h.hs.keep hf0 (by simp))
  have HE := Lib.hid (And.intro e2 (And.intro e3 e4))
  have hnew : (w.alloc (.cells #[.int .i64 k, .string s] 69)).heap[w.heap.size]? = some (.cells #[.int .i64 k, .string s] 69 (0, 0)) := heap_alloc_new _ _
  have HNEW := Lib.hid hnew
  clear e2 e3 e4 hlt h hnew
  have hfin : ∀ w1, BB 5 w1 ps (ovB st k (s.extract 0 n)) → Fr [ps] (w.alloc (.cells #[.int .i64 k, .string s] 69)) w1 →
      w1.cell? ⟨pk, 0, none⟩ = some (.int .i64 keep) ∧ w1.frozen? ⟨pk, 0, none⟩ = false ∧ w1.frozen? ⟨pl, 0, none⟩ = false ∧ (∀ u, (w1.setCell ⟨pk, 0, none⟩ u).frozen? ⟨pl, 0, none⟩ = false) ∧ (∀ u, (w1.setCell ⟨pk, 0, none⟩ u).cell? ⟨pl, 0, none⟩ = some (.int .i64 lost)) ∧ (∀ u, (w1.setCell ⟨pk, 0, none⟩ u).cell? ⟨w.heap.size, 1, none⟩ = some (.string s)) ∧
      (∀ u v, Hid (BB 5 ((w1.setCell ⟨pk, 0, none⟩ u).setCell ⟨pl, 0, none⟩ v) ps (ovB st k (s.extract 0 n)) ∧ VarV 3 ((w1.setCell ⟨pk, 0, none⟩ u).setCell ⟨pl, 0, none⟩ v) pk u ∧ VarV 3 ((w1.setCell ⟨pk, 0, none⟩ u).setCell ⟨pl, 0, none⟩ v) pl v ∧ Fr [pk, pl, ps] w ((w1.setCell ⟨pk, 0, none⟩ u).setCell ⟨pl, 0, none⟩ v))) := by
    intro w1 hB hf
    have hk := (h1.keep hf0 (by simp)).keep hf (by simp; exact fun e => HE.out.1 e.symm)
    have hl := (h3.keep hf0 (by simp)).keep hf (by simp; exact fun e => HE.out.2.1 e.symm)
    have hx := (hf.block w.heap.size (by simp) (by simp; omega)).trans HNEW.out
    have hpw : (w.alloc (.cells #[.int .i64 k, .string s] 69)).heap.size = w.heap.size + 1 := by simp
    refine ⟨hk.cell, hk.frozen 0, hl.frozen 0, fun u => (hl.beside (p := ⟨pk, 0, none⟩) e1 u).frozen 0, fun u => (hl.beside (p := ⟨pk, 0, none⟩) e1 u).cell, fun u => ?_, fun u v => ?_⟩
    · have hfu : Fr [pk] w1 (w1.setCell ⟨pk, 0, none⟩ u) := (Fr.refl _ _).setCell (.inl (by simp)) u
      have := (hfu.block w.heap.size (lt_of_heap hx) (by simp; omega)).trans hx
      rw [Lib.cell_of_heap this]
      rfl
    · have hfu : Fr [pk, pl] w1 ((w1.setCell ⟨pk, 0, none⟩ u).setCell ⟨pl, 0, none⟩ v) := ((Fr.refl _ _).setCell (.inl (by simp)) u).setCell (.inl (by simp)) v
      have hps' := HE.out
      exact ⟨hB.keep hfu (by simp; exact ⟨hps'.1, hps'.2.1⟩), (hk.set u).beside (fun e => e1 e.symm) v, (hl.beside (p := ⟨pk, 0, none⟩) e1 u).set v, ((hf0.mono (fun _ h _ => by cases h)).trans hf (fun k hk => .inl (by simp at hk; simp [hk]))).trans hfu (fun k hk => .inl (by simp at hk ⊢; rcases hk with h | h <;> simp [h]))⟩
  have HF := Lib.hid hfin
  clear hfin h1 h2 h3 hf0
  have g1 : k ≤ st.size := by omega
  by_cases hA : keep < 0
  · obtain rfl : n = 0 := by omega
    obtain rfl : kp = keep := by omega
    have hl2 : (lost : Int) + (s.size : Int) = (lp : Int) := by omega
    have hl3 : lp ≤ 1099511627776 + s.size := by omega
    have hx : s.extract 0 0 = ByteArray.empty := by
      apply ByteArray.ext
      apply Array.eq_empty_of_size_eq_zero
      exact hcut
    rw [hx] at HF ⊢
    clear hkp hlp hn hx
    go_enter Try.func33, Try.ntmps33
    go_wp2_with fail
    go_region_law (refine step_copyS rfl _ _ 51 9 rfl 5 Try.underlying51 sizeU8 _ _ _ ByteArray.empty rfl rfl 5 ps k st HB.out (Nat.zero_le _) (by show k + 0 ≤ _; omega) (by intro h; exact absurd h (by decide)) ?_; intro w1 hB1 hf1)
    all_goals
      obtain ⟨f1, f2, f3, f4, f5, f6, f7⟩ := HF.out w1 hB1 (((Fr.refl [ps] _).drew).trans hf1 (fun k hk => .inl hk))
      clear HF HB HE HNEW ck cd cb hB1 hf1
      (try generalize (if st.size = k then (some ⟨ps, 0, none⟩ : Option Addr) else some ⟨ps, k, none⟩) = dpx)
      go_wp2
      go_end0
      exact ⟨rfl, (f7 _ _).out⟩
  · obtain ⟨m, rfl⟩ : ∃ m : Nat, keep = (m : Int) := ⟨keep.toNat, by omega⟩
    by_cases hB : m ≤ s.size
    · obtain rfl : n = m := by omega
      obtain rfl : kp = 0 := by omega
      have hl2 : (lost : Int) + ((s.size : Int) - (n : Int)) = (lp : Int) := by omega
      have hl3 : lp ≤ 1099511627776 + s.size := by omega
      clear hkp hlp hn
      go_enter Try.func33, Try.ntmps33
      go_wp2_with fail
      go_region_law (refine step_copyS rfl _ _ 51 9 rfl 5 Try.underlying51 sizeU8 _ _ _ (s.extract 0 n) rfl rfl 5 ps k st HB.out (by omega) (by omega) (by intro h; rw [if_neg (by omega)]) ?_; intro w1 hB1 hf1)
      all_goals
        obtain ⟨f1, f2, f3, f4, f5, f6, f7⟩ := HF.out w1 hB1 (((Fr.refl [ps] _).drew).trans hf1 (fun k hk => .inl hk))
        clear HF HB HE HNEW ck cd cb hB1 hf1
        (try generalize (if st.size = k then (some ⟨ps, 0, none⟩ : Option Addr) else some ⟨ps, k, none⟩) = dpx)
        go_wp2
        go_end0
        exact ⟨rfl, (f7 _ _).out⟩
    · obtain rfl : n = s.size := by omega
      obtain rfl : kp = (m : Int) - (s.size : Int) := by omega
      obtain rfl : lp = lost := by omega
      have hx : s.extract 0 s.size = s := by simp
      rw [hx] at HF ⊢
      clear hkp hlp hn hx
      go_enter Try.func33, Try.ntmps33
      go_wp2_with fail
      go_region_law (refine step_copyS rfl _ _ 51 9 rfl 5 Try.underlying51 sizeU8 _ _ _ s rfl rfl 5 ps k st HB.out (by omega) (by omega) (by intro h; rw [if_neg (by omega)]) ?_; intro w1 hB1 hf1)
      all_goals
        obtain ⟨f1, f2, f3, f4, f5, f6, f7⟩ := HF.out w1 hB1 (((Fr.refl [ps] _).drew).trans hf1 (fun k hk => .inl hk))
        clear HF HB HE HNEW ck cd cb hB1 hf1
        (try generalize (if st.size = k then (some ⟨ps, 0, none⟩ : Option Addr) else some ⟨ps, k, none⟩) = dpx)
        go_wp2
        go_end0
        exact ⟨rfl, (f7 _ _).out⟩

end Go.Proofs.Ytembnjpflllpbaa
