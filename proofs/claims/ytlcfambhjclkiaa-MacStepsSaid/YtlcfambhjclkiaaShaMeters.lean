/- The law ShaMeters: for any texts the Go function returns true (its walk). -/
import Derived.Test.YtlcfambhjclkiaaShaMeter
import Derived.Test.YtlcfambhjclkiaaShort06
namespace Go.Proofs.Ytlcfambhjclkiaa
open Go.RowKit
set_option linter.unusedVariables false
set_option linter.unusedSimpArgs false

theorem MSumL (l : List ByteArray) {cs : Array Value} (hcs : cs = (l.map .string).toArray) {k : Nat} (hk : k = l.length) {T : TypeId} {fz : Nat × Nat} (w : World) (m : Option Nat) (n : Nat) (hn : n ≤ 1000000) (hm : MtR w m n) (b : Nat) (h : w.heap[b]? = some (.cells cs T fz)) (hbm : ∀ x, m = some x → b ≠ x) (hl : l.length ≤ 1000000) (hs : (catB l).size ≤ 1000000) :
    Calls Try.prog 20 #[mtP m, .slice (some ⟨b, 0, none⟩) k k] w fun e w' => e = .returned (.string (shaSum (catB l))) ∧ MtR w' m (mtN m n) ∧ Fr m.toList w w' := by
  subst hcs hk
  exact MSum_calls w m n hn hm _ _ l (by have := rdv_cells h; simpa using this) (by rintro ad ⟨⟩; rfl) (by rintro ad x ⟨⟩ hx; exact hbm x hx) (Nat.le_refl _) hl hs
theorem MSum1 (w : World) (m : Option Nat) (n : Nat) (hn : n ≤ 1000000) (hm : MtR w m n) (b : Nat) (s : ByteArray) {T : TypeId} {fz : Nat × Nat} (h : w.heap[b]? = some (.cells #[.string s] T fz)) (hbm : ∀ x, m = some x → b ≠ x) (hs : s.size ≤ 1000000) :
    Calls Try.prog 20 #[mtP m, .slice (some ⟨b, 0, none⟩) 1 1] w fun e w' => e = .returned (.string (shaSum s)) ∧ MtR w' m (mtN m n) ∧ Fr m.toList w w' := by
  have := MSumL [s] rfl rfl w m n hn hm b h hbm (by simp) (by rw [catB_one]; exact hs)
  rw [catB_one] at this
  exact this
theorem MSum2 (w : World) (m : Option Nat) (n : Nat) (hn : n ≤ 1000000) (hm : MtR w m n) (b : Nat) (s t : ByteArray) {T : TypeId} {fz : Nat × Nat} (h : w.heap[b]? = some (.cells #[.string s, .string t] T fz)) (hbm : ∀ x, m = some x → b ≠ x) (hs : s.size + t.size ≤ 1000000) :
    Calls Try.prog 20 #[mtP m, .slice (some ⟨b, 0, none⟩) 2 2] w fun e w' => e = .returned (.string (shaSum (s ++ t))) ∧ MtR w' m (mtN m n) ∧ Fr m.toList w w' := by
  have he : catB [s, t] = s ++ t := by rw [catB_cons, catB_one]
  have := MSumL [s, t] rfl rfl w m n hn hm b h hbm (by simp) (by rw [he, ByteArray.size_append]; exact hs)
  rw [he] at this
  exact this

theorem MSum1p (w : World) (x : Nat) (n : Nat) (hn : n ≤ 1000000) (hm : VarV 40 w x (.int .i64 (n : Int))) (b : Nat) (s : ByteArray) {T : TypeId} {fz : Nat × Nat} (h : w.heap[b]? = some (.cells #[.string s] T fz)) (hbm : b ≠ x) (hs : s.size ≤ 1000000) :
    Calls Try.prog 20 #[.pointer (some ⟨x, 0, none⟩), .slice (some ⟨b, 0, none⟩) 1 1] w fun e w' => e = .returned (.string (shaSum s)) ∧ VarV 40 w' x (.int .i64 ((n : Int) + 1)) ∧ Fr [x] w w' := by
  refine (MSum1 w (some x) n hn hm b s h (by rintro y ⟨⟩; exact hbm) hs).mono ?_
  rintro e w' ⟨he, h1, h2⟩
  refine ⟨he, ?_, h2⟩
  have h1' : VarV 40 w' x (.int .i64 ((n + 1 : Nat) : Int)) := h1
  simpa using h1'
theorem MSum2n (w : World) (b : Nat) (s t : ByteArray) {T : TypeId} {fz : Nat × Nat} (h : w.heap[b]? = some (.cells #[.string s, .string t] T fz)) (hs : s.size + t.size ≤ 1000000) :
    Calls Try.prog 20 #[.pointer none, .slice (some ⟨b, 0, none⟩) 2 2] w fun e w' => e = .returned (.string (shaSum (s ++ t))) ∧ Fr [] w w' := by
  refine (MSum2 w none 0 (by omega) rfl b s t h (by rintro y ⟨⟩) hs).mono ?_
  rintro e w' ⟨he, h1, h2⟩
  exact ⟨he, h2⟩
theorem MCountp (w : World) (x : Nat) (n : Nat) (hn : n ≤ 1000000) (hm : VarV 40 w x (.int .i64 (n : Int))) :
    Calls Try.prog 21 #[.pointer (some ⟨x, 0, none⟩)] w fun e w' => e = .returned (.int .i64 (n : Int)) ∧ w = w' := MCount_calls w (some x) n hn hm
theorem MCountn (w : World) : Calls Try.prog 21 #[.pointer none] w fun e w' => e = .returned (.int .i64 0) ∧ w = w' := MCount_calls w none 0 (by omega) rfl
/-- The meter, and all that lay before. -/
structure MtI (w0 w : World) (x n : Nat) : Prop where
  var : VarV 40 w x (.int .i64 (n : Int))
  fr : Fr [] w0 w
  new : w0.heap.size ≤ x
theorem MtI.then {w0 w w' : World} {x n : Nat} (h : MtI w0 w x n) (hf : Fr [] w w') : MtI w0 w' x n := ⟨h.var.keep hf (by simp), h.fr.then hf, h.new⟩
theorem MtI.step {w0 w w' : World} {x n : Nat} (h : MtI w0 w x n) (hv : VarV 40 w' x (.int .i64 ((n : Int) + 1))) (hf : Fr [x] w w') : MtI w0 w' x (n + 1) := ⟨by simpa using hv, h.fr.trans hf (fun i hi => .inr (by simp at hi; subst hi; exact h.new)), h.new⟩

set_option maxHeartbeats 4000000 in
set_option maxRecDepth 100000 in
theorem ShaMeters_walk (w : World) (A : Option Addr) (cap : Nat) (l : List ByteArray) (hA : RdV w A (l.map .string)) (hl : ∀ x, x ∈ l → x.size ≤ maxLen) (hn : l.length ≤ maxLen) :
    Calls Try.prog 8 #[.slice A l.length cap] w fun e w' => e = .returned (.bool true) ∧ Fr [] w w' := by
  unfold maxLen at hn
  have hA0 := Lib.hid hA
  have HLL := Lib.hid hl
  clear hA hl
  go_enter Try.func8, Try.ntmps8
  go_wp2_with fail
  (with_reducible refine (awake06_calls _).mono ?_)
  rintro e w1 ⟨rfl, hf1⟩
  have HF1 := Lib.hid hf1
  clear hf1
  go_wp2_with fail
  have h0 : MtI w (w1.alloc (.cells #[.int .i64 0] 40)) w1.heap.size 0 := ⟨VarV.new _ _ _ rfl, HF1.out.alloc _, HF1.out.size⟩
  generalize w1.alloc (.cells #[.int .i64 0] 40) = W0 at h0 ⊢
  generalize w1.heap.size = m at h0 ⊢
  have H0 := Lib.hid h0
  clear h0 HF1
  go_loopw [6, 7, 8] (fun v6 v7 v8 wr => ∃ i : Nat, v7 = .int .i64 i ∧ v6 = .int .i64 i ∧ i ≤ l.length ∧ i ≤ 20 ∧ Hid (MtI w wr m i)) (fun _ v7 _ _ => 20 - (intOf v7).toNat)
  case atStart => exact ⟨0, rfl, rfl, Nat.zero_le _, Nat.zero_le _, H0⟩
  case round =>
    clear H0
    obtain ⟨i, rfl, rfl, hi, hi20, H⟩ := hrel
    by_cases hlt : i < l.length ∧ i < 20
    · obtain ⟨hlt1, hlt2⟩ := hlt
      obtain ⟨ad, hA1, hc⟩ := (hA0.out.keep H.out.fr (by simp)) i (.string l[i]) (by rw [List.getElem?_map, List.getElem?_eq_getElem hlt1]; rfl)
      subst hA1
      have hsh := fun W => short06_calls l[i] 100 100 rfl W (by have := HLL.out l[i] (List.getElem_mem hlt1); unfold maxLen at this; omega) (by decide)
      have h100 := shortB_size l[i] 100
      generalize shortB l[i] 100 = x at hsh h100
      generalize l[i] = s at hc hsh
      have HS := Lib.hid hsh
      clear hsh
      go_wp2_with fail
      (with_reducible refine (HS.out _).mono ?_)
      rintro e w2 ⟨rfl, rfl⟩
      clear hc HS
      go_wp2_with fail
      have H1 := Lib.hid (H.out.then ((Fr.refl [] wr).alloc (.cells #[.string x] 9)))
      have HB1 := Lib.hid (heap_alloc_new wr (.cells #[.string x] 9))
      have HN1 : Hid (wr.heap.size ≠ m) := Lib.hid (by have := H.out.var.lt; omega)
      clear H
      generalize wr.alloc (.cells #[.string x] 9) = W1 at H1 HB1 ⊢
      generalize wr.heap.size = b1 at HB1 HN1 ⊢
      (with_reducible refine (MSum1p W1 m i (by omega) H1.out.var b1 x HB1.out HN1.out (by omega)).mono ?_)
      rintro e w3 ⟨rfl, hv3, hf3⟩
      have H3 := Lib.hid (H1.out.step hv3 hf3)
      have HD1 : Hid (∀ W b, W.heap[b]? = some (.cells #[.string x] 9 (0, 0)) → Calls Try.prog 16 #[.slice (some ⟨b, 0, none⟩) 1 1] W fun e w' => e = .returned (.string (shaSum x)) ∧ Fr [] W w') := Lib.hid fun W b h => Sum1 W b x h (by omega)
      clear hv3 hf3 H1 HB1 HN1
      generalize shaSum x = d at HD1 ⊢
      go_wp2_with fail
      have H4 := Lib.hid (H3.out.then ((Fr.refl [] w3).alloc (.cells #[.string x] 9)))
      (with_reducible refine (HD1.out _ _ (heap_alloc_new w3 (.cells #[.string x] 9))).mono ?_)
      rintro e w5 ⟨rfl, hf5⟩
      have H5 := Lib.hid (H4.out.then hf5)
      have HD2 : Hid ((∀ W b, W.heap[b]? = some (.cells #[.string x, .string ⟨#[120]⟩] 9 (0, 0)) → Calls Try.prog 16 #[.slice (some ⟨b, 0, none⟩) 2 2] W fun e w' => e = .returned (.string (shaSum (x ++ ⟨#[120]⟩))) ∧ Fr [] W w') ∧ (∀ W b, W.heap[b]? = some (.cells #[.string x, .string ⟨#[120]⟩] 9 (0, 0)) → Calls Try.prog 20 #[.pointer none, .slice (some ⟨b, 0, none⟩) 2 2] W fun e w' => e = .returned (.string (shaSum (x ++ ⟨#[120]⟩))) ∧ Fr [] W w')) := Lib.hid ⟨fun W b h => Sum2 W b x _ h (by show _ + 1 ≤ _; omega), fun W b h => MSum2n W b x _ h (by show _ + 1 ≤ _; omega)⟩
      clear hf5 H4 H3 HD1
      generalize shaSum (x ++ ⟨#[120]⟩) = d2 at HD2
      go_wp2_with fail
      have H6 := Lib.hid (H5.out.then ((Fr.refl [] w5).alloc (.cells #[.string x, .string ⟨#[120]⟩] 9)))
      (with_reducible refine (HD2.out.2 _ _ (heap_alloc_new w5 (.cells #[.string x, .string ⟨#[120]⟩] 9))).mono ?_)
      rintro e w7 ⟨rfl, hf7⟩
      have H7 := Lib.hid (H6.out.then hf7)
      clear hf7 H6 H5
      go_wp2_with fail
      have H8 := Lib.hid (H7.out.then ((Fr.refl [] w7).alloc (.cells #[.string x, .string ⟨#[120]⟩] 9)))
      (with_reducible refine (HD2.out.1 _ _ (heap_alloc_new w7 (.cells #[.string x, .string ⟨#[120]⟩] 9))).mono ?_)
      rintro e w9 ⟨rfl, hf9⟩
      have H9 := Lib.hid (H8.out.then hf9)
      clear hf9 H8 H7
      go_wp2_with fail
      (with_reducible refine (MCountp w9 m (i + 1) (by omega) H9.out.var).mono ?_)
      rintro e w9 ⟨rfl, rfl⟩
      go_wp2_with fail
      exact ⟨⟨i + 1, by go_num, by go_num, by omega, by omega, H9⟩, by simp only [intOf]; omega⟩
    · have hA1 := MCountp wr m i (by omega) H.out.var
      have HM := Lib.hid hA1
      clear hA1
      by_cases hlt1 : i < l.length
      · have hge : ¬ ((i : Int) < 20) := by omega
        clear hlt
        go_wp2_with fail
        (with_reducible refine HM.out.mono ?_)
        rintro e w9 ⟨rfl, rfl⟩
        go_wp2_with fail
        (with_reducible refine (MCountn _).mono ?_)
        rintro e w9 ⟨rfl, rfl⟩
        go_wp2_with fail
        go_ret
        exact ⟨rfl, H.out.fr⟩
      · have hge : ¬ ((i : Int) < (l.length : Int)) := by omega
        clear hlt
        go_wp2_with fail
        (with_reducible refine HM.out.mono ?_)
        rintro e w9 ⟨rfl, rfl⟩
        go_wp2_with fail
        (with_reducible refine (MCountn _).mono ?_)
        rintro e w9 ⟨rfl, rfl⟩
        go_wp2_with fail
        go_ret
        exact ⟨rfl, H.out.fr⟩
end Go.Proofs.Ytlcfambhjclkiaa
