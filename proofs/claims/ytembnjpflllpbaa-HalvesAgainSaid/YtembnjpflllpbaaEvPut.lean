/- The contract of event.put: five numbers and three texts are written behind what a writer has. -/
import Derived.Test.YtembnjpflllpbaaPackW2
import Derived.Deep.RegionHeld3
namespace Go.Proofs.Ytembnjpflllpbaa
open Go.RowKit
set_option linter.unusedVariables false
set_option linter.unusedSimpArgs false

theorem u64_wrap_nat {k : Nat} (h : k < 9223372036854775808) : IntKind.u64.wrap (k : Int) = (k : Int) := by rw [IntKind.wrap_u64]; omega

/-- Behind the numbers: n is how many blocks there were ahead of the call. -/
def NumDone (w : World) (b : Nat) (r : List Nat) (s2 : ByteArray) (n : Nat) (w1 : World) : Prop := ∃ r1, Bld 80 5 w1 b r1 s2 ∧ Fr (b :: r) w w1 ∧ (∀ x, x ∈ r1 → x ∈ r ∨ n ≤ x) ∧ n ≤ w1.heap.size ∧ w.heap.size ≤ n
/-- The cells of the blocks made since w, and ahead of n blocks, are the same. -/
def KeptC (w W w' : World) : Prop := ∀ q j v, w.heap.size ≤ q → q < W.heap.size → W.cell? ⟨q, j, none⟩ = some v → w'.cell? ⟨q, j, none⟩ = some v
theorem RdV.keptC {w W w' : World} (h : KeptC w W w') {q : Nat} {vs : List Value} (h0 : w.heap.size ≤ q) (h1 : q < W.heap.size) (hr : RdV W (some ⟨q, 0, none⟩) vs) : RdV w' (some ⟨q, 0, none⟩) vs := by
  intro j v hj
  obtain ⟨ad, ha, hc⟩ := hr j v hj
  injection ha with ha
  subst ha
  have e : (⟨q, 0, none⟩ : Addr).add j = ⟨q, j, none⟩ := by unfold Addr.add; split <;> simp_all
  rw [e] at hc
  exact ⟨_, rfl, by rw [e]; exact h q j v h0 h1 hc⟩
theorem put_num (w W : World) (b : Nat) (r : List Nat) (s : ByteArray) (l : List Int) (h : Bld 80 5 w b r s) (q : Nat) (hW : Fr [] w W) (hq0 : w.heap.size ≤ q) (hq : q < W.heap.size) (hr : RdV W (some ⟨q, 0, none⟩) (l.map (.int .u64)))
    (hw : ∀ x, x ∈ l → 0 ≤ x ∧ x < 18446744073709551616) (hlen : s.size + 10 * l.length + 10 ≤ 140737488355328) {m : Nat} (hm : m = l.length) :
    Calls Try.prog 36 #[.pointer (some ⟨b, 0, none⟩), .slice (some ⟨q, 0, none⟩) m m] W fun e w' => e = .returned (.pointer (some ⟨b, 0, none⟩)) ∧ KeptC w W w' ∧ NumDone w b r (s ++ numsB l) W.heap.size w' := by
  subst hm
  have hblt := h.lt
  refine (Writer_Num_calls _ bty_writer b r s W _ _ l hr hw ?_ ?_ (h.keep hW (by simp)) hlen).mono ?_
  · rintro ad ⟨⟩ hm
    have := hblt _ hm
    simp at this
    omega
  · rintro ad ⟨⟩
    exact hq
  · rintro e w' ⟨rfl, r1, h1, hf1, hn1⟩
    refine ⟨rfl, fun q j v h0 h2 hc => ?_, r1, h1, (hW.mono (fun _ h _ => by cases h)).trans hf1 (fun k hk => .inl hk), hn1, hf1.size, hW.size⟩
    exact hf1.cell' hc (fun hm => by have := hblt _ hm; simp at this; omega)
theorem put_text (w w1 W : World) (b : Nat) (r : List Nat) (s2 : ByteArray) (l : List ByteArray) (n : Nat) (hb : b < w.heap.size) (hrl : ∀ k, k ∈ r → k < w.heap.size) (h : NumDone w b r s2 n w1) (q : Nat) (hW : Fr [] w1 W) (hq0 : w.heap.size ≤ q) (hq : q < n ∨ w1.heap.size ≤ q) (hr : RdV W (some ⟨q, 0, none⟩) (l.map .string)) (hlen : s2.size + sizes l + 20 ≤ 140737488355328) {m : Nat} (hm : m = l.length) :
    Calls Try.prog 37 #[.pointer (some ⟨b, 0, none⟩), .slice (some ⟨q, 0, none⟩) m m] W fun e w' => e = .returned (.pointer (some ⟨b, 0, none⟩)) ∧ (∀ q j v, w.heap.size ≤ q → q < n → W.cell? ⟨q, j, none⟩ = some v → w'.cell? ⟨q, j, none⟩ = some v) ∧ Hid (∃ r', Bld 80 5 w' b r' (s2 ++ txtsB l) ∧ Fr (b :: r) w w' ∧ (∀ k, k ∈ r' → k ∈ r ∨ w.heap.size ≤ k)) := by
  subst hm
  obtain ⟨r1, h1, hf1, hn1, hs1, hs2⟩ := h
  have hlt := h1.lt
  refine (Writer_Text_calls _ bty_writer b r1 s2 W _ _ l hr ?_ (h1.keep hW (by simp)) hlen).mono ?_
  · rintro ad ⟨⟩ hm
    have h2 := hlt _ hm
    simp only at h2
    rcases List.mem_cons.1 hm with h3 | h3
    · simp only at h3
      omega
    · simp only at h3
      rcases hn1 _ h3 with h4 | h4
      · have := hrl _ h4
        omega
      · omega
  · rintro e w' ⟨rfl, r2, h2, hf2, hn2⟩
    refine ⟨rfl, fun q j v h0 h3 hc => hf2.cell' hc (fun hm => ?_), r2, h2, (hf1.then hW).trans hf2 (fun k hk => ?_), fun k hk => ?_⟩
    · rcases List.mem_cons.1 hm with h4 | h4
      · simp only at h4
        omega
      · simp only at h4
        rcases hn1 _ h4 with h5 | h5
        · have := hrl _ h5
          omega
        · omega
    · rcases List.mem_cons.1 hk with rfl | hk
      · exact .inl (by first | (simp; done) | (simp; omega))
      · rcases hn1 k hk with h | h
        · exact .inl (by simp [h])
        · exact .inr (by omega)
    · rcases hn2 k hk with h | h
      · rcases hn1 k h with h | h
        · exact .inl h
        · exact .inr (by omega)
      · have := hW.size
        exact .inr (by omega)
theorem RdV.drew {w : World} {A : Option Addr} {vs : List Value} (h : RdV w A vs) : RdV w.drew A vs := h
theorem s8_keep {W w' : World} {B : Nat} {v0 v1 v2 v3 v4 v5 v6 v7 : Value} (h : ∀ j v, W.cell? ⟨B, j, none⟩ = some v → w'.cell? ⟨B, j, none⟩ = some v)
    (hs : W.cell? ⟨B, 0, none⟩ = some v0 ∧ W.cell? ⟨B, 1, none⟩ = some v1 ∧ W.cell? ⟨B, 2, none⟩ = some v2 ∧ W.cell? ⟨B, 3, none⟩ = some v3 ∧ W.cell? ⟨B, 4, none⟩ = some v4 ∧ W.cell? ⟨B, 5, none⟩ = some v5 ∧ W.cell? ⟨B, 6, none⟩ = some v6 ∧ W.cell? ⟨B, 7, none⟩ = some v7) :
    w'.cell? ⟨B, 0, none⟩ = some v0 ∧ w'.cell? ⟨B, 1, none⟩ = some v1 ∧ w'.cell? ⟨B, 2, none⟩ = some v2 ∧ w'.cell? ⟨B, 3, none⟩ = some v3 ∧ w'.cell? ⟨B, 4, none⟩ = some v4 ∧ w'.cell? ⟨B, 5, none⟩ = some v5 ∧ w'.cell? ⟨B, 6, none⟩ = some v6 ∧ w'.cell? ⟨B, 7, none⟩ = some v7 :=
  ⟨h _ _ hs.1, h _ _ hs.2.1, h _ _ hs.2.2.1, h _ _ hs.2.2.2.1, h _ _ hs.2.2.2.2.1, h _ _ hs.2.2.2.2.2.1, h _ _ hs.2.2.2.2.2.2.1, h _ _ hs.2.2.2.2.2.2.2⟩

end Go.Proofs.Ytembnjpflllpbaa
