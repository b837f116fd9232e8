/- The disk: where it lies; contracts of New, may, step, Read, Write, drop, Crash. -/
import Derived.Test.YtembnjpflllpbaaProg
import Derived.Test.YtembnjpflllpbaaBytes
import Derived.Test.YtembnjpflllpbaaRows2
import Derived.Test.YtembnjpflllpbaaVar
import Derived.Test.YtembnjpflllpbaaApp
namespace Go.Proofs.Ytembnjpflllpbaa
open Go.RowKit
set_option linter.unusedVariables false
set_option linter.unusedSimpArgs false

/-- The cells of writes that wait. -/
def wcells (l : List (Nat × ByteArray)) : List Value := l.flatMap fun x => [.int .i64 x.1, .string x.2]
theorem wcells_length (l : List (Nat × ByteArray)) : (wcells l).length = l.length * 2 := by
  induction l with
  | nil => rfl
  | cons x l ih => simp only [wcells, List.flatMap_cons, List.length_append, List.length_cons, List.length_nil] at ih ⊢; omega
theorem wcells_app (l m : List (Nat × ByteArray)) : wcells (l ++ m) = wcells l ++ wcells m := by simp [wcells]

/-- A disk in block b: the bytes that stay (block ps), those that are (pn), the writes that wait (row v, blocks r), the steps left, broken. -/
structure DK (w : World) (b ps pn : Nat) (v : Value) (r : List Nat) (st nw : ByteArray) (wl : List (Nat × ByteArray)) (left : Int) (bad : Bool) : Prop where
  blk : w.heap[b]? = some (.cells #[.slice (some ⟨ps, 0, none⟩) st.size st.size, .slice (some ⟨pn, 0, none⟩) st.size st.size, v, .int .i64 left, .bool bad] 54 (0, 0))
  wait : SRow 69 2 w v r wl.length (wcells wl)
  hs : BB 5 w ps st
  hn : BB 5 w pn nw
  size : nw.size = st.size
  big : st.size ≤ 131072
  most : wl.length ≤ 1000000
  fit : ∀ x, x ∈ wl → x.1 + x.2.size ≤ st.size
  left0 : 0 ≤ left
  left1 : left ≤ 9223372036854775807
  ne1 : b ≠ ps
  ne2 : b ≠ pn
  ne3 : ps ≠ pn
  nr : b ∉ r ∧ ps ∉ r ∧ pn ∉ r
theorem DK.lt {w : World} {b ps pn : Nat} {v : Value} {r : List Nat} {st nw : ByteArray} {wl : List (Nat × ByteArray)} {left : Int} {bad : Bool} (h : DK w b ps pn v r st nw wl left bad) : ∀ k, k ∈ b :: ps :: pn :: r → k < w.heap.size := by
  intro k hk
  simp only [List.mem_cons] at hk
  rcases hk with rfl | rfl | rfl | hk
  · exact lt_of_heap h.blk
  · exact h.hs.lt
  · exact h.hn.lt
  · exact h.wait.lt k hk
theorem DK.keep {w w' : World} {b ps pn : Nat} {v : Value} {r S : List Nat} {st nw : ByteArray} {wl : List (Nat × ByteArray)} {left : Int} {bad : Bool} (h : DK w b ps pn v r st nw wl left bad) (hf : Fr S w w') (hd : ∀ k, k ∈ b :: ps :: pn :: r → k ∉ S) : DK w' b ps pn v r st nw wl left bad :=
  ⟨(hf.block b (lt_of_heap h.blk) (hd b (by simp))).trans h.blk, h.wait.keep hf (fun k hk => hd k (by simp [hk])), h.hs.keep hf (hd ps (by simp)), h.hn.keep hf (hd pn (by simp)), h.size, h.big, h.most, h.fit, h.left0, h.left1, h.ne1, h.ne2, h.ne3, h.nr⟩

set_option maxHeartbeats 400000 in
set_option maxRecDepth 100000 in
theorem may_calls (w : World) (b ps pn : Nat) (v : Value) (r : List Nat) (st nw : ByteArray) (wl : List (Nat × ByteArray)) (left : Int) (bad : Bool) (h : DK w b ps pn v r st nw wl left bad) (at' n : Int) (ha : Bd .i64 at') (hn : Bd .i64 n) :
    Calls Try.prog 57 #[.pointer (some ⟨b, 0, none⟩), .int .i64 at', .int .i64 n] w fun e w' => e = .returned (.bool (decide (0 ≤ at' ∧ 0 ≤ n ∧ at' ≤ st.size - n))) ∧ w = w' := by
  have c0 : w.cell? ⟨b, 0, none⟩ = some (.slice (some ⟨ps, 0, none⟩) st.size st.size) := by rw [Lib.cell_of_heap h.blk]; rfl
  have ⟨ha0, ha1⟩ := ha.i64
  have ⟨hn0, hn1⟩ := hn.i64
  have hb := h.big
  clear h ha hn
  by_cases h1 : 0 ≤ at'
  · by_cases h2 : 0 ≤ n
    · by_cases h3 : at' ≤ st.size - n
      · have hd : decide (0 ≤ at' ∧ 0 ≤ n ∧ at' ≤ st.size - n) = true := decide_eq_true ⟨h1, h2, h3⟩
        rw [hd]
        clear hd
        go_enter Try.func57, Try.ntmps57
        go_wp2
        go_ret
        exact ⟨rfl, rfl⟩
      · have hd : decide (0 ≤ at' ∧ 0 ≤ n ∧ at' ≤ st.size - n) = false := decide_eq_false fun h => h3 h.2.2
        rw [hd]
        clear hd
        go_enter Try.func57, Try.ntmps57
        go_wp2
        go_ret
        exact ⟨rfl, rfl⟩
    · have hd : decide (0 ≤ at' ∧ 0 ≤ n ∧ at' ≤ st.size - n) = false := decide_eq_false fun h => h2 h.2.1
      rw [hd]
      clear hd
      go_enter Try.func57, Try.ntmps57
      go_wp2
      go_ret
      exact ⟨rfl, rfl⟩
  · have hd : decide (0 ≤ at' ∧ 0 ≤ n ∧ at' ≤ st.size - n) = false := decide_eq_false fun h => h1 h.1
    rw [hd]
    clear hd
    go_enter Try.func57, Try.ntmps57
    go_wp2
    go_ret
    exact ⟨rfl, rfl⟩

/-- The steps left, and broken, behind a step. -/
def stepL (left : Int) : Int := if left - 1 < 0 then 0 else left - 1
def stepB (left : Int) (bad : Bool) : Bool := bad || (left == 1)

set_option maxHeartbeats 400000 in
set_option maxRecDepth 100000 in
theorem step_calls (w : World) (b ps pn : Nat) (v : Value) (r : List Nat) (st nw : ByteArray) (wl : List (Nat × ByteArray)) (left : Int) (bad : Bool) (h : DK w b ps pn v r st nw wl left bad) :
    Calls Try.prog 58 #[.pointer (some ⟨b, 0, none⟩)] w fun e w' => e = .returned (.int .i64 (if stepB left bad then 18 else 0)) ∧ DK w' b ps pn v r st nw wl (stepL left) (stepB left bad) ∧ Fr [b] w w' := by
  have c3 : w.cell? ⟨b, 3, none⟩ = some (.int .i64 left) := by rw [Lib.cell_of_heap h.blk]; rfl
  have c4 : w.cell? ⟨b, 4, none⟩ = some (.bool bad) := by rw [Lib.cell_of_heap h.blk]; rfl
  have z3 := Lib.frozen_of_heap h.blk 3
  have z4 := Lib.frozen_of_heap h.blk 4
  have hl0 := h.left0
  have hl1 := h.left1
  have hset : ∀ (W : World) (l : Int) (d : Bool), W.heap[b]? = some (.cells #[.slice (some ⟨ps, 0, none⟩) st.size st.size, .slice (some ⟨pn, 0, none⟩) st.size st.size, v, .int .i64 l, .bool d] 54 (0, 0)) → Fr [b] w W → 0 ≤ l → l ≤ 9223372036854775807 → DK W b ps pn v r st nw wl l d ∧ Fr [b] w W := by
    intro W l d hb hf h0 h1
    exact ⟨⟨hb, h.wait.keep hf (fun k hk => by simp; rintro rfl; exact h.nr.1 hk), h.hs.keep hf (by simp; exact fun e => h.ne1 e.symm), h.hn.keep hf (by simp; exact fun e => h.ne2 e.symm), h.size, h.big, h.most, h.fit, h0, h1, h.ne1, h.ne2, h.ne3, h.nr⟩, hf⟩
  have hb := h.blk
  have HS := Lib.hid hset
  have HB := Lib.hid hb
  clear hset hb h
  by_cases h1 : left = 1
  · subst h1
    have e1 : stepB 1 bad = true := by cases bad <;> rfl
    rw [e1]
    clear e1
    go_enter Try.func58, Try.ntmps58
    go_wp2
    go_ret
    refine ⟨rfl, HS.out _ _ _ ?_ ?_ (by decide) (by decide)⟩
    · simp [World.setCell, Array.getElem?_modify, HB.out, stepL]
    · exact (((Fr.refl _ _).setCell (.inl (by simp)) _).setCell (.inl (by simp)) _).setCell (.inl (by simp)) _
  · have e1 : stepB left bad = bad := by
      have : (left == 1) = false := beq_eq_false_iff_ne.2 h1
      rw [stepB, this, Bool.or_false]
    rw [e1]
    clear e1
    by_cases h2 : left = 0
    · subst h2
      cases bad
      all_goals
        go_enter Try.func58, Try.ntmps58
        go_wp2
        go_ret
        refine ⟨rfl, HS.out _ _ _ ?_ ?_ (by decide) (by decide)⟩
        · simp [World.setCell, Array.getElem?_modify, HB.out, stepL]
        · exact ((Fr.refl _ _).setCell (.inl (by simp)) _).setCell (.inl (by simp)) _
    · have b0 : (left - 1 == 0) = false := beq_eq_false_iff_ne.2 (by omega)
      have hm : (if left - 1 < 0 then 0 else left - 1) = left - 1 := if_neg (by omega)
      have hm' : (if 0 < left - 1 then left - 1 else 0) = left - 1 := if_pos (by omega)
      have hl' : stepL left = left - 1 := hm
      rw [hl']
      have h3 : 0 ≤ left - 1 := by omega
      have h4 : left - 1 ≤ 9223372036854775807 := by omega
      clear hl'
      cases bad
      all_goals
        go_enter Try.func58, Try.ntmps58
        go_wp2
        go_ret
        refine ⟨rfl, HS.out _ _ _ ?_ ?_ h3 h4⟩
        · simp [World.setCell, Array.getElem?_modify, HB.out]
        · exact ((Fr.refl _ _).setCell (.inl (by simp)) _).setCell (.inl (by simp)) _

end Go.Proofs.Ytembnjpflllpbaa
