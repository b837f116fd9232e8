/- The document's disk in memory; the contract of its may. -/
import Derived.Test.YtndenbcdhbnamaaRDiskP
import Derived.Test.YtndenbcdhbnamaaDisk5
namespace Go.Proofs.Ytndenbcdhbnamaa
open Go.RowKit
set_option linter.unusedVariables false
set_option linter.unusedSimpArgs false

/-- The document's disk in block b: the row of the bytes that stay (blocks rs), the writes that wait (row v, blocks r), the steps left, broken. -/
structure RK (w : World) (b : Nat) (vs : Value) (rs : List Nat) (v : Value) (r : List Nat) (st : ByteArray) (wl : List (Nat × ByteArray)) (left : Int) (bad : Bool) : Prop where
  blk : w.heap[b]? = some (.cells #[vs, v, .int .i64 left, .bool bad] 51 (0, 0))
  stay : SRow 5 1 w vs rs st.size (Lib.strCells st)
  wait : SRow 64 2 w v r wl.length (wcells wl)
  big : st.size ≤ 131072
  most : wl.length ≤ 1000000
  fit : ∀ x, x ∈ wl → x.1 + x.2.size ≤ st.size
  left0 : 0 ≤ left
  left1 : left ≤ 9223372036854775807
  nr : b ∉ rs ∧ b ∉ r ∧ ∀ k, k ∈ rs → k ∉ r
theorem RK.keep {w w' : World} {b : Nat} {vs v : Value} {rs r S : List Nat} {st : ByteArray} {wl : List (Nat × ByteArray)} {left : Int} {bad : Bool} (h : RK w b vs rs v r st wl left bad) (hf : Fr S w w') (hd : ∀ k, k ∈ b :: (rs ++ r) → k ∉ S) : RK w' b vs rs v r st wl left bad :=
  ⟨(hf.block b (lt_of_heap h.blk) (hd b (by simp))).trans h.blk, h.stay.keep hf (fun k hk => hd k (by simp [hk])), h.wait.keep hf (fun k hk => hd k (by simp [hk])), h.big, h.most, h.fit, h.left0, h.left1, h.nr⟩
set_option maxRecDepth 100000 in
theorem rmay_calls (w : World) (b : Nat) (vs : Value) (rs : List Nat) (v : Value) (r : List Nat) (st : ByteArray) (wl : List (Nat × ByteArray)) (left : Int) (bad : Bool) (h : RK w b vs rs v r st wl left bad) (at' n : Int) (ha : Bd .i64 at') (hn : Bd .i64 n) :
    Calls Try.prog 31 #[.pointer (some ⟨b, 0, none⟩), .int .i64 at', .int .i64 n] w fun e w' => e = .returned (.bool (decide (0 ≤ at' ∧ 0 ≤ n ∧ at' ≤ st.size - n))) ∧ w' = w := by
  obtain ⟨A, cap, rfl, hnc, hcm, hrd, hblk⟩ := h.stay.reads
  have c0 : w.cell? ⟨b, 0, none⟩ = some (.slice A st.size cap) := by rw [Lib.cell_of_heap h.blk]; rfl
  have ⟨ha0, ha1⟩ := ha.i64
  have ⟨hn0, hn1⟩ := hn.i64
  have hb := h.big
  clear h ha hn hrd hblk
  by_cases h1 : 0 ≤ at'
  · by_cases h2 : 0 ≤ n
    · by_cases h3 : at' ≤ st.size - n
      · have hd : decide (0 ≤ at' ∧ 0 ≤ n ∧ at' ≤ st.size - n) = true := decide_eq_true ⟨h1, h2, h3⟩
        rw [hd]
        clear hd
        go_enter Try.func31, Try.ntmps31
        go_wp2
        go_ret
        exact ⟨rfl, rfl⟩
      · have hd : decide (0 ≤ at' ∧ 0 ≤ n ∧ at' ≤ st.size - n) = false := decide_eq_false fun h => h3 h.2.2
        rw [hd]
        clear hd
        go_enter Try.func31, Try.ntmps31
        go_wp2
        go_ret
        exact ⟨rfl, rfl⟩
    · have hd : decide (0 ≤ at' ∧ 0 ≤ n ∧ at' ≤ st.size - n) = false := decide_eq_false fun h => h2 h.2.1
      rw [hd]
      clear hd
      go_enter Try.func31, Try.ntmps31
      go_wp2
      go_ret
      exact ⟨rfl, rfl⟩
  · have hd : decide (0 ≤ at' ∧ 0 ≤ n ∧ at' ≤ st.size - n) = false := decide_eq_false fun h => h1 h.1
    rw [hd]
    clear hd
    go_enter Try.func31, Try.ntmps31
    go_wp2
    go_ret
    exact ⟨rfl, rfl⟩
end Go.Proofs.Ytndenbcdhbnamaa
