/- 'clear' of a row that the call owns. -/
import Derived.Test.YtembnjpflllpbaaRows2
import Derived.Test.YtembnjpflllpbaaBytes
namespace Go.Proofs.Ytembnjpflllpbaa
open Go.RowKit
set_option linter.unusedVariables false
set_option linter.unusedSimpArgs false

section
variable {P : Program}
theorem run_clearRow (w : World) (t e ty : TypeId) (ht : P.underlying t = some (.slice e)) (z : Value) (sz bytes : Nat)
    (hinfo : (P.info? e).map (fun i => (i.zero, i.size, i.bytes)) = some (some z, sz, bytes)) (hzs : z.cells.size = sz) (hone : ∀ u ∈ z.cells, u.oneCell' = true) (hsz : 0 < sz)
    (v : Value) (r : List Nat) (n : Nat) (xs : List Value) (h : SRow e sz w v r n xs) :
    ∃ w' xs', (Builtin.clear_ #[t] ty #[v]).run P w = .ok (.tuple #[]) w' ∧ SRow e sz w' v r n xs' ∧ Fr r w w' := by
  obtain ⟨i, hi, hz, hs1, hb1⟩ := info_parts hinfo
  obtain ⟨h1, h3⟩ := h
  have h1' := h1
  rcases h1 with ⟨hl, ⟨rfl, rfl⟩ | ⟨g, cap, cur, rfl, hb, hg, hn, hm, hcs, htake⟩⟩
  · exact ⟨w, xs, by simp [Builtin.clear_, run_underlying ht], ⟨h1', h3⟩, Fr.refl _ _⟩
  · have hr : r = [g] := by rw [h3]; rfl
    rcases Nat.eq_zero_or_pos n with rfl | hpos
    · exact ⟨w, xs, by simp [Builtin.clear_, run_underlying ht], ⟨h1', h3⟩, Fr.refl _ _⟩
    · obtain ⟨m, rfl⟩ : ∃ m, n = m + 1 := ⟨n - 1, by omega⟩
      have hzl : (Builtin.zeroCells z.cells (m + 1)).toList.length = (m + 1) * sz := by
        simp [Builtin.zeroCells, hzs]
      have hz1 : ∀ u ∈ (Builtin.zeroCells z.cells (m + 1)).toList, u.oneCell' = true := by
        intro u hu
        simp [Builtin.zeroCells] at hu
        obtain ⟨j, hj, rfl⟩ := hu
        refine hone _ ?_
        rw [getElem!_pos _ _ (by rw [hzs]; exact Nat.mod_lt _ hsz)]
        exact Array.getElem_mem _
      have hle : (m + 1) * sz ≤ cap * sz := Nat.mul_le_mul_right _ hn
      have hst := run_storeCells_at P g 0 e (Builtin.zeroCells z.cells (m + 1)).toList 0 cur w hg (by rw [hzl, hcs]; omega) hz1
      obtain ⟨C, hC, hst⟩ : ∃ C : Array Value, C.size = cap * sz ∧ (storeCells ⟨g, 0, none⟩ (Builtin.zeroCells z.cells (m + 1)).toList 0).run P w = .ok () (w.setRow g C) := by
        refine ⟨_, ?_, hst⟩
        rw [List.size_toArray, List.length_append, List.length_append, List.length_take, List.length_drop, hzl, Array.length_toList, hcs]
        omega
      refine ⟨w.setRow g C, C.toList.take ((m + 1) * sz), ?_, ⟨⟨?_, .inr ⟨g, cap, C, rfl, hb, setRow_heap w g _ C e _ hg, hn, hm, hC, rfl⟩⟩, h3⟩, (Fr.refl _ _).setRow (.inl (by simp [hr])) _⟩
      · simp [Builtin.clear_, run_underlying ht, zeroValue, typeInfo, hi, hz, hst]
      · rw [List.length_take, Array.length_toList, hC]
        omega

variable {w : World} {ops : Array Oper} {rest : List Oper} {o : Oper} {a : Act} {Q : Exit → Act → World → Prop}
theorem wpList_clearRow (hgd : o.guard = none) (d : Operand) (t : TypeId)
    (ho : o.op = .call { callee := .builtin .clear, args := #[d], argTypes := #[t] }) (e : TypeId) (ht : P.underlying t = some (.slice e)) (z : Value) (sz bytes : Nat)
    (hinfo : (P.info? e).map (fun i => (i.zero, i.size, i.bytes)) = some (some z, sz, bytes)) (hzs : z.cells.size = sz) (hone : ∀ u ∈ z.cells, u.oneCell' = true) (hsz : 0 < sz)
    (v : Value) (r : List Nat) (n : Nat) (xs : List Value) (hd : a.eval d = v) (hr : SRow e sz w v r n xs)
    (h : ∀ w' xs', SRow e sz w' v r n xs' → Fr r w w' → wpList P ops Q rest (a.put o.dst (.tuple #[])) w') :
    wpList P ops Q (o :: rest) a w := by
  obtain ⟨w', xs', hrun, h1, h2⟩ := run_clearRow (P := P) w t e o.type ht z sz bytes hinfo hzs hone hsz v r n xs hr
  refine wpList_plain hgd fun K hK => ?_
  unfold Oper.wp
  simp [execOp, ho, resolve, invoke, builtin, hd, hrun, Result.andThen]
  exact hK _ _ (h w' xs' h1 h2)
end
/-- The row cut to nothing. -/
theorem SRow.none {e : TypeId} {sz : Nat} {w : World} {A : Option Addr} {n m cap : Nat} {r : List Nat} {xs : List Value} (h : SRow e sz w (.slice A m cap) r n xs) : SRow e sz w (.slice A 0 cap) r 0 [] := by
  obtain ⟨h1, h3⟩ := h
  rcases h1 with ⟨hl, ⟨h4, rfl⟩ | ⟨g, cap', cur, h4, hb, hg, hn, hm, hcs, htake⟩⟩
  · injection h4 with h4 h5 h6
    subst h4 h6
    exact ⟨World.ownsRow_nil _ _ _ _, by first | exact h3 | (rw [h3]; rfl) | rw [h3]⟩
  · injection h4 with h4 h5 h6
    subst h4 h6
    exact ⟨⟨by simp, .inr ⟨g, _, cur, rfl, hb, hg, Nat.zero_le _, hm, hcs, by simp⟩⟩, by first | exact h3 | (rw [h3]; rfl) | rw [h3]⟩

end Go.Proofs.Ytembnjpflllpbaa
