/- The law of 'append' of whole slices on a row that a call has made itself: the source may be nil, or empty. -/
import Derived.Test.YtndenbcdhbnamaaRows2
namespace Go.Proofs.Ytndenbcdhbnamaa
set_option linter.unusedSimpArgs false
set_option linter.unusedVariables false
open Go.RowKit

/-- An empty row that is not nil. -/
theorem SRow.empty (e : TypeId) (sz : Nat) (w : World) {n : Nat} (hn : n = w.heap.size) : SRow e sz (w.alloc (.cells #[] e)) (.slice (some ⟨n, 0, none⟩) 0 0) [n] 0 [] := by
  subst hn
  exact ⟨⟨by simp, .inr ⟨_, 0, #[], rfl, Nat.zero_le _, heap_alloc_new w _, Nat.le_refl _, Nat.zero_le _, by simp, by simp⟩⟩, rfl⟩

section
variable {P : Program} {w : World} {ops : Array Oper} {rest : List Oper} {o : Oper} {a : Act} {Q : Exit → Act → World → Prop}
theorem run_sapp_none {e : TypeId} {sz : Nat} {v : Value} {r : List Nat} {n : Nat} {xs : List Value} (h : SRow e sz w v r n xs) (t ty : TypeId) (i : TypeInfo) (ht : P.underlying t = some (.slice e)) (hi : P.info? e = some i) (c : Nat) :
    (Builtin.append_ #[t, t] ty #[v, .slice none 0 c]).run P w = .ok v w := by
  rcases h.1.2 with ⟨rfl, rfl⟩ | ⟨g, cap, cur, rfl, _, _, hnc, _⟩
  · simp [Builtin.append_, run_underlying ht, sizeOf, typeInfo, hi, Builtin.lenOf, Builtin.firstCells]
  · simp [Builtin.append_, run_underlying ht, sizeOf, typeInfo, hi, Builtin.lenOf, Builtin.firstCells, hnc, storeCells]
theorem wpList_sapp_any (hgd : o.guard = none) (sl x : Operand) (t : TypeId)
    (ho : o.op = .call { callee := .builtin .append, args := #[sl, x], argTypes := #[t, t] }) (e : TypeId) (ht : P.underlying t = some (.slice e)) (z : Value) (sz bytes : Nat)
    (hinfo : (P.info? e).map (fun i => (i.zero, i.size, i.bytes)) = some (some z, sz, bytes)) (hzs : z.cells.size = sz) (hsz : 0 < sz)
    (v : Value) (r : List Nat) (n : Nat) (xs : List Value) (hs : a.eval sl = v) (h : SRow e sz w v r n xs) (A : Option Addr) (m c : Nat) (news : List Value) (hx : a.eval x = .slice A m c) (hl : news.length = m * sz)
    (hnews : RdV w A news) (h1 : ∀ u ∈ news, u.oneCell' = true) (h63 : n + m ≤ maxLen) (hbytes : (n + m) * bytes ≤ 140737488355328)
    (hK : ∀ v' w' r', SRow e sz w' v' r' (n + m) (xs ++ news) → Fr r w w' → (∀ k, k ∈ r' → k ∈ r ∨ w.heap.size ≤ k) → wpList P ops Q rest (a.put o.dst v') w') : wpList P ops Q (o :: rest) a w := by
  cases A with
  | some ad => exact wpList_sapp hgd sl x t ho e ht z sz bytes hinfo hzs hsz v r n xs hs h ad m c news hx hl hnews h1 h63 hbytes hK
  | none =>
    have hn : news = [] := by
      cases news with
      | nil => rfl
      | cons y l =>
        obtain ⟨ad, ha, _⟩ := hnews 0 y rfl
        cases ha
    subst hn
    have hm : m = 0 := by
      rcases Nat.eq_zero_or_pos m with h0 | h0
      · exact h0
      · have := Nat.mul_pos h0 hsz
        simp at hl
        omega
    subst hm
    obtain ⟨i, hi, hz, hs1, hb1⟩ := info_parts hinfo
    refine wpList_plain hgd fun K hK' => ?_
    unfold Oper.wp execOp
    simp only [ho, resolve, invoke, builtin, Sem.run_bind, Sem.run_pure, Result.andThen_ok, List.map_toArray, List.map_cons, List.map_nil, hs, hx, run_sapp_none h t o.type i ht hi c]
    exact hK' _ _ (hK v w r (by simpa using h) (Fr.refl _ _) (fun k hk => .inl hk))
end

end Go.Proofs.Ytndenbcdhbnamaa
