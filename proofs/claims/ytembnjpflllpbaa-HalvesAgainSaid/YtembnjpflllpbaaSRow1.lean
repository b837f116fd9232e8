/- Rows that a call makes itself: one value in a new block; what is read of a row that is not empty; 'append' at a step of a region that draws. -/
import Derived.Test.YtembnjpflllpbaaRows2
import Derived.Deep.RegionHeld3
import Derived.Deep.AppendLies
namespace Go.Proofs.Ytembnjpflllpbaa
open Go.RowKit
set_option linter.unusedVariables false
set_option linter.unusedSimpArgs false

section
variable {P : Program} {w : World} {ops : Array Oper} {rest : List Oper} {o : Oper} {a : Act} {Q : Exit → Act → World → Prop}
/-- append(v, ..) of m elements whose cells are read at an address, at a step of a region that draws its order. -/
theorem step_sapp {K : Act → World → Prop} {E : Prop} (hgd : o.guard = none) (sl x : Operand) (t : TypeId)
    (ho : o.op = .call { callee := .builtin .append, args := #[sl, x], argTypes := #[t, t] }) (e : TypeId) (ht : P.underlying t = some (.slice e)) (z : Value) (sz bytes : Nat)
    (hinfo : (P.info? e).map (fun i => (i.zero, i.size, i.bytes)) = some (some z, sz, bytes)) (hzs : z.cells.size = sz) (hsz : 0 < sz)
    (v : Value) (r : List Nat) (n : Nat) (xs : List Value) (hs : a.eval sl = v) (h : SRow e sz w v r n xs) (ad : Addr) (m c : Nat) (news : List Value) (hx : a.eval x = .slice (some ad) m c) (hl : news.length = m * sz)
    (hnews : RdV w (some ad) news) (h1 : ∀ u ∈ news, u.oneCell' = true) (hm : 0 < m) (h63 : n + m ≤ maxLen) (hbytes : (n + m) * bytes ≤ 140737488355328)
    (hK : ∀ v' w' r', SRow e sz w' v' r' (n + m) (xs ++ news) → Fr r w w' → (∀ k, k ∈ r' → k ∈ r ∨ w.heap.size ≤ k) → K (a.put o.dst v') w') :
    if Region.wanted o (yielded ops a.tmps) = true then Oper.wp P o a w K Q else E := by
  obtain ⟨i, hi, hz, hs1, hb1⟩ := info_parts hinfo
  obtain ⟨h2, h3⟩ := h
  refine step_append_lies w hgd sl x t ho 0 e i z sz bytes ht hi hz hs1 hb1 hzs hsz v n xs hs h2 ad m c news hx hl (fun j u hu => by
    obtain ⟨ad', ha, hc⟩ := hnews j u hu
    injection ha with ha
    rw [ha]
    exact hc) h1 hm h63 hbytes (Nat.zero_le _) _ rfl ?_
  intro g cap w' h4 h5 h6 _
  refine hK _ w' [g] ⟨h4, rfl⟩ ⟨h5.os, h5.tape, h5.output, h5.size, fun k hk hn => h5.block k hk (fun e => hn (by rw [h3, ← e]; simp))⟩ ?_
  intro k hk
  obtain rfl : k = g := by simpa using hk
  rcases h6 with h6 | h6
  · exact .inl (by rw [h3, h6]; simp)
  · exact .inr (by omega)
end

theorem SRow.lit1 (e : TypeId) {W : World} {b : Nat} {x : Value} (h : W.heap[b]? = some (.cells #[x] e (0, 0))) : SRow e 1 W (.slice (some ⟨b, 0, none⟩) 1 1) [b] 1 [x] :=
  ⟨⟨rfl, .inr ⟨b, 1, _, rfl, Nat.zero_le _, h, Nat.le_refl _, by decide, rfl, rfl⟩⟩, rfl⟩
theorem SRow.reads0 {e : TypeId} {w : World} {v : Value} {r : List Nat} {n : Nat} {xs : List Value} (h : SRow e 1 w v r n xs) (hn : 0 < n) : ∃ g cap, v = .slice (some ⟨g, 0, none⟩) n cap ∧ n ≤ cap ∧ RdV w (some ⟨g, 0, none⟩) xs ∧ r = [g] := by
  obtain ⟨h1, h3⟩ := h
  have hc := fun g (hg : v.ownBlock = some g) => h1.cells (g := g) hg
  rcases h1.2 with ⟨_, h0⟩ | ⟨g, cap, cur, rfl, hb, hg, hn', hm, rest⟩
  · omega
  · exact ⟨g, cap, rfl, hn', fun j x hx => ⟨_, rfl, hc g rfl j x hx⟩, by rw [h3]; rfl⟩
end Go.Proofs.Ytembnjpflllpbaa
