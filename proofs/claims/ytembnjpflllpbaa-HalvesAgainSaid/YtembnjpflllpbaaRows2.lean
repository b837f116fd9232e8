/- The words of this claim's own, more: rows of values that a call has made itself ('SRow'), and the law of 'append' on them; texts cut short. -/
import Derived.Test.YtembnjpflllpbaaBase
namespace Go.Proofs.Ytembnjpflllpbaa
set_option linter.unusedSimpArgs false
set_option linter.unusedVariables false
open Go.RowKit

/-- v is a slice of n elements (type e, sz cells each) whose cells xs the call owns; r: the block in which they lie, if there is one. -/
def SRow (e : TypeId) (sz : Nat) (w : World) (v : Value) (r : List Nat) (n : Nat) (xs : List Value) : Prop := w.ownsRow 0 e sz v n xs ∧ r = v.ownBlock.toList

theorem SRow.nil (e : TypeId) (sz : Nat) (w : World) : SRow e sz w (.slice none 0 0) [] 0 [] := ⟨World.ownsRow_nil _ _ _ _, rfl⟩
theorem SRow.lt {e : TypeId} {sz : Nat} {w : World} {v : Value} {r : List Nat} {n : Nat} {xs : List Value} (h : SRow e sz w v r n xs) : ∀ k, k ∈ r → k < w.heap.size := by
  intro k hk
  rw [h.2] at hk
  exact (h.1.lt k (by simpa using hk)).2
theorem SRow.keep {e : TypeId} {sz : Nat} {w w' : World} {v : Value} {r S : List Nat} {n : Nat} {xs : List Value} (h : SRow e sz w v r n xs) (hf : Fr S w w') (hd : ∀ k, k ∈ r → k ∉ S) : SRow e sz w' v r n xs := by
  obtain ⟨⟨h1, h2⟩, h3⟩ := h
  refine ⟨⟨h1, ?_⟩, h3⟩
  rcases h2 with h2 | ⟨g, cap, cur, rfl, hb, hg, rest⟩
  · exact .inl h2
  · exact .inr ⟨g, cap, cur, rfl, hb, (hf.block g (lt_of_heap hg) (hd g (by simp [h3, Value.ownBlock]))).trans hg, rest⟩
theorem SRow.reads {e : TypeId} {sz : Nat} {w : World} {v : Value} {r : List Nat} {n : Nat} {xs : List Value} (h : SRow e sz w v r n xs) : ∃ A cap, v = .slice A n cap ∧ n ≤ cap ∧ cap ≤ maxLen ∧ RdV w A xs ∧ (∀ ad, A = some ad → ad.block ∈ r) := by
  obtain ⟨h1, h3⟩ := h
  rcases h1.2 with ⟨rfl, rfl⟩ | ⟨g, cap, cur, rfl, hb, hg, hn, hm, rest⟩
  · have hx : xs = [] := List.eq_nil_of_length_eq_zero (by have := h1.1; omega)
    subst hx
    exact ⟨none, 0, rfl, Nat.le_refl _, Nat.zero_le _, RdV.nil _ _, fun ad h => by cases h⟩
  · refine ⟨_, cap, rfl, hn, hm, fun j x hx => ⟨_, rfl, h1.cells (g := g) rfl j x hx⟩, fun ad ha => ?_⟩
    injection ha with ha
    subst ha
    simp [h3, Value.ownBlock]
theorem SRow.length {e : TypeId} {sz : Nat} {w : World} {v : Value} {r : List Nat} {n : Nat} {xs : List Value} (h : SRow e sz w v r n xs) : xs.length = n * sz := h.1.1

section
variable {P : Program} {w : World} {ops : Array Oper} {rest : List Oper} {o : Oper} {a : Act} {Q : Exit → Act → World → Prop}
/-- append(v, ..) of m elements whose cells are read at an address, for the walk. -/
theorem wpList_sapp (hgd : o.guard = none) (sl x : Operand) (t : TypeId)
    (ho : o.op = .call { callee := .builtin .append, args := #[sl, x], argTypes := #[t, t] }) (e : TypeId) (ht : P.underlying t = some (.slice e)) (z : Value) (sz bytes : Nat)
    (hinfo : (P.info? e).map (fun i => (i.zero, i.size, i.bytes)) = some (some z, sz, bytes)) (hzs : z.cells.size = sz) (hsz : 0 < sz)
    (v : Value) (r : List Nat) (n : Nat) (xs : List Value) (hs : a.eval sl = v) (h : SRow e sz w v r n xs) (ad : Addr) (m c : Nat) (news : List Value) (hx : a.eval x = .slice (some ad) m c) (hl : news.length = m * sz)
    (hnews : RdV w (some ad) news) (h1 : ∀ u ∈ news, u.oneCell' = true) (h63 : n + m ≤ maxLen) (hbytes : (n + m) * bytes ≤ 140737488355328)
    (hK : ∀ v' w' r', SRow e sz w' v' r' (n + m) (xs ++ news) → Fr r w w' → (∀ k, k ∈ r' → k ∈ r ∨ w.heap.size ≤ k) → wpList P ops Q rest (a.put o.dst v') w') : wpList P ops Q (o :: rest) a w := by
  obtain ⟨i, hi, hz, hs1, hb1⟩ := info_parts hinfo
  obtain ⟨h2, h3⟩ := h
  refine wpList_append_own_at w hgd sl x t ho 0 e i z sz bytes ht hi hz hs1 hb1 hzs hsz v n xs hs h2 ad m c news hx hl (fun j u hu => by
    obtain ⟨ad', ha, hc⟩ := hnews j u hu
    injection ha with ha
    rw [ha]
    exact hc) h1 h63 hbytes (Nat.zero_le _) ?_
  intro v' w' h4 h5 _ h6
  refine hK v' w' v'.ownBlock.toList ⟨h4, rfl⟩ ⟨h5.os, h5.tape, h5.output, h5.size, fun k hk hn => h5.block k hk (fun e => hn (by rw [h3, ← e]; simp))⟩ ?_
  intro k hk
  rcases h6 with h6 | h6
  · exact .inl (by rw [h3, ← h6]; exact hk)
  · rw [h6] at hk
    exact .inr (by simp at hk; omega)
end

/-- string(b), b a slice of bytes whose cells are read. -/
theorem run_toString {P : Program} {w : World} {src dst e : TypeId} (hs : P.underlying src = some (.slice e)) (he : P.underlying e = some (.int .u8)) (hd : P.underlying dst = some .string) {A : Option Addr} {n c : Nat} {t : ByteArray} (hn : n = t.size) (h : RdV w A (Lib.strCells t)) (hsp : ∀ ad, A = some ad → ad.spot = none) :
    (convert src dst (.slice A n c)).run P w = .ok (.string t) w := by
  subst hn
  have hl : t.data.toList.length = t.size := by rw [Array.length_toList]; rfl
  cases A with
  | none =>
    have h0 : t.data.toList = [] := by
      cases hc : t.data.toList with
      | nil => rfl
      | cons x l =>
        obtain ⟨ad, ha, _⟩ := h 0 (.int .u8 x.toNat) (by simp [Lib.strCells, hc])
        cases ha
    have ht : t = ByteArray.empty := ByteArray.ext (Array.toList_inj.1 h0)
    rw [run_convert_bytes_nil w src e hs he _ c dst hd, ht]
  | some ad =>
    obtain ⟨b, off, sp⟩ := ad
    obtain rfl : sp = none := hsp _ rfl
    have h1 := run_convert_bytes_arg (P := P) w src e hs he b off t.size c (t.data.toList.map fun x => (x.toNat : Int)) (by rw [List.length_map, hl]) (fun i hi => by
      have hi' : i < t.data.toList.length := by omega
      obtain ⟨ad', ha, hc⟩ := h i (.int .u8 ((t.data.toList[i]'hi').toNat : Int)) (by simp [Lib.strCells, List.getElem?_eq_getElem hi'])
      injection ha with ha
      subst ha
      rw [Addr.add_lit] at hc
      rw [hc]
      simp [List.getD_eq_getElem?_getD, List.getElem?_eq_getElem hi']) dst hd
    rw [h1]
    congr 2
    apply ByteArray.ext
    apply Array.ext'
    rw [strOfNums_data, List.map_map]
    have : (fun n : Int => UInt8.ofNat n.toNat) ∘ (fun x : UInt8 => (x.toNat : Int)) = id := by
      funext x
      simp
    rw [this, List.map_id]

/-- A text of at most n bytes. -/
def shortB (s : ByteArray) (n : Nat) : ByteArray := if s.size > n then s.extract 0 n else s
theorem shortB_size (s : ByteArray) (n : Nat) : (shortB s n).size ≤ n := by
  unfold shortB
  split
  · simp only [ByteArray.size_extract]; omega
  · omega
theorem shortB_le (s : ByteArray) (n : Nat) : (shortB s n).size ≤ s.size := by
  unfold shortB
  split
  · simp only [ByteArray.size_extract]; omega
  · omega

end Go.Proofs.Ytembnjpflllpbaa
