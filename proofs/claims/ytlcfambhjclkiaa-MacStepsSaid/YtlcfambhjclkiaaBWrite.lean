/- The contract of strings.Builder's Write. -/
import Derived.Test.YtlcfambhjclkiaaBld
namespace Go.Proofs.Ytlcfambhjclkiaa
open Go.RowKit
set_option linter.unusedVariables false
set_option linter.unusedSimpArgs false

set_option maxHeartbeats 2000000 in
set_option maxRecDepth 100000 in
theorem Wr_calls (T : TypeId) (hT : BTy T) (b : Nat) (r : List Nat) (s : ByteArray) (w : World) (x : ByteArray) (ad : Addr) (c n : Nat) {ni : Nat} (hn : ni = n) (hx : RdV w (some ad) (Lib.strCells x)) (hb : ad.block ∉ b :: r) (hnx : n = x.size) (h0 : 0 < x.size) (h : Bld T 5 w b r s) (hlen : s.size + x.size ≤ 140737488355328) :
    Calls Try.prog 35 #[.pointer (some ⟨b, 0, none⟩), .slice (some ad) ni c] w fun e w' => e = .returned (.tuple #[.int .i64 n, .nilIface]) ∧ ∃ r', Bld T 5 w' b r' (s ++ x) ∧ Fr (b :: r) w w' ∧ (∀ k, k ∈ r' → k ∈ r ∨ w.heap.size ≤ k) := by
  subst hn
  have HB := Lib.hid hb
  have HNX := Lib.hid hnx
  clear hb hnx
  go_enter Try.func35, Try.ntmps35
  go_wp2_with fail
  refine (copyCheck_calls T hT b r s _ h).mono ?_
  rintro e w1 ⟨rfl, ⟨v, hu⟩, hf1⟩
  have hu' := hu
  obtain ⟨hb, hr, hn⟩ := hu
  have c1 : w1.cell? ⟨b, 1, none⟩ = some v := by rw [Lib.cell_of_heap hb]; rfl
  have HX := Lib.hid (hx.keep hf1 (fun ad' h => by injection h with h; subst h; intro hm; exact HB.out (by simp at hm; simp [hm])))
  go_wp2_with (at_builtin; refine wpList_bapp_cells rfl _ _ 27 rfl 5 Try.underlying27 infoByte v r s rfl hr ad c ni x rfl HNX.out h0 ?c1 hlen ?_)
  case c1 =>
    intro j y hj
    obtain ⟨ad', ha, hc⟩ := HX.out j y hj
    injection ha with ha
    subst ha
    exact hc
  intro v' w2 r' h1 hf2 hn2
  have hb2 := (hf2.block b (lt_of_heap hb) hn).trans hb
  have d1 : w2.cell? ⟨b, 1, none⟩ = some v := by rw [Lib.cell_of_heap hb2]; rfl
  have f1 : w2.frozen? ⟨b, 1, none⟩ = false := Lib.frozen_of_heap hb2 1
  obtain ⟨ao, n', cap, rfl⟩ : ∃ ao n' cap, v' = .slice ao n' cap := by
    rcases h1 with ⟨hv, _⟩ | ⟨g, cap, cur, fz, hv, _⟩
    · exact ⟨_, _, _, hv⟩
    · exact ⟨_, _, _, hv⟩
  go_wp2
  go_ret2
  obtain ⟨h3, h4⟩ := hu'.put hT.ne h1 hf2
  exact ⟨rfl, r', h3, (hf1.mono (fun k hk _ => by simp at hk; simp [hk])).trans h4 (fun k hk => .inl hk), fun k hk => (hn2 k hk).elim .inl (fun h => .inr (Nat.le_trans hf1.size h))⟩

end Go.Proofs.Ytlcfambhjclkiaa
