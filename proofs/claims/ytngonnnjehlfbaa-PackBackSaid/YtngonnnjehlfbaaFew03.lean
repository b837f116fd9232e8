/- The contracts of 'few' of the statements of layer 03, and of 'Same' of the document's layer 03: at most 8 texts, of 200 bytes each; two rows of texts are the same. -/
import Derived.Test.YtngonnnjehlfbaaShort03
import Derived.Test.YtngonnnjehlfbaaStrs
namespace Go.Proofs.Ytngonnnjehlfbaa
open Go.RowKit
set_option linter.unusedVariables false
set_option linter.unusedSimpArgs false

def fewB (l : List ByteArray) : List ByteArray := (l.take 8).map fun s => shortB s 200

set_option maxHeartbeats 1000000 in
set_option maxRecDepth 100000 in
theorem few03_calls (w : World) (A : Option Addr) (cap : Nat) (l : List ByteArray) (hr : RdV w A (l.map .string)) (hsz : ∀ x, x ∈ l → x.size ≤ maxLen) (hl : l.length ≤ maxLen) :
    Calls Try.prog 18 #[.slice A l.length cap] w fun e w' => ∃ v r, e = .returned v ∧ SRow 9 1 w' v r (fewB l).length ((fewB l).map .string) ∧ Fr [] w w' ∧ (∀ k, k ∈ r → w.heap.size ≤ k) := by
  unfold maxLen at hl
  go_enter Try.func18, Try.ntmps18
  go_wp2_with fail
  go_loopw [3, 4] (fun v3 v4 wr => ∃ (k : Nat) (r : List Nat), v4 = .int .i64 k ∧ k ≤ l.length ∧ k ≤ 8 ∧ Hid (SRow 9 1 wr v3 r k (((l.take k).map fun s => shortB s 200).map .string) ∧ Fr [] w wr ∧ (∀ k, k ∈ r → w.heap.size ≤ k))) (fun _ v4 _ => 8 - (intOf v4).toNat)
  case atStart => exact ⟨0, [], rfl, Nat.zero_le _, Nat.zero_le _, SRow.nil _ _ _, Fr.refl _ _, by simp⟩
  case round =>
    obtain ⟨k, r, rfl, hk, hk8, H⟩ := hrel
    by_cases hlk : k < l.length
    · by_cases h8 : k < 8
      · obtain ⟨ad, rfl, hc0⟩ := hr k (.string l[k]) (by simp [hlk])
        have hc : wr.cell? (ad.add k) = some (.string l[k]) := H.out.2.1.cell' hc0 (by simp)
        have hxs := hsz l[k] (List.getElem_mem hlk)
        unfold maxLen at hxs
        generalize hxx : l[k] = x at hc hxs
        have HXX := Lib.hid hxx
        clear hxx hc0
        go_wp2_with fail
        refine (short03_calls x 200 200 rfl _ hxs (by decide)).mono ?_
        rintro e w1 ⟨rfl, rfl⟩
        generalize hyy : shortB x 200 = y
        have HYY := Lib.hid hyy
        clear hyy
        obtain ⟨h3, h4, h5⟩ := H.out
        generalize hcs : ((l.take k).map fun s => shortB s 200).map Value.string = cs at h3
        have HCS := Lib.hid hcs
        clear hcs
        go_wp2_with (at_builtin; refine wpList_sapp rfl _ _ 38 rfl 9 Try.underlying38 (.string ⟨#[]⟩) 1 16 infoString rfl (by decide) u3 r k _ rfl (h3.keep ((Fr.refl [] _).alloc _) (by simp)) ⟨wr.heap.size, 0, none⟩ 1 1 [.string y] rfl rfl (by exact RdV.new _ #[.string y] 9 rfl rfl) (by simp [Value.oneCell']) (by simp only [maxLen]; omega) (by omega) ?_)
        intro v' w2 r' h6 hf2 hn2
        go_wp2
        have h7 : Fr r wr w2 := ((Fr.refl r wr).alloc _).trans hf2 (fun k hk => .inl hk)
        refine ⟨⟨k + 1, r', by go_num, by omega, by omega, ?_, h4.trans h7 (fun k hk => .inr (h5 k hk)), fun k hk => (hn2 k hk).elim (h5 k) (fun h => by have := h4.size; first | omega | (simp at h; omega))⟩, by simp only [intOf]; omega⟩
        rw [List.take_succ_eq_append_getElem hlk, List.map_append, List.map_append, HXX.out, HCS.out]
        simp only [List.map_cons, List.map_nil, HYY.out]
        exact h6
      · obtain rfl : k = 8 := by omega
        go_wp2
        go_ret
        obtain ⟨h3, h4, h5⟩ := H.out
        have hlen : (fewB l).length = 8 := by
          unfold fewB
          rw [List.length_map, List.length_take]
          omega
        rw [hlen]
        exact ⟨_, r, rfl, h3, h4, h5⟩
    · obtain rfl : k = l.length := by omega
      go_wp2
      go_ret
      obtain ⟨h3, h4, h5⟩ := H.out
      have e1 : l.take l.length = l.take 8 := by rw [List.take_length, List.take_of_length_le (by omega)]
      have hlen : (fewB l).length = l.length := by
        unfold fewB
        rw [List.length_map, List.length_take]
        omega
      rw [hlen]
      rw [e1] at h3
      exact ⟨_, r, rfl, h3, h4, h5⟩

/-- Two rows of texts are the same. -/
def sameB (x y : List ByteArray) : Bool := decide (x = y)

set_option maxHeartbeats 1000000 in
set_option maxRecDepth 100000 in
theorem Same03_calls (w : World) (A B : Option Addr) (c d : Nat) (x y : List ByteArray) (hx : RdV w A (x.map .string)) (hy : RdV w B (y.map .string)) (hxl : x.length ≤ maxLen) (hyl : y.length ≤ maxLen) :
    Calls Try.prog 24 #[.slice A x.length c, .slice B y.length d] w fun e w' => e = .returned (.bool (sameB x y)) ∧ Fr [] w w' := by
  unfold maxLen at hxl hyl
  by_cases hl : x.length = y.length
  · have hlb : ((x.length : Int) != (y.length : Int)) = false := by simp [hl]
    have hlb2 : (x.length != y.length) = false := by simp [hl]
    have HL := Lib.hid hl
    clear hl
    go_enter Try.func24, Try.ntmps24
    go_wp2_with fail
    go_loopw [5] (fun v wr => ∃ (k n : Nat), v = .int .i64 k ∧ k ≤ x.length ∧ wr = w.drewN n ∧ Hid (x.take k = y.take k)) (fun v _ => x.length - (intOf v).toNat)
    case atStart => exact ⟨0, 0, rfl, Nat.zero_le _, rfl, rfl⟩
    case round =>
      obtain ⟨k, n, rfl, hk, rfl, H⟩ := hrel
      by_cases hlk : k < x.length
      · have hly : k < y.length := by have := HL.out; omega
        obtain ⟨ax, rfl, hcx⟩ := hx k (.string x[k]) (by simp [hlk])
        obtain ⟨ay, rfl, hcy⟩ := hy k (.string y[k]) (by simp [hly])
        have tk : x[k] = y[k] → x.take (k + 1) = y.take (k + 1) := by
          intro e
          rw [List.take_succ_eq_append_getElem hlk, List.take_succ_eq_append_getElem hly, H.out, e]
        have tn : ¬ x[k] = y[k] → sameB x y = false := by
          intro e
          refine decide_eq_false (fun h => e ?_)
          subst h
          rfl
        generalize x[k] = p at hcx tk tn
        generalize y[k] = q at hcy tk tn
        by_cases hpq : p = q
        · have TK := Lib.hid (tk hpq)
          subst hpq
          clear tk tn
          go_wp2
          go_quiet (fail)
          go_wp2
          exact ⟨⟨k + 1, n + nq, by go_num, by omega, rfl, TK.out⟩, by simp only [intOf]; omega⟩
        · have TN := Lib.hid (tn hpq)
          have hpq1 : (p.toList == q.toList) = false := beq_eq_false_iff_ne.2 (fun h => hpq (toList_inj h))
          have hpq2 : (p.toList != q.toList) = true := by simp [bne, hpq1]
          clear hpq tk tn
          go_wp2
          go_quiet (fail)
          go_wp2
          go_ret
          exact ⟨by rw [TN.out]; rfl, ((Fr.refl _ _).drewN _).drewN _⟩
      · obtain rfl : k = x.length := by omega
        have e1 : sameB x y = true := by
          refine decide_eq_true ?_
          have := H.out
          rw [List.take_length, HL.out, List.take_length] at this
          exact this
        have E1 := Lib.hid e1
        clear e1
        go_wp2
        go_ret
        exact ⟨by rw [E1.out]; rfl, (Fr.refl _ _).drewN _⟩
  · have hlb : ((x.length : Int) != (y.length : Int)) = true := by simp; omega
    have hlb2 : (x.length != y.length) = true := by simp; omega
    have e1 : sameB x y = false := decide_eq_false (fun h => hl (by rw [h]))
    rw [e1]
    go_enter Try.func24, Try.ntmps24
    go_wp2
    go_ret
    exact ⟨rfl, Fr.refl _ _⟩

end Go.Proofs.Ytngonnnjehlfbaa
