/- The contract of 'few' of the statements of layer 04: at most 6 texts, of 80 bytes each, none empty. -/
import Derived.Test.YtjlhbmgbiobpaaaDoorShort04
import Derived.Test.YtjlhbmgbiobpaaaDoorStrs
import Derived.Test.YtjlhbmgbiobpaaaDoorFramePure2
namespace Go.Proofs.YtjlhbmgbiobpaaaDoor
open Go.RowKit
set_option linter.unusedVariables false
set_option linter.unusedSimpArgs false

set_option maxHeartbeats 1000000 in
set_option maxRecDepth 100000 in
theorem few04_calls (w : World) (A : Option Addr) (cap : Nat) (l : List ByteArray) (hr : RdV w A (l.map .string)) (hsz : ∀ x, x ∈ l → x.size ≤ maxLen) (hl : l.length ≤ maxLen) :
    Calls Tryd.prog 6 #[.slice A l.length cap] w fun e w' => ∃ v r, e = .returned v ∧ SRow 9 1 w' v r (few04B l).length ((few04B l).map .string) ∧ Fr [] w w' ∧ (∀ k, k ∈ r → w.heap.size ≤ k) := by
  unfold maxLen at hl
  go_enter Tryd.func6, Tryd.ntmps6
  go_wp2_with fail
  go_loopw [3, 4] (fun v3 v4 wr => ∃ (k : Nat) (r : List Nat), v4 = .int .i64 k ∧ k ≤ l.length ∧ k ≤ 6 ∧ Hid (SRow 9 1 wr v3 r k (((l.take k).map fun s => dashB (shortB s 80)).map .string) ∧ Fr [] w wr ∧ (∀ k, k ∈ r → w.heap.size ≤ k))) (fun _ v4 _ => 6 - (intOf v4).toNat)
  case atStart => exact ⟨0, [], rfl, Nat.zero_le _, Nat.zero_le _, SRow.nil _ _ _, Fr.refl _ _, by simp⟩
  case round =>
    obtain ⟨k, r, rfl, hk, hk6, H⟩ := hrel
    by_cases hlk : k < l.length
    · by_cases h6' : k < 6
      · obtain ⟨ad, rfl, hc0⟩ := hr k (.string l[k]) (by simp [hlk])
        have hc : wr.cell? (ad.add k) = some (.string l[k]) := H.out.2.1.cell' hc0 (by simp)
        have hxs := hsz l[k] (List.getElem_mem hlk)
        unfold maxLen at hxs
        generalize hxx : l[k] = x at hc hxs
        have HXX := Lib.hid hxx
        clear hxx hc0
        go_wp2_with fail
        refine (short04_calls x 80 80 rfl _ hxs (by decide)).mono ?_
        rintro e w1 ⟨rfl, rfl⟩
        obtain ⟨h3, h4, h5⟩ := H.out
        generalize hcs : ((l.take k).map fun s => dashB (shortB s 80)).map Value.string = cs at h3
        have HCS := Lib.hid hcs
        clear hcs
        generalize hyy : shortB x 80 = y
        have HYY := Lib.hid hyy
        clear hyy
        by_cases hy0 : y.size = 0
        · have hye : y = ⟨#[]⟩ := ByteArray.ext (Array.eq_empty_of_size_eq_zero hy0)
          subst hye
          have hdy : Hid (dashB (shortB x 80) = ⟨#[45]⟩) := Lib.hid (by rw [HYY.out]; rfl)
          clear hy0
          go_wp2_with (at_builtin; refine wpList_sapp rfl _ _ 23 rfl 9 Tryd.underlying23 (.string ⟨#[]⟩) 1 16 infoString rfl (by decide) u3 r k _ rfl (h3.keep ((Fr.refl [] _).alloc _) (by simp)) ⟨wr.heap.size, 0, none⟩ 1 1 [.string ⟨#[45]⟩] rfl rfl (by exact RdV.new _ #[.string ⟨#[45]⟩] 9 rfl rfl) (by simp [Value.oneCell']) (by simp only [maxLen]; omega) (by omega) ?_)
          intro v' w2 r' h6 hf2 hn2
          go_wp2
          have h7 : Fr r wr w2 := ((Fr.refl r wr).alloc _).trans hf2 (fun k hk => .inl hk)
          refine ⟨⟨k + 1, r', by go_num, by omega, by omega, ?_, h4.trans h7 (fun k hk => .inr (h5 k hk)), fun k hk => (hn2 k hk).elim (h5 k) (fun h => by have := h4.size; first | omega | (simp at h; omega))⟩, by simp only [intOf]; omega⟩
          rw [List.take_succ_eq_append_getElem hlk, List.map_append, List.map_append, HXX.out, HCS.out]
          simp only [List.map_cons, List.map_nil, hdy.out]
          exact h6
        · have hdy : Hid (dashB (shortB x 80) = y) := Lib.hid (by rw [HYY.out]; exact if_neg hy0)
          have hne : y.toList.isEmpty = false := by
            rw [Lib.toList_data]
            cases hq : y.data.toList with
            | nil => exact absurd (by rw [← Array.length_toList, hq]; rfl : y.data.size = 0) hy0
            | cons a l => rfl
          have hne2 : ¬ y.toList = [] := by
            intro e
            rw [e] at hne
            cases hne
          clear hy0
          go_wp2_with (at_builtin; refine wpList_sapp rfl _ _ 23 rfl 9 Tryd.underlying23 (.string ⟨#[]⟩) 1 16 infoString rfl (by decide) u3 r k _ rfl (h3.keep ((Fr.refl [] _).alloc _) (by simp)) ⟨wr.heap.size, 0, none⟩ 1 1 [.string y] rfl rfl (by exact RdV.new _ #[.string y] 9 rfl rfl) (by simp [Value.oneCell']) (by simp only [maxLen]; omega) (by omega) ?_)
          intro v' w2 r' h6 hf2 hn2
          go_wp2
          have h7 : Fr r wr w2 := ((Fr.refl r wr).alloc _).trans hf2 (fun k hk => .inl hk)
          refine ⟨⟨k + 1, r', by go_num, by omega, by omega, ?_, h4.trans h7 (fun k hk => .inr (h5 k hk)), fun k hk => (hn2 k hk).elim (h5 k) (fun h => by have := h4.size; first | omega | (simp at h; omega))⟩, by simp only [intOf]; omega⟩
          rw [List.take_succ_eq_append_getElem hlk, List.map_append, List.map_append, HXX.out, HCS.out]
          simp only [List.map_cons, List.map_nil, hdy.out]
          exact h6
      · obtain rfl : k = 6 := by omega
        go_wp2
        go_ret
        obtain ⟨h3, h4, h5⟩ := H.out
        have hlen : (few04B l).length = 6 := by
          unfold few04B
          rw [List.length_map, List.length_take]
          omega
        rw [hlen]
        exact ⟨_, r, rfl, h3, h4, h5⟩
    · obtain rfl : k = l.length := by omega
      go_wp2
      go_ret
      obtain ⟨h3, h4, h5⟩ := H.out
      have e1 : l.take l.length = l.take 6 := by rw [List.take_length, List.take_of_length_le (by omega)]
      have hlen : (few04B l).length = l.length := by
        unfold few04B
        rw [List.length_map, List.length_take]
        omega
      rw [hlen]
      rw [e1] at h3
      exact ⟨_, r, rfl, h3, h4, h5⟩


end Go.Proofs.YtjlhbmgbiobpaaaDoor
