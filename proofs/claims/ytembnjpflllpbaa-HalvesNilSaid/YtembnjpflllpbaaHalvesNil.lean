/- The law HalvesNil: for any text the Go function returns true (its walk). -/
import Derived.Test.YtembnjpflllpbaaHAwake2
namespace Go.Proofs.Ytembnjpflllpbaa
open Go.RowKit
set_option linter.unusedVariables false
set_option linter.unusedSimpArgs false
attribute [local go_sem] mildAt mildUpon

theorem append_nil5 (w : World) (s : ByteArray) : Calls Try.prog 12 #[.pointer none, .string s] w fun e w' => e = .returned (.int .i64 13) ∧ Fr [] w w' := by
  have HW := Lib.hid (works_nil w)
  go_enter Try.func12, Try.ntmps12
  go_wp2_with fail
  (with_reducible refine HW.out.mono ?_)
  rintro e w1 ⟨rfl, rfl⟩
  go_wp2_with fail
  go_ret
  exact ⟨rfl, Fr.refl _ _⟩
theorem snap_nil5 (w : World) (s : ByteArray) : Calls Try.prog 17 #[.pointer none, .string s] w fun e w' => e = .returned (.int .i64 13) ∧ Fr [] w w' := by
  have HW := Lib.hid (works_nil w)
  go_enter Try.func17, Try.ntmps17
  go_wp2_with fail
  (with_reducible refine HW.out.mono ?_)
  rintro e w1 ⟨rfl, rfl⟩
  go_wp2_with fail
  go_ret
  exact ⟨rfl, Fr.refl _ _⟩
theorem same_fr {f : FuncId} {args : Array Value} {w : World} {v : Value} (h : Calls Try.prog f args w fun e w' => e = .returned v ∧ w = w') : Calls Try.prog f args w fun e w' => e = .returned v ∧ Fr [] w w' := h.mono fun e w' ⟨he, hw⟩ => ⟨he, hw ▸ Fr.refl _ _⟩
/-- Open of a disk of bytes 0. -/
theorem open_zero {w : World} {d m : Nat} {S : List Nat} (hd : DH w d ⟨zerosB m, [], 0, false⟩ S) :
    Calls Try.prog 15 #[.pointer (some ⟨d, 0, none⟩)] w fun e w' => e = .returned (.tuple #[.pointer none, noFound, .int .i64 12]) ∧ Fr S w w' := by
  refine (HOpen_calls w d _ S hd rfl (by simp)).mono ?_
  rintro e w' (⟨-, rfl, S', -, h2, -⟩ | ⟨h1, -⟩ | ⟨h1, -⟩)
  · exact ⟨rfl, h2⟩
  · rw [newest_zero] at h1
    exact absurd rfl h1
  · rw [newest_zero] at h1
    exact absurd rfl h1
set_option maxHeartbeats 4000000 in
set_option maxRecDepth 100000 in
theorem HalvesNil_walk (w : World) (s0 : ByteArray) (hs0 : s0.size ≤ 140737488351232) :
    Calls Try.prog 5 #[.string s0] w fun e w' => e = .returned (.bool true) ∧ Fr [] w w' := by
  have hsh := fun W => short05_calls s0 30 30 rfl W (by omega) (by decide)
  generalize shortB s0 30 = s at *
  have hnew := fun W => HNew W 90 (mi := 90) rfl (by omega) (by omega)
  have HSH := Lib.hid hsh
  have HNW := Lib.hid hnew
  clear hsh hnew hs0
  go_enter Try.func5, Try.ntmps5
  go_wp2_with fail
  (with_reducible refine (HSH.out _).mono ?_)
  rintro e w1 ⟨rfl, rfl⟩
  go_wp2_with fail
  (with_reducible refine (Format_nil _ s).mono ?_)
  rintro e w1 ⟨rfl, rfl⟩
  go_wp2_with fail
  (with_reducible refine (Open_nil _).mono ?_)
  rintro e w1 ⟨rfl, hf1⟩
  simp only [noFound]
  go_wp2_with fail
  have hb2 := heap_alloc_new w1 (.cells #[.int .u64 0, .string ⟨#[]⟩, .slice none 0 0] 37)
  have hF2 := hf1.alloc (.cells #[.int .u64 0, .string ⟨#[]⟩, .slice none 0 0] 37)
  generalize w1.alloc (.cells #[.int .u64 0, .string ⟨#[]⟩, .slice none 0 0] 37) = w2 at *
  generalize w1.heap.size = B at *
  (with_reducible refine (HNW.out w2).mono ?_)
  rintro e w3 ⟨d, rfl, S, hd, hf3, hn3⟩
  have HB3 := Lib.hid (blk_keep hb2 hf3 (by simp))
  have HF3 := Lib.hid (hF2.then hf3)
  have HD := Lib.hid hd
  have HN := Lib.hid (show ∀ k, k ∈ S → w2.heap.size ≤ k from fun k hk => (hn3 k hk).elim (fun h => by cases h) id)
  have HBL := Lib.hid (show B < w2.heap.size ∧ w.heap.size ≤ w2.heap.size from ⟨lt_of_heap hb2, hF2.size⟩)
  clear hf1 hb2 hF2 hd hf3 hn3 HNW
  go_wp2_with fail
  (with_reducible refine (open_zero HD.out).mono ?_)
  rintro e w4 ⟨rfl, hf4⟩
  have HB4 := Lib.hid (blk_keep HB3.out hf4 (fun hm => by have := HN.out _ hm; have := HBL.out; omega))
  have HF4 := Lib.hid (HF3.out.trans hf4 (fun k hk => .inr (by have := HN.out _ hk; have := HBL.out; omega)))
  clear hf4 HB3 HF3 HD HN
  simp only [noFound]
  go_wp2_with fail
  have HC5 := Lib.hid (heap_alloc_new w4 (.cells #[.int .u64 0, .string ⟨#[]⟩, .slice none 0 0] 37))
  have HB5 := Lib.hid (alloc_keep (o := .cells #[.int .u64 0, .string ⟨#[]⟩, .slice none 0 0] 37) HB4.out)
  have HF5 := Lib.hid (HF4.out.alloc (.cells #[.int .u64 0, .string ⟨#[]⟩, .slice none 0 0] 37))
  generalize w4.alloc (.cells #[.int .u64 0, .string ⟨#[]⟩, .slice none 0 0] 37) = w5 at *
  generalize w4.heap.size = C at *
  clear HB4 HF4 HBL
  (with_reducible refine (awake05_calls _).mono ?_)
  rintro e w6 ⟨rfl, hf6⟩
  obtain ⟨b0, b1, b2⟩ := fd_cells (blk_keep HB5.out hf6 (by simp))
  obtain ⟨c0, c1, c2⟩ := fd_cells (blk_keep HC5.out hf6 (by simp))
  have HF6 := Lib.hid (HF5.out.then hf6)
  clear hf6 HF5 HB5 HC5
  go_wp2_with fail
  clear b0 b1 b2 c0 c1 c2
  (with_reducible refine (append_nil5 _ s).mono ?_)
  rintro e w7 ⟨rfl, hf7⟩
  have HF7 := Lib.hid (HF6.out.then hf7)
  clear hf7 HF6
  go_wp2_with fail
  (with_reducible refine (snap_nil5 _ s).mono ?_)
  rintro e w8 ⟨rfl, hf8⟩
  have HF8 := Lib.hid (HF7.out.then hf8)
  clear hf8 HF7
  go_wp2_with fail
  (with_reducible refine (room_nil _).mono ?_)
  rintro e w9 ⟨rfl, rfl⟩
  go_wp2_with fail
  (with_reducible refine (fits_nil _).mono ?_)
  rintro e w9 ⟨rfl, rfl⟩
  go_wp2_with fail
  (with_reducible refine (epoch_nil _).mono ?_)
  rintro e w9 ⟨rfl, rfl⟩
  go_wp2_with fail
  (with_reducible refine (broken_nil _).mono ?_)
  rintro e w9 ⟨rfl, rfl⟩
  go_wp2_with fail
  go_ret
  exact ⟨rfl, HF8.out⟩
end Go.Proofs.Ytembnjpflllpbaa
