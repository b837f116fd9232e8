/- The law FrameSizes: for any number the Go function returns true (its walk). -/
import Derived.Test.YtjlhbmgbiobpaaaFrameNext
import Derived.Test.YtjlhbmgbiobpaaaFramePure2
import Derived.Test.YtjlhbmgbiobpaaaFrameAwake
namespace Go.Proofs.Ytjlhbmgbiobpaaa
open Go.RowKit
set_option linter.unusedVariables false
set_option linter.unusedSimpArgs false

theorem run_bb {w : World} {b : Nat} {t : ByteArray} {n c : Nat} (hn : n = t.size) (h : BB 5 w b t) : (convert 25 9 (.slice (some ⟨b, 0, none⟩) n c)).run Try.prog w = .ok (.string t) w := by
  refine run_toString Try.underlying25 Try.underlying5 Try.underlying9 hn ?_ (by rintro ad ⟨⟩; rfl)
  have := h.read 0 t.size
  rwa [show t.extract 0 t.size = t from by
    apply ByteArray.ext
    apply Array.toList_inj.1
    have hl : t.data.toList.length = t.size := by rw [Array.length_toList]; rfl
    simp only [ByteArray.data_extract, Array.toList_extract, List.extract_eq_take_drop, List.drop_zero, Nat.sub_zero]
    exact List.take_of_length_le (by omega)] at this
theorem BB.new (w : World) (t : ByteArray) : BB 5 (w.alloc (.cells (Lib.strCells t).toArray 5)) w.heap.size t := heap_alloc_new w _

set_option maxHeartbeats 1000000 in
set_option maxRecDepth 100000 in
theorem FrameSizes_walk (w : World) (n : Int) (h : Bd .i64 n) :
    Calls Try.prog 3 #[.int .i64 n] w fun e w' => e = .returned (.bool true) ∧ Fr [] w w' := by
  by_cases hin : 1 ≤ n ∧ n ≤ 32768
  · obtain ⟨N, rfl⟩ : ∃ N : Nat, n = (N : Int) := ⟨n.toNat, by omega⟩
    obtain ⟨h1, h2⟩ := hin
    have hmk := fun W => run_zeros W N rfl (by omega)
    obtain ⟨Z, hZ⟩ : ∃ Z, Z = zerosB 32769 := ⟨_, rfl⟩
    have hmk2 := fun W => run_zeros W 32769 (mi := 32769) (by rfl) (by omega)
    rw [← hZ] at hmk2
    have hZs : 32769 = Z.size := by rw [hZ, zerosB_size]
    have HZs := Lib.hid hZs
    have HZ := Lib.hid (fsize_in (n := N) h1 h2)
    have hzs := Lib.hid (zerosB_size N)
    have HW := Lib.hid (wrapB_size (zerosB N))
    have HL := Lib.hid (wrapB_out (s := Z) (.inr (by rw [← hZs]; decide)))
    clear hZ hZs
    have HX : Hid (nextV (nextB (wrapB (zerosB N))) = .tuple #[.string (zerosB N), .int .i64 ((N : Int) + 8), .bool true]) := Lib.hid (by
      have := next_wrap (x := zerosB N) (by rw [zerosB_size]; omega) (by rw [zerosB_size]; omega) ⟨#[]⟩
      rw [bapp_nil] at this
      rw [this, zerosB_size]
      rfl)
    go_enter Try.func3, Try.ntmps3
    go_wp2_with fail
    (with_reducible refine (awake04_calls _).mono ?_)
    rintro e w1 ⟨rfl, hf1⟩
    go_wp2_with fail
    (with_reducible refine (FSize_calls _ _ h).mono ?_)
    rintro e w2 ⟨rfl, rfl⟩
    rw [HZ.out]
    go_wp2_with fail
    have hB := BB.new w1 (zerosB N)
    have hfB : Fr [] w (w1.alloc (.cells (Lib.strCells (zerosB N)).toArray 5)) := hf1.alloc _
    clear hmk
    generalize w1.alloc (.cells (Lib.strCells (zerosB N)).toArray 5) = w2 at hB hfB ⊢
    generalize w1.heap.size = b at hB ⊢
    clear hf1
    rw [run_bb hzs.out.symm hB]
    simp only [Result.andThen]
    rw [Oper.upon_value]
    have HBB := Lib.hid hB
    have HFB := Lib.hid hfB
    clear hB hfB
    generalize zerosB N = z at HW HX hzs HBB ⊢
    have hzle : z.size ≤ 140737488351232 := by rw [hzs.out]; omega
    have HZL := Lib.hid hzle
    clear hzle
    go_wp2_with fail
    (with_reducible refine (Wrap_calls _ z HZL.out).mono ?_)
    rintro e w3 ⟨rfl, hf3⟩
    have HB3 := Lib.hid (HBB.out.keep hf3 (by simp))
    have HF3 := Lib.hid (HFB.out.then hf3)
    clear hf3 HBB HFB
    have hwl : ((wrapB z).size : Int) = (N : Int) + 8 := by rw [HW.out, hzs.out, HZ.out]
    have HWL := Lib.hid hwl
    generalize wrapB z = s at HX HWL ⊢
    clear hwl HW
    have HSL : Hid (s.size ≤ 140737488351232) := Lib.hid (by have := HWL.out; omega)
    go_wp2_with fail
    (with_reducible refine (Next_calls _ s HSL.out).mono ?_)
    rintro e w4 ⟨rfl, hf4⟩
    rw [HX.out]
    have HB4 := Lib.hid (HB3.out.keep hf4 (by simp))
    have HF4 := Lib.hid (HF3.out.then hf4)
    clear hf4 HB3 HF3
    go_wp2_with fail
    have hB5 := BB.new w4 Z
    have HB6 := Lib.hid (HB4.out.keep ((Fr.refl [] _).alloc (.cells (Lib.strCells Z).toArray 5)) (by simp))
    have HF6 := Lib.hid (HF4.out.alloc (.cells (Lib.strCells Z).toArray 5))
    clear hmk2
    generalize w4.alloc (.cells (Lib.strCells Z).toArray 5) = w5 at hB5 HB6 HF6 ⊢
    generalize w4.heap.size = b5 at hB5 ⊢
    rw [run_bb HZs.out hB5]
    simp only [Result.andThen]
    rw [Oper.upon_value]
    clear HB4 HF4 hB5
    go_wp2_with fail
    (with_reducible refine (Wrap_calls _ Z (by rw [← HZs.out]; decide)).mono ?_)
    rintro e w6 ⟨rfl, hf6⟩
    rw [HL.out]
    have hcv := run_bb (c := N) hzs.out.symm (HB6.out.keep hf6 (by simp))
    have HF7 := Lib.hid (HF6.out.then hf6)
    have hb1 : ((s.size : Int) == (N : Int) + 8) = true := beq_iff_eq.2 HWL.out
    have hb2 : (((N : Int) + 8) == (N : Int) + 8) = true := beq_iff_eq.2 rfl
    have hb3 : (z.toList == z.toList) = true := beq_iff_eq.2 rfl
    clear hf6 HB6 HF6 HZ HX
    go_wp2_with fail
    go_ret
    exact ⟨rfl, HF7.out⟩
  · have hz : fsize n = 0 := fsize_out (by omega)
    have HZ := Lib.hid hz
    have hwz : wrapB ⟨#[]⟩ = ⟨#[]⟩ := wrapB_out (.inl rfl)
    have HW := Lib.hid hwz
    clear hz hwz
    by_cases h1 : n < 1
    · go_enter Try.func3, Try.ntmps3
      go_wp2_with fail
      (with_reducible refine (awake04_calls _).mono ?_)
      rintro e w1 ⟨rfl, hf1⟩
      go_wp2_with fail
      (with_reducible refine (FSize_calls _ _ h).mono ?_)
      rintro e w2 ⟨rfl, rfl⟩
      rw [HZ.out]
      go_wp2_with fail
      (with_reducible refine (Wrap_calls _ _ (by decide)).mono ?_)
      rintro e w3 ⟨rfl, hf3⟩
      rw [HW.out]
      go_wp2_with fail
      go_ret
      exact ⟨rfl, hf1.then hf3⟩
    · have h2 : 32768 < n := by omega
      go_enter Try.func3, Try.ntmps3
      go_wp2_with fail
      (with_reducible refine (awake04_calls _).mono ?_)
      rintro e w1 ⟨rfl, hf1⟩
      go_wp2_with fail
      (with_reducible refine (FSize_calls _ _ h).mono ?_)
      rintro e w2 ⟨rfl, rfl⟩
      rw [HZ.out]
      go_wp2_with fail
      (with_reducible refine (Wrap_calls _ _ (by decide)).mono ?_)
      rintro e w3 ⟨rfl, hf3⟩
      rw [HW.out]
      go_wp2_with fail
      go_ret
      exact ⟨rfl, hf1.then hf3⟩

end Go.Proofs.Ytjlhbmgbiobpaaa
