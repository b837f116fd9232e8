/- The contract of the document's layer 15: Bytes. -/
import Derived.Test.YtngonnnjehlfbaaRef15C
import Derived.Test.YtngonnnjehlfbaaRef03W
import Derived.Deep.RegionHeld3
namespace Go.Proofs.Ytngonnnjehlfbaa
open Go.RowKit
set_option linter.unusedVariables false
set_option linter.unusedSimpArgs false

set_option maxHeartbeats 4000000 in
set_option maxRecDepth 100000 in
theorem RBytes_ok (w : World) (k ac pu at' n : Nat) (sa sb sc : ByteArray) (hs : (Ev.mk k ac pu at' n sa sb sc).short 140737488351232) (hok : (Ev.mk k ac pu at' n sa sb sc).ok = true) :
    Calls Try.prog 33 #[.agg #[.int .i64 k, .int .i64 ac, .int .i64 pu, .int .i64 at', .int .i64 n, .string sa, .string sb, .string sc]] w fun x w' => x = .returned (.string (evB ⟨k, ac, pu, at', n, sa, sb, sc⟩)) ∧ Fr [] w w' := by
  have hck := fun W => RCheck_calls W k ac pu at' n sa sb sc hs
  rw [hok] at hck
  obtain ⟨⟨⟨h1, h2⟩, ⟨h3, h4⟩, ⟨h5, h6⟩, ⟨h7, h8⟩, ⟨h9, h10⟩⟩, h11, h12, h13⟩ := Ev.ok_iff hok
  simp only at h1 h2 h3 h4 h5 h6 h7 h8 h9 h10 h11 h12 h13
  have wk := u64_wrap_nat (k := k) (by omega)
  have wac := u64_wrap_nat (k := ac) (by omega)
  have wpu := u64_wrap_nat (k := pu) (by omega)
  have wat := u64_wrap_nat (k := at') (by omega)
  have wn := u64_wrap_nat (k := n) (by omega)
  have hn0 := fun W => refNum_calls (k : Int) W (by omega) (by omega)
  have hn1 := fun W => refNum_calls (ac : Int) W (by omega) (by omega)
  have hn2 := fun W => refNum_calls (pu : Int) W (by omega) (by omega)
  have hn3 := fun W => refNum_calls (at' : Int) W (by omega) (by omega)
  have hn4 := fun W => refNum_calls (n : Int) W (by omega) (by omega)
  have ht0 := fun W => refText_calls sa W (by omega)
  have ht1 := fun W => refText_calls sb W (by omega)
  have ht2 := fun W => refText_calls sc W (by omega)
  have z0 := numB_size (k : Int).toNat (by omega)
  have z1 := numB_size (ac : Int).toNat (by omega)
  have z2 := numB_size (pu : Int).toNat (by omega)
  have z3 := numB_size (at' : Int).toNat (by omega)
  have z4 := numB_size (n : Int).toNat (by omega)
  have z5 : (txtB sa).size ≤ 110 := by have := numB_size sa.size (by omega); simp only [txtB, ByteArray.size_append]; omega
  have z6 : (txtB sb).size ≤ 110 := by have := numB_size sb.size (by omega); simp only [txtB, ByteArray.size_append]; omega
  have z7 : (txtB sc).size ≤ 110 := by have := numB_size sc.size (by omega); simp only [txtB, ByteArray.size_append]; omega
  have he : evB ⟨k, ac, pu, at', n, sa, sb, sc⟩ = numB (k : Int).toNat ++ numB (ac : Int).toNat ++ numB (pu : Int).toNat ++ numB (at' : Int).toNat ++ numB (n : Int).toNat ++ txtB sa ++ txtB sb ++ txtB sc := by
    simp only [evB, numsB, txtsB, app_nil, app_assoc]
  rw [he]
  clear he h1 h2 h3 h4 h5 h6 h7 h8 h9 h10 h11 h12 h13 hok hs
  generalize numB (k : Int).toNat = q0 at *
  generalize numB (ac : Int).toNat = q1 at *
  generalize numB (pu : Int).toNat = q2 at *
  generalize numB (at' : Int).toNat = q3 at *
  generalize numB (n : Int).toNat = q4 at *
  generalize txtB sa = q5 at *
  generalize txtB sb = q6 at *
  generalize txtB sc = q7 at *
  have y1 : (9223372036854775807 < q0.size + q1.size) = False := eq_false (by omega)
  have y2 : (9223372036854775807 < q0.size + q1.size + q2.size) = False := eq_false (by omega)
  have x2 : (9223372036854775807 < (q0 ++ q1).size + q2.size) = False := eq_false (by simp only [ByteArray.size_append]; omega)
  have y3 : (9223372036854775807 < q0.size + q1.size + q2.size + q3.size) = False := eq_false (by omega)
  have x3 : (9223372036854775807 < (q0 ++ q1 ++ q2).size + q3.size) = False := eq_false (by simp only [ByteArray.size_append]; omega)
  have y4 : (9223372036854775807 < q0.size + q1.size + q2.size + q3.size + q4.size) = False := eq_false (by omega)
  have x4 : (9223372036854775807 < (q0 ++ q1 ++ q2 ++ q3).size + q4.size) = False := eq_false (by simp only [ByteArray.size_append]; omega)
  have y5 : (9223372036854775807 < q0.size + q1.size + q2.size + q3.size + q4.size + q5.size) = False := eq_false (by omega)
  have x5 : (9223372036854775807 < (q0 ++ q1 ++ q2 ++ q3 ++ q4).size + q5.size) = False := eq_false (by simp only [ByteArray.size_append]; omega)
  have y6 : (9223372036854775807 < q0.size + q1.size + q2.size + q3.size + q4.size + q5.size + q6.size) = False := eq_false (by omega)
  have x6 : (9223372036854775807 < (q0 ++ q1 ++ q2 ++ q3 ++ q4 ++ q5).size + q6.size) = False := eq_false (by simp only [ByteArray.size_append]; omega)
  have y7 : (9223372036854775807 < q0.size + q1.size + q2.size + q3.size + q4.size + q5.size + q6.size + q7.size) = False := eq_false (by omega)
  have x7 : (9223372036854775807 < (q0 ++ q1 ++ q2 ++ q3 ++ q4 ++ q5 ++ q6).size + q7.size) = False := eq_false (by simp only [ByteArray.size_append]; omega)
  clear z0 z1 z2 z3 z4 z5 z6 z7
  have HN0 := Lib.hid hn0
  have HN1 := Lib.hid hn1
  have HN2 := Lib.hid hn2
  have HN3 := Lib.hid hn3
  have HN4 := Lib.hid hn4
  have HT0 := Lib.hid ht0
  have HT1 := Lib.hid ht1
  have HT2 := Lib.hid ht2
  have HCK := Lib.hid hck
  clear hn0 hn1 hn2 hn3 hn4 ht0 ht1 ht2 hck
  go_enter Try.func33, Try.ntmps33
  go_wp2_with fail
  have hnew := heap_alloc_new w (.cells #[.int .i64 k, .int .i64 ac, .int .i64 pu, .int .i64 at', .int .i64 n, .string sa, .string sb, .string sc] 56)
  have hfa : Fr [] w (w.alloc (.cells #[.int .i64 k, .int .i64 ac, .int .i64 pu, .int .i64 at', .int .i64 n, .string sa, .string sb, .string sc] 56)) := (Fr.refl _ _).alloc _
  have hsa : w.heap.size < (w.alloc (.cells #[.int .i64 k, .int .i64 ac, .int .i64 pu, .int .i64 at', .int .i64 n, .string sa, .string sb, .string sc] 56)).heap.size := by simp
  generalize w.alloc (.cells #[.int .i64 k, .int .i64 ac, .int .i64 pu, .int .i64 at', .int .i64 n, .string sa, .string sb, .string sc] 56) = W at hnew hfa hsa ⊢
  (with_reducible refine (HCK.out _).mono ?_)
  rintro e w1 ⟨rfl, hf1⟩
  have hnew := (hf1.block _ hsa (by simp)).trans hnew
  have c0 : w1.cell? ⟨w.heap.size, 0, none⟩ = some (.int .i64 k) := by rw [Lib.cell_of_heap hnew]; rfl
  have c1 : w1.cell? ⟨w.heap.size, 1, none⟩ = some (.int .i64 ac) := by rw [Lib.cell_of_heap hnew]; rfl
  have c2 : w1.cell? ⟨w.heap.size, 2, none⟩ = some (.int .i64 pu) := by rw [Lib.cell_of_heap hnew]; rfl
  have c3 : w1.cell? ⟨w.heap.size, 3, none⟩ = some (.int .i64 at') := by rw [Lib.cell_of_heap hnew]; rfl
  have c4 : w1.cell? ⟨w.heap.size, 4, none⟩ = some (.int .i64 n) := by rw [Lib.cell_of_heap hnew]; rfl
  have c5 : w1.cell? ⟨w.heap.size, 5, none⟩ = some (.string sa) := by rw [Lib.cell_of_heap hnew]; rfl
  have c6 : w1.cell? ⟨w.heap.size, 6, none⟩ = some (.string sb) := by rw [Lib.cell_of_heap hnew]; rfl
  have c7 : w1.cell? ⟨w.heap.size, 7, none⟩ = some (.string sc) := by rw [Lib.cell_of_heap hnew]; rfl
  have hF0 := (hfa.then hf1).drew
  clear hnew hfa hsa hf1 HCK
  generalize w.heap.size = B at *
  go_wp2_with fail
  go_region_held3 (fun w' => w'.cell? ⟨B, 0, none⟩ = some (.int .i64 k) ∧ w'.cell? ⟨B, 1, none⟩ = some (.int .i64 ac) ∧ w'.cell? ⟨B, 2, none⟩ = some (.int .i64 pu) ∧ w'.cell? ⟨B, 3, none⟩ = some (.int .i64 at') ∧ w'.cell? ⟨B, 4, none⟩ = some (.int .i64 n) ∧ w'.cell? ⟨B, 5, none⟩ = some (.string sa) ∧ w'.cell? ⟨B, 6, none⟩ = some (.string sb) ∧ w'.cell? ⟨B, 7, none⟩ = some (.string sc)) (first | exact s8_keep hk1 (by assumption) | go_keep)
    (first
    | (go_at_call 19; with_reducible refine (HN0.out _).mono ?_; rintro e w' ⟨rfl, hf'⟩; (have hk1 := fun j v h => hf'.cell' (p := ⟨B, j, none⟩) (v := v) h (by simp)); (have hF' := Fr.then (S := []) (a := w) (by assumption) hf'))
    | (go_at_call 19; with_reducible refine (HN1.out _).mono ?_; rintro e w' ⟨rfl, hf'⟩; (have hk1 := fun j v h => hf'.cell' (p := ⟨B, j, none⟩) (v := v) h (by simp)); (have hF' := Fr.then (S := []) (a := w) (by assumption) hf'))
    | (go_at_call 19; with_reducible refine (HN2.out _).mono ?_; rintro e w' ⟨rfl, hf'⟩; (have hk1 := fun j v h => hf'.cell' (p := ⟨B, j, none⟩) (v := v) h (by simp)); (have hF' := Fr.then (S := []) (a := w) (by assumption) hf'))
    | (go_at_call 19; with_reducible refine (HN3.out _).mono ?_; rintro e w' ⟨rfl, hf'⟩; (have hk1 := fun j v h => hf'.cell' (p := ⟨B, j, none⟩) (v := v) h (by simp)); (have hF' := Fr.then (S := []) (a := w) (by assumption) hf'))
    | (go_at_call 19; with_reducible refine (HN4.out _).mono ?_; rintro e w' ⟨rfl, hf'⟩; (have hk1 := fun j v h => hf'.cell' (p := ⟨B, j, none⟩) (v := v) h (by simp)); (have hF' := Fr.then (S := []) (a := w) (by assumption) hf'))
    | (go_at_call 22; with_reducible refine (HT0.out _).mono ?_; rintro e w' ⟨rfl, hf'⟩; (have hk1 := fun j v h => hf'.cell' (p := ⟨B, j, none⟩) (v := v) h (by simp)); (have hF' := Fr.then (S := []) (a := w) (by assumption) hf'))
    | (go_at_call 22; with_reducible refine (HT1.out _).mono ?_; rintro e w' ⟨rfl, hf'⟩; (have hk1 := fun j v h => hf'.cell' (p := ⟨B, j, none⟩) (v := v) h (by simp)); (have hF' := Fr.then (S := []) (a := w) (by assumption) hf'))
    | (go_at_call 22; with_reducible refine (HT2.out _).mono ?_; rintro e w' ⟨rfl, hf'⟩; (have hk1 := fun j v h => hf'.cell' (p := ⟨B, j, none⟩) (v := v) h (by simp)); (have hF' := Fr.then (S := []) (a := w) (by assumption) hf')))
  all_goals
    go_wp2_with fail
    go_ret
    exact ⟨rfl, hF'⟩
theorem RBytes_calls (w : World) (k ac pu at' n : Int) (sa sb sc : ByteArray) (hs : (Ev.mk k ac pu at' n sa sb sc).short 140737488351232) :
    Calls Try.prog 33 #[.agg #[.int .i64 k, .int .i64 ac, .int .i64 pu, .int .i64 at', .int .i64 n, .string sa, .string sb, .string sc]] w fun x w' => x = .returned (.string (evBytes ⟨k, ac, pu, at', n, sa, sb, sc⟩)) ∧ Fr [] w w' := by
  by_cases hok : (Ev.mk k ac pu at' n sa sb sc).ok = true
  · rw [evBytes, if_pos hok]
    obtain ⟨⟨⟨h1, h2⟩, ⟨h3, h4⟩, ⟨h5, h6⟩, ⟨h7, h8⟩, ⟨h9, h10⟩⟩, h11, h12, h13⟩ := Ev.ok_iff hok
    simp only at h1 h2 h3 h4 h5 h6 h7 h8 h9 h10 h11 h12 h13
    obtain ⟨k, rfl⟩ := Int.eq_ofNat_of_zero_le (by omega : 0 ≤ k)
    obtain ⟨ac, rfl⟩ := Int.eq_ofNat_of_zero_le h3
    obtain ⟨pu, rfl⟩ := Int.eq_ofNat_of_zero_le h5
    obtain ⟨at', rfl⟩ := Int.eq_ofNat_of_zero_le h7
    obtain ⟨n, rfl⟩ := Int.eq_ofNat_of_zero_le h9
    exact RBytes_ok w k ac pu at' n sa sb sc hs hok
  · rw [evBytes, if_neg hok]
    have hck := fun W => RCheck_calls W k ac pu at' n sa sb sc hs
    have hok' : (Ev.mk k ac pu at' n sa sb sc).ok = false := by simpa using hok
    rw [hok'] at hck
    have HCK := Lib.hid hck
    clear hck hok hok'
    go_enter Try.func33, Try.ntmps33
    go_wp2_with fail
    (with_reducible refine (HCK.out _).mono ?_)
    rintro e w1 ⟨rfl, hf1⟩
    go_wp2_with fail
    go_ret
    exact ⟨rfl, ((Fr.refl _ _).alloc _).then hf1⟩
end Go.Proofs.Ytngonnnjehlfbaa
