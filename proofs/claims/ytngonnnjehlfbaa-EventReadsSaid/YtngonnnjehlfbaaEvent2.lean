/- The contracts of event.Bytes and the example of layer 15. -/
import Derived.Test.YtngonnnjehlfbaaEvent
import Derived.Laws.BitsAllLaws
namespace Go.Proofs.Ytngonnnjehlfbaa
open Go.RowKit
set_option linter.unusedVariables false
set_option linter.unusedSimpArgs false

theorem Ev.ok_iff {e : Ev} (h : e.ok = true) : ((1 ≤ e.k ∧ e.k ≤ 21) ∧ (0 ≤ e.ac ∧ e.ac ≤ 99) ∧ (0 ≤ e.pu ∧ e.pu ≤ 9) ∧ (0 ≤ e.at' ∧ e.at' ≤ 1099511627776) ∧ (0 ≤ e.n ∧ e.n ≤ 1099511627776)) ∧ e.a.size ≤ 100 ∧ e.b.size ≤ 100 ∧ e.c.size ≤ 100 := by
  simp only [Ev.ok, Ev.nums, Bool.and_eq_true, decide_eq_true_eq] at h
  omega
theorem put_ok (w : World) (b : Nat) (r : List Nat) (s : ByteArray) (e : Ev) (hok : e.ok = true) (h : Bld 32 5 w b r s) (hlen : s.size ≤ 10000000) :
    Calls Try.prog 56 #[.pointer (some ⟨b, 0, none⟩), .agg #[.int .i64 e.k, .int .i64 e.ac, .int .i64 e.pu, .int .i64 e.at', .int .i64 e.n, .string e.a, .string e.b, .string e.c]] w fun x w' => x = .returned (.tuple #[]) ∧ ∃ r', Bld 32 5 w' b r' (s ++ evB e) ∧ Fr (b :: r) w w' ∧ (∀ k, k ∈ r' → k ∈ r ∨ w.heap.size ≤ k) := by
  obtain ⟨⟨⟨h1, h2⟩, ⟨h3, h4⟩, ⟨h5, h6⟩, ⟨h7, h8⟩, ⟨h9, h10⟩⟩, h11, h12, h13⟩ := Ev.ok_iff hok
  obtain ⟨k, ac, pu, at', n, sa, sb, sc⟩ := e
  simp only at h1 h2 h3 h4 h5 h6 h7 h8 h9 h10 h11 h12 h13 ⊢
  obtain ⟨k, rfl⟩ := Int.eq_ofNat_of_zero_le (by omega : 0 ≤ k)
  obtain ⟨ac, rfl⟩ := Int.eq_ofNat_of_zero_le h3
  obtain ⟨pu, rfl⟩ := Int.eq_ofNat_of_zero_le h5
  obtain ⟨at', rfl⟩ := Int.eq_ofNat_of_zero_le h7
  obtain ⟨n, rfl⟩ := Int.eq_ofNat_of_zero_le h9
  refine (put_calls w b r s k ac pu at' n sa sb sc h (by omega) (by omega) (by omega) (by omega) (by omega) (by omega)).mono ?_
  rintro x w' ⟨rfl, r', hb, hf, hn⟩
  exact ⟨rfl, r', by rw [evB, ← app_assoc]; exact hb, hf, hn⟩
/-- What Bytes gives. -/
def evBytes (e : Ev) : ByteArray := if e.ok then evB e else ⟨#[]⟩
theorem Check_calls' (w : World) (k ac pu at' n : Int) (sa sb sc : ByteArray) (hs : (Ev.mk k ac pu at' n sa sb sc).short 140737488351232) :
    Calls Try.prog 31 #[.agg #[.int .i64 k, .int .i64 ac, .int .i64 pu, .int .i64 at', .int .i64 n, .string sa, .string sb, .string sc]] w fun x w' => x = .returned (.bool (Ev.mk k ac pu at' n sa sb sc).ok) ∧ Fr [] w w' := Check_calls w ⟨k, ac, pu, at', n, sa, sb, sc⟩ hs
theorem put_ok' (w : World) (b : Nat) (r : List Nat) (s : ByteArray) (k ac pu at' n : Int) (sa sb sc : ByteArray) (hok : (Ev.mk k ac pu at' n sa sb sc).ok = true) (h : Bld 32 5 w b r s) (hlen : s.size ≤ 10000000) :
    Calls Try.prog 56 #[.pointer (some ⟨b, 0, none⟩), .agg #[.int .i64 k, .int .i64 ac, .int .i64 pu, .int .i64 at', .int .i64 n, .string sa, .string sb, .string sc]] w fun x w' => x = .returned (.tuple #[]) ∧ ∃ r', Bld 32 5 w' b r' (s ++ evB ⟨k, ac, pu, at', n, sa, sb, sc⟩) ∧ Fr (b :: r) w w' ∧ (∀ k, k ∈ r' → k ∈ r ∨ w.heap.size ≤ k) := put_ok w b r s ⟨k, ac, pu, at', n, sa, sb, sc⟩ hok h hlen

set_option maxHeartbeats 2000000 in
set_option maxRecDepth 100000 in
theorem EBytes_calls (w : World) (k ac pu at' n : Int) (sa sb sc : ByteArray) (hs : (Ev.mk k ac pu at' n sa sb sc).short 140737488351232) :
    Calls Try.prog 29 #[.agg #[.int .i64 k, .int .i64 ac, .int .i64 pu, .int .i64 at', .int .i64 n, .string sa, .string sb, .string sc]] w fun x w' => x = .returned (.string (evBytes ⟨k, ac, pu, at', n, sa, sb, sc⟩)) ∧ Fr [] w w' := by
  have hck := fun W => Check_calls' W k ac pu at' n sa sb sc hs
  have hput := fun W b r s => put_ok' W b r s k ac pu at' n sa sb sc
  have HS := Lib.hid hs
  unfold evBytes
  clear hs
  by_cases hok : (Ev.mk k ac pu at' n sa sb sc).ok = true
  · rw [if_pos hok]
    have HPUT := Lib.hid fun W b r s h hl => hput W b r s hok h hl
    rw [hok] at hck
    have HCK := Lib.hid hck
    clear hck hput hok
    generalize evB ⟨k, ac, pu, at', n, sa, sb, sc⟩ = eb at *
    go_enter Try.func29, Try.ntmps29
    go_wp2_with fail
    obtain ⟨W0, hW0⟩ : ∃ W0, W0 = w.alloc (.cells #[.int .i64 k, .int .i64 ac, .int .i64 pu, .int .i64 at', .int .i64 n, .string sa, .string sb, .string sc] 56) := ⟨_, rfl⟩
    rw [← hW0]
    have hnew := heap_alloc_new w (.cells #[.int .i64 k, .int .i64 ac, .int .i64 pu, .int .i64 at', .int .i64 n, .string sa, .string sb, .string sc] 56)
    rw [← hW0] at hnew
    have hF0 : Fr [] w W0 := by rw [hW0]; exact (Fr.refl _ _).alloc _
    have hsz : w.heap.size < W0.heap.size := by rw [hW0]; simp
    clear hW0
    (with_reducible refine (HCK.out _).mono ?_)
    rintro e w1 ⟨rfl, hf1⟩
    have hb1 := (hf1.block _ hsz (by simp)).trans hnew
    have c0 : w1.cell? ⟨w.heap.size, 0, none⟩ = some (.int .i64 k) := by rw [Lib.cell_of_heap hb1]; rfl
    have c1 : w1.cell? ⟨w.heap.size, 1, none⟩ = some (.int .i64 ac) := by rw [Lib.cell_of_heap hb1]; rfl
    have c2 : w1.cell? ⟨w.heap.size, 2, none⟩ = some (.int .i64 pu) := by rw [Lib.cell_of_heap hb1]; rfl
    have c3 : w1.cell? ⟨w.heap.size, 3, none⟩ = some (.int .i64 at') := by rw [Lib.cell_of_heap hb1]; rfl
    have c4 : w1.cell? ⟨w.heap.size, 4, none⟩ = some (.int .i64 n) := by rw [Lib.cell_of_heap hb1]; rfl
    have c5 : w1.cell? ⟨w.heap.size, 5, none⟩ = some (.string sa) := by rw [Lib.cell_of_heap hb1]; rfl
    have c6 : w1.cell? ⟨w.heap.size, 6, none⟩ = some (.string sb) := by rw [Lib.cell_of_heap hb1]; rfl
    have c7 : w1.cell? ⟨w.heap.size, 7, none⟩ = some (.string sc) := by rw [Lib.cell_of_heap hb1]; rfl
    have d0 : ∀ o, (w1.alloc o).cell? ⟨w.heap.size, 0, none⟩ = some (.int .i64 k) := fun o => ((Fr.refl [] w1).alloc o).cell' c0 (by simp)
    have d1 : ∀ o, (w1.alloc o).cell? ⟨w.heap.size, 1, none⟩ = some (.int .i64 ac) := fun o => ((Fr.refl [] w1).alloc o).cell' c1 (by simp)
    have d2 : ∀ o, (w1.alloc o).cell? ⟨w.heap.size, 2, none⟩ = some (.int .i64 pu) := fun o => ((Fr.refl [] w1).alloc o).cell' c2 (by simp)
    have d3 : ∀ o, (w1.alloc o).cell? ⟨w.heap.size, 3, none⟩ = some (.int .i64 at') := fun o => ((Fr.refl [] w1).alloc o).cell' c3 (by simp)
    have d4 : ∀ o, (w1.alloc o).cell? ⟨w.heap.size, 4, none⟩ = some (.int .i64 n) := fun o => ((Fr.refl [] w1).alloc o).cell' c4 (by simp)
    have d5 : ∀ o, (w1.alloc o).cell? ⟨w.heap.size, 5, none⟩ = some (.string sa) := fun o => ((Fr.refl [] w1).alloc o).cell' c5 (by simp)
    have d6 : ∀ o, (w1.alloc o).cell? ⟨w.heap.size, 6, none⟩ = some (.string sb) := fun o => ((Fr.refl [] w1).alloc o).cell' c6 (by simp)
    have d7 : ∀ o, (w1.alloc o).cell? ⟨w.heap.size, 7, none⟩ = some (.string sc) := fun o => ((Fr.refl [] w1).alloc o).cell' c7 (by simp)
    have hF1 := hF0.then hf1
    have HF1 := Lib.hid hF1
    clear hnew hF0 hsz hf1 hb1 hF1
    clear c0 c1 c2 c3 c4 c5 c6 c7
    generalize w.heap.size = B at d0 d1 d2 d3 d4 d5 d6 d7 ⊢
    go_wp2_with fail
    have hb0 := BldN.make 32 5 HF1.out rfl
    clear d0 d1 d2 d3 d4 d5 d6 d7
    (with_reducible refine (HPUT.out _ _ _ _ hb0.bld (by decide)).mono ?_)
    rintro e w2 ⟨rfl, r2, h2, hf2, hn2⟩
    have hb2 := hb0.step h2 hf2 hn2
    clear hb0 h2 hf2 hn2
    go_wp2_with fail
    (with_reducible refine (Writer_String_calls _ bty_writer _ r2 _ _ hb2.bld).mono ?_)
    rintro e w3 ⟨rfl, h3, hf3⟩
    have hF := hb2.fr.trans hf3 (fun k hk => .inr (hb2.new k (by simp [hk])))
    clear h3 hf3 hb2
    rw [nil_app]
    go_wp2_with fail
    go_ret
    exact ⟨rfl, hF⟩
  · rw [if_neg hok]
    have hok' : (Ev.mk k ac pu at' n sa sb sc).ok = false := by simpa using hok
    rw [hok'] at hck
    have HCK := Lib.hid hck
    clear hck hput hok hok'
    go_enter Try.func29, Try.ntmps29
    go_wp2_with fail
    (with_reducible refine (HCK.out _).mono ?_)
    rintro e w1 ⟨rfl, hf1⟩
    go_wp2_with fail
    go_ret
    exact ⟨rfl, ((Fr.refl _ _).alloc _).then hf1⟩

theorem awake15_bytes : evBytes ⟨2, 3, 0, 5, 0, ⟨#[]⟩, ⟨#[]⟩, ⟨#[]⟩⟩ = ⟨#[2, 3, 0, 5, 0, 0, 0, 0]⟩ := by
  have h0 : numB 0 = ⟨#[0]⟩ := by rw [numB_small (by decide)]; rfl
  have h2 : numB 2 = ⟨#[2]⟩ := by rw [numB_small (by decide)]; rfl
  have h3 : numB 3 = ⟨#[3]⟩ := by rw [numB_small (by decide)]; rfl
  have h5 : numB 5 = ⟨#[5]⟩ := by rw [numB_small (by decide)]; rfl
  rw [evBytes, if_pos (by decide)]
  simp only [evB, numsB, txtsB, txtB]
  rw [show (2 : Int).toNat = 2 from rfl, show (3 : Int).toNat = 3 from rfl, show (0 : Int).toNat = 0 from rfl, show (5 : Int).toNat = 5 from rfl, show (⟨#[]⟩ : ByteArray).size = 0 from rfl, h0, h2, h3, h5]
  rfl
set_option maxHeartbeats 2000000 in
set_option maxRecDepth 100000 in
theorem awake15_calls (w : World) :
    Calls Try.prog 25 #[] w fun e w' => e = .returned (.bool true) ∧ Fr [] w w' := by
  have h := awake15_bytes
  have hcall := fun W => EBytes_calls W 2 3 0 5 0 ⟨#[]⟩ ⟨#[]⟩ ⟨#[]⟩ ⟨by decide, by decide, by decide⟩
  rw [h] at hcall
  have HC := Lib.hid hcall
  clear h hcall
  go_enter Try.func25, Try.ntmps25
  go_wp2_with fail
  refine (HC.out _).mono ?_
  rintro e w1 ⟨rfl, hf⟩
  go_wp2_with fail
  go_ret
  exact ⟨rfl, hf⟩

end Go.Proofs.Ytngonnnjehlfbaa
