/- The contracts of wire.Bytes (whatever comes in) and wire.Reply. -/
import Derived.Test.YtbeoegppldjpoaaDoorWireBytes
namespace Go.Proofs.YtbeoegppldjpoaaDoor
open Go.RowKit
set_option linter.unusedVariables false
set_option linter.unusedSimpArgs false

theorem rp_cells {W : World} {R : Nat} {v0 v1 : Value} {T : TypeId} (h : W.heap[R]? = some (.cells #[v0, v1] T (0, 0))) :
    W.cell? ⟨R, 0, none⟩ = some v0 ∧ W.cell? ⟨R, 1, none⟩ = some v1 :=
  ⟨by rw [Lib.cell_of_heap h]; rfl, by rw [Lib.cell_of_heap h]; rfl⟩

set_option maxHeartbeats 4000000 in
set_option maxRecDepth 100000 in
theorem WBytes_calls (w : World) (k pu : Int) (so ma ot se pa : ByteArray) (hs : (Rq.mk k pu so ma ot se pa).short 140737488351232) :
    Calls Tryd.prog 15 #[.agg #[.int .i64 k, .int .i64 pu, .string so, .string ma, .string ot, .string se, .string pa]] w fun e w' => e = .returned (.string (wireB ⟨k, pu, so, ma, ot, se, pa⟩)) ∧ Fr [] w w' := by
  by_cases hok : (Rq.mk k pu so ma ot se pa).ok = true
  · rw [wireB, if_pos hok]
    have h1 := Rq.ok_iff hok
    obtain ⟨k, rfl⟩ := Int.eq_ofNat_of_zero_le (show 0 ≤ k by have := h1.1.1; simp only at this; omega)
    obtain ⟨pu, rfl⟩ := Int.eq_ofNat_of_zero_le (show 0 ≤ pu from h1.2.1.1)
    exact WBytes_ok w k pu so ma ot se pa hok
  · rw [wireB, if_neg hok]
    have hok' : (Rq.mk k pu so ma ot se pa).ok = false := by simpa using hok
    have hck := fun W => Check_calls W k pu so ma ot se pa hs
    rw [hok'] at hck
    have HCK := Lib.hid hck
    clear hck hok hok' hs
    go_enter Tryd.func15, Tryd.ntmps15
    go_wp2_with fail
    (with_reducible refine (HCK.out _).mono ?_)
    rintro e w1 ⟨rfl, hf1⟩
    go_wp2_with fail
    go_ret
    exact ⟨rfl, ((Fr.refl _ _).alloc _).then hf1⟩

set_option maxHeartbeats 4000000 in
set_option maxRecDepth 100000 in
theorem Reply_ok (w : World) (c : Nat) (t : ByteArray) (hc9 : c ≤ 99) (ht64 : t.size ≤ 64) :
    Calls Tryd.prog 12 #[.agg #[.int .i64 c, .string t]] w fun e w' => e = .returned (.string (numsB [(c : Int)] ++ txtsB [t])) ∧ Fr [] w w' := by
  have wk := u64_wrap_nat (show c < 9223372036854775808 by omega)
  have hnum : ∀ (w0 W : World) (b : Nat) (r : List Nat) (h : Bld 59 5 w0 b r ⟨#[]⟩) (q : Nat) (hW : Fr [] w0 W) (hq0 : w0.heap.size ≤ q) (hq : q < W.heap.size) (hr : RdV W (some ⟨q, 0, none⟩) ([(c : Int)].map (.int .u64))), _ := fun w0 W b r h q hW hq0 hq hr => put_num w0 W b r ⟨#[]⟩ [(c : Int)] h q hW hq0 hq hr (by simp; omega) (by simp [ByteArray.size]) (m := 1) rfl
  have hnl := numsB_size [(c : Int)] (by simp; omega)
  have htxt : ∀ (w0 w1 W : World) (b : Nat) (r : List Nat) (n : Nat) (hb : b < w0.heap.size) (hrl : ∀ k, k ∈ r → k < w0.heap.size) (h : NumDone w0 b r (⟨#[]⟩ ++ numsB [(c : Int)]) n w1) (q : Nat) (hW : Fr [] w1 W) (hq0 : w0.heap.size ≤ q) (hq : q < n ∨ w1.heap.size ≤ q) (hr : RdV W (some ⟨q, 0, none⟩) ([t].map .string)), _ := fun w0 w1 W b r n hb hrl h q hW hq0 hq hr => put_text w0 w1 W b r _ [t] n hb hrl h q hW hq0 hq hr (by simp only [nil_app, sizes, List.length_cons, List.length_nil] at hnl ⊢; omega) (m := 1) rfl
  have HNUM := Lib.hid hnum
  have HTXT := Lib.hid htxt
  have hrq : numsB [(c : Int)] ++ txtsB [t] = ⟨#[]⟩ ++ numsB [(c : Int)] ++ txtsB [t] := by rw [nil_app]
  rw [hrq]
  have c1 : ¬ ((c : Int) < 0) := by omega
  have c2 : ¬ ((99 : Int) < (c : Int)) := by omega
  have c3 : ¬ ((64 : Int) < (t.size : Int)) := by omega
  clear hrq hnl hnum htxt
  go_enter Tryd.func12, Tryd.ntmps12
  go_wp2_with fail
  have hr1 := heap_alloc_new w (.cells #[.int .i64 c, .string t] 32)
  have hF1 : Fr [] w (w.alloc (.cells #[.int .i64 c, .string t] 32)) := (Fr.refl _ _).alloc _
  generalize hw1 : w.alloc (.cells #[.int .i64 c, .string t] 32) = w1 at *
  generalize hR : w.heap.size = R at *
  have hsz1 : w1.heap.size = R + 1 := by rw [← hw1, ← hR]; simp
  clear hw1
  have hr2 := alloc_keep (o := .cells #[.pointer none, .slice none 0 0] 59) hr1
  have hb2 := BldN.make 59 5 hF1 rfl
  rw [hsz1] at hb2
  have HRB := Lib.hid (show R ≠ R + 1 by omega)
  have hc := rp_cells hr2
  have hbw : w.heap.size ≤ R + 1 := by rw [hR]; omega
  have hF2 := hb2.fr
  have hbld := hb2.bld
  have hnum := fun q W => HNUM.out (w1.alloc (.cells #[.pointer none, .slice none 0 0] 59)) W (R + 1) [] hbld q
  have htxt := fun w1' W n h q => HTXT.out (w1.alloc (.cells #[.pointer none, .slice none 0 0] 59)) w1' W (R + 1) [] n (by simp; omega) (fun _ h => by cases h) h q
  clear HNUM HTXT hb2 hbld hF1 hr1
  generalize hW3 : w1.alloc (.cells #[.pointer none, .slice none 0 0] 59) = W3 at *
  clear hW3 hsz1
  generalize R + 1 = b at *
  have HNUM := Lib.hid hnum
  have HTXT := Lib.hid htxt
  have HR2 := Lib.hid hr2
  have HF2 := Lib.hid hF2
  have HBW := Lib.hid hbw
  clear hnum htxt hr2 hF2 hbw
  obtain ⟨hc0, hc1⟩ := hc
  go_region_held3 (fun w' => w'.cell? ⟨R, 0, none⟩ = some (.int .i64 c) ∧ w'.cell? ⟨R, 1, none⟩ = some (.string t)) (first | exact hk3 | exact hk2 | exact hk1 | go_keep)
    (first
    | (go_at_call 24; refine (HNUM.out _ _ ?_ ?_ ?_ ?_).mono ?_; (· (first | exact ((Fr.refl _ _).alloc _).drew | exact (((Fr.refl _ _).alloc _).alloc _).drew)); (· (first | omega | (simp; done) | (simp; omega))); (· (first | omega | (simp; done) | (simp; omega))); (· (first | exact (RdV.new _ _ 61 rfl rfl).drew | exact (RdV.new _ _ 61 (by simp) rfl).drew | exact ((RdV.new _ _ 61 rfl rfl).keep ((Fr.refl [] _).alloc _) (by simp)).drew)); ((rintro e w4 ⟨rfl, hkc, hnd⟩; (have hk1 := rp_cells (numDone_blk HR2.out HRB.out hnd)))))
    | (go_at_call 25; refine (HTXT.out _ _ _ hnd _ ?_ ?_ ?_ ?_).mono ?_; (· (first | exact Fr.refl _ _ | exact (Fr.refl _ _).alloc _)); (· (have := hnd.choose_spec.2.2.2.1; have := hnd.choose_spec.2.2.2.2; (first | omega | (simp at this ⊢; omega)))); (· (first | exact .inr (Nat.le_refl _) | exact .inl (by first | (simp; done) | (simp; omega)))); (· (first | exact RdV.new _ _ 9 rfl rfl | (refine RdV.keptC hkc ?_ ?_ ?_; (· (first | omega | (simp; omega))); (· (first | omega | (simp; done) | (simp; omega))); (· (first | exact (RdV.new _ _ 9 rfl rfl).drew | exact (RdV.new _ _ 9 (by simp) rfl).drew | exact ((RdV.new _ _ 9 rfl rfl).keep ((Fr.refl [] _).alloc _) (by simp)).drew))))); ((rintro e w5 ⟨rfl, hkd, HX⟩; (have hk2 := rp_cells (txtDone_blk HR2.out HRB.out HX)))))
    | (go_at_call 26; refine (strDone _ _ _ _ HX _ (Fr.refl _ _)).mono ?_; rintro e w6 ⟨rfl, HFZ⟩; (have hk3 := rp_cells (blk_keep HR2.out HFZ.out (by simpa using HRB.out)))))
  all_goals
    go_wp2_with fail
    go_ret
    exact ⟨rfl, HF2.out.trans HFZ.out (fun i hi => .inr (by have := HBW.out; simp at hi; omega))⟩

theorem reply_no {c : Int} {t : ByteArray} (h : c < 0 ∨ 99 < c ∨ 64 < t.size) : replyB c t = ⟨#[]⟩ := by
  unfold replyB
  rw [if_neg]
  simp only [Bool.and_eq_true, decide_eq_true_eq]
  omega
set_option maxHeartbeats 4000000 in
set_option maxRecDepth 100000 in
theorem WReply_calls (w : World) (c : Int) (t : ByteArray) (hs : t.size ≤ 140737488351232) :
    Calls Tryd.prog 12 #[.agg #[.int .i64 c, .string t]] w fun e w' => e = .returned (.string (replyB c t)) ∧ Fr [] w w' := by
  by_cases h1 : c < 0
  · rw [reply_no (.inl h1)]
    go_enter Tryd.func12, Tryd.ntmps12
    go_wp2_with fail
    go_ret
    exact ⟨rfl, (Fr.refl _ _).alloc _⟩
  · by_cases h2 : 99 < c
    · rw [reply_no (.inr (.inl h2))]
      go_enter Tryd.func12, Tryd.ntmps12
      go_wp2_with fail
      go_ret
      exact ⟨rfl, (Fr.refl _ _).alloc _⟩
    · by_cases h3 : 64 < t.size
      · rw [reply_no (.inr (.inr h3))]
        have h4 : (64 : Int) < (t.size : Int) := by omega
        go_enter Tryd.func12, Tryd.ntmps12
        go_wp2_with fail
        go_ret
        exact ⟨rfl, (Fr.refl _ _).alloc _⟩
      · obtain ⟨c, rfl⟩ := Int.eq_ofNat_of_zero_le (by omega : 0 ≤ c)
        rw [replyB, if_pos (by simp only [Bool.and_eq_true, decide_eq_true_eq]; omega)]
        exact Reply_ok w c t (by omega) (by omega)

end Go.Proofs.YtbeoegppldjpoaaDoor
