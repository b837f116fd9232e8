/- The contracts of wire.Bytes and wire.Reply: what is written. -/
import Derived.Test.YtbeoegppldjpoaaDoorWireCheck
import Derived.Test.YtbeoegppldjpoaaDoorEvPut
namespace Go.Proofs.YtbeoegppldjpoaaDoor
open Go.RowKit
set_option linter.unusedVariables false
set_option linter.unusedSimpArgs false

theorem bld_fr {w w' : World} {b : Nat} {r : List Nat} (hf : Fr (b :: r) w w') {R : Nat} {o : Obj} (h : w.heap[R]? = some o) (hR : R ∉ b :: r) : w'.heap[R]? = some o := blk_keep h hf hR
/-- A request's cells, from the block that holds them. -/
theorem rq_cells {W : World} {R : Nat} {v0 v1 v2 v3 v4 v5 v6 : Value} {T : TypeId} (h : W.heap[R]? = some (.cells #[v0, v1, v2, v3, v4, v5, v6] T (0, 0))) :
    W.cell? ⟨R, 0, none⟩ = some v0 ∧ W.cell? ⟨R, 1, none⟩ = some v1 ∧ W.cell? ⟨R, 2, none⟩ = some v2 ∧ W.cell? ⟨R, 3, none⟩ = some v3 ∧ W.cell? ⟨R, 4, none⟩ = some v4 ∧ W.cell? ⟨R, 5, none⟩ = some v5 ∧ W.cell? ⟨R, 6, none⟩ = some v6 :=
  ⟨by rw [Lib.cell_of_heap h]; rfl, by rw [Lib.cell_of_heap h]; rfl, by rw [Lib.cell_of_heap h]; rfl, by rw [Lib.cell_of_heap h]; rfl, by rw [Lib.cell_of_heap h]; rfl, by rw [Lib.cell_of_heap h]; rfl, by rw [Lib.cell_of_heap h]; rfl⟩

theorem numDone_blk {w w' : World} {b n R : Nat} {s : ByteArray} {o : Obj} (h : w.heap[R]? = some o) (hR : R ≠ b) (hnd : NumDone w b [] s n w') : w'.heap[R]? = some o := by
  obtain ⟨r1, _, hf, _⟩ := hnd
  exact blk_keep h hf (by simpa using hR)
theorem txtDone_blk {w w' : World} {b R : Nat} {s : ByteArray} {o : Obj} (h : w.heap[R]? = some o) (hR : R ≠ b) (hnd : Hid (∃ r', Bld 59 5 w' b r' s ∧ Fr (b :: []) w w' ∧ (∀ k, k ∈ r' → k ∈ [] ∨ w.heap.size ≤ k))) : w'.heap[R]? = some o := by
  obtain ⟨r1, _, hf, _⟩ := hnd.out
  exact blk_keep h hf (by simpa using hR)
theorem strDone (w w' : World) (b : Nat) (s : ByteArray) (hnd : Hid (∃ r', Bld 59 5 w' b r' s ∧ Fr (b :: []) w w' ∧ (∀ k, k ∈ r' → k ∈ [] ∨ w.heap.size ≤ k))) (W : World) (hW : Fr [] w' W) :
    Calls Tryd.prog 26 #[.pointer (some ⟨b, 0, none⟩)] W fun e w'' => e = .returned (.string s) ∧ Hid (Fr [b] w w'') := by
  obtain ⟨r1, hb, hf, hn⟩ := hnd.out
  refine (Writer_String_calls _ bty_writer b r1 s W (hb.keep hW (by simp))).mono ?_
  rintro e w2 ⟨rfl, _, hf2⟩
  refine ⟨rfl, (hf.then hW).trans hf2 (fun k hk => ?_)⟩
  rcases hn k hk with h | h
  · cases h
  · exact .inr h

set_option maxHeartbeats 4000000 in
set_option maxRecDepth 100000 in
theorem WBytes_ok (w : World) (k pu : Nat) (so ma ot se pa : ByteArray) (hok : (Rq.mk k pu so ma ot se pa).ok = true) :
    Calls Tryd.prog 15 #[.agg #[.int .i64 k, .int .i64 pu, .string so, .string ma, .string ot, .string se, .string pa]] w fun e w' => e = .returned (.string (rqB ⟨k, pu, so, ma, ot, se, pa⟩)) ∧ Fr [] w w' := by
  obtain ⟨⟨h1, h2⟩, ⟨h3, h4⟩, ⟨h5, h6⟩, h7, h8, h9, h10⟩ := Rq.ok_iff hok
  simp only at h1 h2 h3 h4 h5 h6 h7 h8 h9 h10
  have wk := u64_wrap_nat (show k < 9223372036854775808 by omega)
  have wpu := u64_wrap_nat (show pu < 9223372036854775808 by omega)
  have hck := fun W => Check_calls W k pu so ma ot se pa ⟨by show so.size ≤ _; omega, by show ma.size ≤ _; omega, by show ot.size ≤ _; omega, by show se.size ≤ _; omega, by show pa.size ≤ _; omega⟩
  rw [hok] at hck
  have HCK := Lib.hid hck
  have hnum : ∀ (w0 W : World) (b : Nat) (r : List Nat) (h : Bld 59 5 w0 b r ⟨#[]⟩) (q : Nat) (hW : Fr [] w0 W) (hq0 : w0.heap.size ≤ q) (hq : q < W.heap.size) (hr : RdV W (some ⟨q, 0, none⟩) ([(k : Int), pu].map (.int .u64))), _ := fun w0 W b r h q hW hq0 hq hr => put_num w0 W b r ⟨#[]⟩ [(k : Int), pu] h q hW hq0 hq hr (by simp; omega) (by simp [ByteArray.size]) (m := 2) rfl
  have hnl := numsB_size [(k : Int), pu] (by simp; omega)
  have htxt : ∀ (w0 w1 W : World) (b : Nat) (r : List Nat) (n : Nat) (hb : b < w0.heap.size) (hrl : ∀ k, k ∈ r → k < w0.heap.size) (h : NumDone w0 b r (⟨#[]⟩ ++ numsB [(k : Int), pu]) n w1) (q : Nat) (hW : Fr [] w1 W) (hq0 : w0.heap.size ≤ q) (hq : q < n ∨ w1.heap.size ≤ q) (hr : RdV W (some ⟨q, 0, none⟩) ([so, ma, ot, se, pa].map .string)), _ := fun w0 w1 W b r n hb hrl h q hW hq0 hq hr => put_text w0 w1 W b r _ [so, ma, ot, se, pa] n hb hrl h q hW hq0 hq hr (by simp only [nil_app, sizes, List.length_cons, List.length_nil] at hnl ⊢; omega) (m := 5) rfl
  have HNUM := Lib.hid hnum
  have HTXT := Lib.hid htxt
  have hrq : rqB ⟨k, pu, so, ma, ot, se, pa⟩ = ⟨#[]⟩ ++ numsB [(k : Int), pu] ++ txtsB [so, ma, ot, se, pa] := by rw [nil_app]; rfl
  rw [hrq]
  clear hrq hnl hnum htxt hck hok h1 h2 h3 h4 h5 h6 h7 h8 h9 h10
  go_enter Tryd.func15, Tryd.ntmps15
  go_wp2_with fail
  have hr0 := heap_alloc_new w (.cells #[.int .i64 k, .int .i64 pu, .string so, .string ma, .string ot, .string se, .string pa] 23)
  have hF0 : Fr [] w (w.alloc (.cells #[.int .i64 k, .int .i64 pu, .string so, .string ma, .string ot, .string se, .string pa] 23)) := (Fr.refl _ _).alloc _
  generalize w.alloc (.cells #[.int .i64 k, .int .i64 pu, .string so, .string ma, .string ot, .string se, .string pa] 23) = W0 at *
  generalize hR : w.heap.size = R at *
  (with_reducible refine (HCK.out _).mono ?_)
  rintro e w1 ⟨rfl, hf1⟩
  have hr1 := blk_keep hr0 hf1 (by simp)
  have hF1 := hF0.then hf1
  clear hr0 hF0 hf1 HCK
  have hr2 := alloc_keep (o := .cells #[.pointer none, .slice none 0 0] 59) hr1
  have hb2 := BldN.make 59 5 hF1 rfl
  have hcs := fun o => rq_cells (alloc_keep (o := o) hr1)
  have HRB := Lib.hid (show R ≠ w1.heap.size by have := lt_of_heap hr1; omega)
  clear hcs
  have HCR := Lib.hid (rq_cells hr2)
  go_wp2_with fail
  have hc := HCR.out
  clear HCR
  have hbw : w.heap.size ≤ w1.heap.size := hF1.size
  have hF2 := hb2.fr
  have hbld := hb2.bld
  have hnum := fun q W => HNUM.out (w1.alloc (.cells #[.pointer none, .slice none 0 0] 59)) W w1.heap.size [] hbld q
  have htxt := fun w1' W n h q => HTXT.out (w1.alloc (.cells #[.pointer none, .slice none 0 0] 59)) w1' W w1.heap.size [] n (by simp) (fun _ h => by cases h) h q
  clear HNUM HTXT hb2 hbld hF1 hr1
  generalize hW3 : w1.alloc (.cells #[.pointer none, .slice none 0 0] 59) = W3 at *
  clear hW3
  generalize w1.heap.size = b at *
  have HNUM := Lib.hid hnum
  have HTXT := Lib.hid htxt
  have HR2 := Lib.hid hr2
  have HF2 := Lib.hid hF2
  have HBW := Lib.hid hbw
  clear hnum htxt hr2 hF2 hbw
  obtain ⟨hc0, hc1, hc2, hc3, hc4, hc5, hc6⟩ := hc
  go_region_held3 (fun w' => w'.cell? ⟨R, 0, none⟩ = some (.int .i64 k) ∧ w'.cell? ⟨R, 1, none⟩ = some (.int .i64 pu) ∧ w'.cell? ⟨R, 2, none⟩ = some (.string so) ∧ w'.cell? ⟨R, 3, none⟩ = some (.string ma) ∧ w'.cell? ⟨R, 4, none⟩ = some (.string ot) ∧ w'.cell? ⟨R, 5, none⟩ = some (.string se) ∧ w'.cell? ⟨R, 6, none⟩ = some (.string pa)) (first | exact hk3 | exact hk2 | exact hk1 | go_keep)
    (first
    | (go_at_call 24; refine (HNUM.out _ _ ?_ ?_ ?_ ?_).mono ?_; (· (first | exact ((Fr.refl _ _).alloc _).drew | exact (((Fr.refl _ _).alloc _).alloc _).drew)); (· (first | omega | (simp; done) | (simp; omega))); (· (first | omega | (simp; done) | (simp; omega))); (· (first | exact (RdV.new _ _ 61 rfl rfl).drew | exact (RdV.new _ _ 61 (by simp) rfl).drew | exact ((RdV.new _ _ 61 rfl rfl).keep ((Fr.refl [] _).alloc _) (by simp)).drew)); ((rintro e w4 ⟨rfl, hkc, hnd⟩; (have hk1 := rq_cells (numDone_blk HR2.out HRB.out hnd)))))
    | (go_at_call 25; refine (HTXT.out _ _ _ hnd _ ?_ ?_ ?_ ?_).mono ?_; (· (first | exact Fr.refl _ _ | exact (Fr.refl _ _).alloc _)); (· (have := hnd.choose_spec.2.2.2.1; have := hnd.choose_spec.2.2.2.2; (first | omega | (simp at this ⊢; omega)))); (· (first | exact .inr (Nat.le_refl _) | exact .inl (by first | (simp; done) | (simp; omega)))); (· (first | exact RdV.new _ _ 9 rfl rfl | (refine RdV.keptC hkc ?_ ?_ ?_; (· (first | omega | (simp; omega))); (· (first | omega | (simp; done) | (simp; omega))); (· (first | exact (RdV.new _ _ 9 rfl rfl).drew | exact (RdV.new _ _ 9 (by simp) rfl).drew | exact ((RdV.new _ _ 9 rfl rfl).keep ((Fr.refl [] _).alloc _) (by simp)).drew))))); ((rintro e w5 ⟨rfl, hkd, HX⟩; (have hk2 := rq_cells (txtDone_blk HR2.out HRB.out HX)))))
    | (go_at_call 26; refine (strDone _ _ _ _ HX _ (Fr.refl _ _)).mono ?_; rintro e w6 ⟨rfl, HFZ⟩; (have hk3 := rq_cells (blk_keep HR2.out HFZ.out (by simpa using HRB.out)))))
  all_goals
    go_wp2_with fail
    go_ret
    exact ⟨rfl, HF2.out.trans HFZ.out (fun i hi => .inr (by have := HBW.out; simp at hi; omega))⟩

end Go.Proofs.YtbeoegppldjpoaaDoor
