/- The contract of event.Batch. -/
import Derived.Test.YtngonnnjehlfbaaEvRow
namespace Go.Proofs.Ytngonnnjehlfbaa
open Go.RowKit
set_option linter.unusedVariables false
set_option linter.unusedSimpArgs false

def evsB : List Ev → ByteArray
  | [] => ⟨#[]⟩
  | e :: l => evB e ++ evsB l
theorem evsB_append (a b : List Ev) : evsB (a ++ b) = evsB a ++ evsB b := by
  induction a with
  | nil => simp [evsB, nil_app]
  | cons x a ih => simp only [List.cons_append, evsB, ih, app_assoc]
theorem evB_size {e : Ev} (h : e.ok = true) : (evB e).size ≤ 380 := by
  obtain ⟨⟨⟨h1, h2⟩, ⟨h3, h4⟩, ⟨h5, h6⟩, ⟨h7, h8⟩, ⟨h9, h10⟩⟩, h11, h12, h13⟩ := Ev.ok_iff h
  have hn := numsB_size [e.k, e.ac, e.pu, e.at', e.n] (by
    intro x hx
    simp only [List.mem_cons, List.not_mem_nil, or_false] at hx
    rcases hx with rfl | rfl | rfl | rfl | rfl <;> omega)
  have ha := numB_size e.a.size (by omega)
  have hb := numB_size e.b.size (by omega)
  have hc := numB_size e.c.size (by omega)
  have h0 : (⟨#[]⟩ : ByteArray).size = 0 := rfl
  simp only [evB, txtsB, txtB, ByteArray.size_append, h0, List.length_cons, List.length_nil] at hn ⊢
  omega
theorem evsB_size : ∀ (l : List Ev), (∀ e, e ∈ l → e.ok = true) → (evsB l).size ≤ 380 * l.length
  | [], _ => Nat.zero_le _
  | e :: l, h => by
    have h1 := evB_size (h e (by simp))
    have h2 := evsB_size l (fun x hx => h x (by simp [hx]))
    simp only [evsB, ByteArray.size_append, List.length_cons]
    omega
/-- What Batch gives. -/
def evBatch (l : List Ev) : ByteArray × Int := if 1 ≤ l.length ∧ l.length ≤ 24 ∧ l.all Ev.ok = true then (numB l.length ++ evsB l, 0) else (⟨#[]⟩, 1)

theorem Num1_calls (b : Nat) (r : List Nat) (s : ByteArray) (w : World) (k : Nat) (hk : k < 18446744073709551616) {n : Nat} (hn : n = w.heap.size) (h : Bld 32 5 w b r s) (hlen : s.size ≤ 1000000) :
    Calls Try.prog 16 #[.pointer (some ⟨b, 0, none⟩), .slice (some ⟨n, 0, none⟩) 1 1] (w.alloc (.cells #[.int .u64 k] 22)) fun e w' => e = .returned (.pointer (some ⟨b, 0, none⟩)) ∧ ∃ r', Bld 32 5 w' b r' (s ++ numB k) ∧ Fr (b :: r) w w' ∧ (∀ k, k ∈ r' → k ∈ r ∨ w.heap.size ≤ k) := by
  have h1 : numsB [(k : Int)] = numB k := by simp [numsB, app_nil]
  rw [← h1]
  exact Writer_NumV_calls _ bty_writer b r s w [(k : Int)] hn rfl rfl (by simp; omega) h (by simp; omega)
theorem take_all {l : List Ev} {k : Nat} {x : Ev} (hx : l[k]? = some x) : (l.take (k + 1)).all Ev.ok = ((l.take k).all Ev.ok && x.ok) := by
  rw [List.take_add_one, hx, List.all_append]
  simp
theorem not_all {l : List Ev} {k : Nat} {x : Ev} (hx : l[k]? = some x) (h : x.ok = false) : ¬ (l.all Ev.ok = true) := by
  intro ha
  rw [List.all_eq_true.1 ha x (List.mem_of_getElem? hx)] at h
  cases h

set_option maxHeartbeats 4000000 in
set_option maxRecDepth 100000 in
theorem Batch_calls (w : World) (A : Option Addr) (cap : Nat) (l : List Ev) (hr : EvR w A l) (hs : ∀ e, e ∈ l → e.short 140737488351232) (hl : l.length ≤ maxLen) :
    Calls Try.prog 28 #[.slice A l.length cap] w fun x w' => x = .returned (.tuple #[.string (evBatch l).1, .int .i64 (evBatch l).2]) ∧ Fr [] w w' := by
  unfold maxLen at hl
  have hw := fun W => within_calls (l.length : Int) 1 24 W
  by_cases hlen : 1 ≤ l.length ∧ l.length ≤ 24
  · rw [decide_eq_true (by omega : (1 : Int) ≤ (l.length : Int)), decide_eq_true (by omega : (l.length : Int) ≤ 24)] at hw
    have HW := Lib.hid hw
    have hwrap : IntKind.u64.wrap (l.length : Int) = (l.length : Int) := u64_wrap_nat (by omega)
    have HR := Lib.hid hr
    have HS := Lib.hid hs
    clear hw hr hs
    go_enter Try.func28, Try.ntmps28
    go_wp2_with fail
    (with_reducible refine (HW.out _).mono ?_)
    rintro e w1 ⟨rfl, rfl⟩
    go_wp2_with fail
    have hb0 := BldN.make 32 5 (Fr.refl [] w1) rfl
    generalize hbb : w1.heap.size = b at hb0 ⊢
    have hba : b + 1 = (w1.alloc (.cells #[.pointer none, .slice none 0 0] 32)).heap.size := by rw [← hbb]; simp
    generalize w1.alloc (.cells #[.pointer none, .slice none 0 0] 32) = W1 at hb0 hba ⊢
    (with_reducible refine (Num1_calls b [] ⟨#[]⟩ W1 l.length (by omega) hba hb0.bld (by decide)).mono ?_)
    rintro e w2 ⟨rfl, r2, h2, hf2, hn2⟩
    rw [nil_app] at h2
    have hb2 := hb0.step h2 hf2 hn2
    have HB2 := Lib.hid hb2
    have hq0 : (numB l.length).size ≤ 10 := numB_size _ (by omega)
    have HQ0 := Lib.hid hq0
    clear hb0 h2 hf2 hn2 hbb hba hb2 hq0 hwrap HW
    generalize hqq : numB l.length = q at *
    have HQ1 := Lib.hid hqq
    clear hqq
    go_wp2_with fail
    go_loopw [21] (fun v21 wr => ∃ (k : Nat) (r : List Nat), v21 = .int .i64 k ∧ k ≤ l.length ∧ Hid (BldN 32 5 w1 wr b r (q ++ evsB (l.take k)) ∧ (l.take k).all Ev.ok = true)) (fun v21 _ => l.length - (intOf v21).toNat)
    case atStart => exact ⟨0, r2, rfl, Nat.zero_le _, by rw [List.take_zero]; simp only [evsB]; rw [app_nil]; exact HB2.out, rfl⟩
    case round =>
      obtain ⟨i, r, rfl, hk, H⟩ := hrel
      by_cases hlk : i < l.length
      · obtain ⟨x, hx⟩ : ∃ x, l[i]? = some x := ⟨_, List.getElem?_eq_getElem hlk⟩
        have hxs := HS.out x (List.mem_of_getElem? hx)
        obtain ⟨ad, rfl, h0⟩ := HR.out i x hx
        obtain ⟨c0, c1, c2, c3, c4, c5, c6, c7⟩ := h0.keep H.out.1.fr (by simp)
        have hok2 : ∀ y, y ∈ l.take i → y.ok = true := List.all_eq_true.1 H.out.2
        have hsz := evsB_size _ hok2
        have htl : (l.take i).length ≤ 24 := by rw [List.length_take]; omega
        have hqs : (q ++ evsB (l.take i)).size ≤ 10000000 := by have := HQ0.out; rw [ByteArray.size_append]; omega
        have hnext : evsB (l.take (i + 1)) = evsB (l.take i) ++ evB x := by
          rw [List.take_add_one, hx, evsB_append]
          simp [evsB, app_nil]
        have hall := take_all hx
        have hno := fun h => not_all hx h
        have hput := fun W b r s => put_ok W b r s x
        have hck := fun W => Check_calls W x hxs
        have hval : x.val = .agg #[.int .i64 x.k, .int .i64 x.ac, .int .i64 x.pu, .int .i64 x.at', .int .i64 x.n, .string x.a, .string x.b, .string x.c] := rfl
        rw [hval] at hck
        have HNEXT := Lib.hid hnext
        have HALL := Lib.hid hall
        have HNO := Lib.hid hno
        have HQS := Lib.hid hqs
        clear hnext hall hno hqs hok2 hsz htl hxs hx h0 hval
        generalize x.ok = okx at *
        generalize evB x = ex at *
        obtain ⟨xk, xac, xpu, xat, xn, xa, xb, xc⟩ := x
        simp only at c0 c1 c2 c3 c4 c5 c6 c7 hck hput
        have HP := Lib.hid hput
        have HC := Lib.hid hck
        clear hput hck
        go_wp2_with fail
        have hnew := heap_alloc_new wr (.cells #[.int .i64 xk, .int .i64 xac, .int .i64 xpu, .int .i64 xat, .int .i64 xn, .string xa, .string xb, .string xc] 56)
        have hfa : Fr [] wr (wr.alloc (.cells #[.int .i64 xk, .int .i64 xac, .int .i64 xpu, .int .i64 xat, .int .i64 xn, .string xa, .string xb, .string xc] 56)) := (Fr.refl _ _).alloc _
        have hsa : wr.heap.size < (wr.alloc (.cells #[.int .i64 xk, .int .i64 xac, .int .i64 xpu, .int .i64 xat, .int .i64 xn, .string xa, .string xb, .string xc] 56)).heap.size := by simp
        clear c0 c1 c2 c3 c4 c5 c6 c7
        generalize wr.alloc (.cells #[.int .i64 xk, .int .i64 xac, .int .i64 xpu, .int .i64 xat, .int .i64 xn, .string xa, .string xb, .string xc] 56) = W at hnew hfa hsa ⊢
        (with_reducible refine (HC.out _).mono ?_)
        rintro e w3 ⟨rfl, hf3⟩
        have hnew := (hf3.block _ hsa (by simp)).trans hnew
        have hb3 := H.out.1.other (hfa.then hf3) (by simp) (by simp)
        have HB3 := Lib.hid hb3
        clear hfa hsa hf3 hb3
        cases okx with
        | false =>
          go_wp2_with fail
          (try rw [Exit.noGoto_ret])
          go_ret2
          have he : evBatch l = (⟨#[]⟩, 1) := if_neg (fun h => HNO.out trivial h.2.2)
          rw [he]
          exact ⟨rfl, HB3.out.fr⟩
        | true =>
          have c0 : w3.cell? ⟨wr.heap.size, 0, none⟩ = some (.int .i64 xk) := by rw [Lib.cell_of_heap hnew]; rfl
          have c1 : w3.cell? ⟨wr.heap.size, 1, none⟩ = some (.int .i64 xac) := by rw [Lib.cell_of_heap hnew]; rfl
          have c2 : w3.cell? ⟨wr.heap.size, 2, none⟩ = some (.int .i64 xpu) := by rw [Lib.cell_of_heap hnew]; rfl
          have c3 : w3.cell? ⟨wr.heap.size, 3, none⟩ = some (.int .i64 xat) := by rw [Lib.cell_of_heap hnew]; rfl
          have c4 : w3.cell? ⟨wr.heap.size, 4, none⟩ = some (.int .i64 xn) := by rw [Lib.cell_of_heap hnew]; rfl
          have c5 : w3.cell? ⟨wr.heap.size, 5, none⟩ = some (.string xa) := by rw [Lib.cell_of_heap hnew]; rfl
          have c6 : w3.cell? ⟨wr.heap.size, 6, none⟩ = some (.string xb) := by rw [Lib.cell_of_heap hnew]; rfl
          have c7 : w3.cell? ⟨wr.heap.size, 7, none⟩ = some (.string xc) := by rw [Lib.cell_of_heap hnew]; rfl
          clear hnew
          go_wp2_with fail
          (with_reducible refine (HP.out _ _ _ _ trivial HB3.out.bld HQS.out).mono ?_)
          rintro e w4 ⟨rfl, r4, h4, hf4, hn4⟩
          have hb4 := HB3.out.step h4 hf4 hn4
          have HB4 := Lib.hid hb4
          clear c0 c1 c2 c3 c4 c5 c6 c7 h4 hf4 hn4 hb4
          go_wp2_with fail
          refine ⟨⟨i + 1, r4, by go_num, by omega, by rw [HNEXT.out, ← app_assoc]; exact HB4.out, by rw [HALL.out, H.out.2]; rfl⟩, by simp only [intOf]; omega⟩
      · obtain rfl : i = l.length := by omega
        have hb := H.out.1
        have ha := H.out.2
        rw [List.take_length] at hb ha
        have he : evBatch l = (q ++ evsB l, 0) := by
          rw [evBatch, if_pos ⟨hlen.1, hlen.2, ha⟩, HQ1.out]
        have HE := Lib.hid he
        have HBB := Lib.hid hb
        clear he hb ha H
        generalize q ++ evsB l = t at HE HBB
        go_wp2_with fail
        (with_reducible refine (Writer_String_calls _ bty_writer _ r _ _ HBB.out.bld).mono ?_)
        rintro e w3 ⟨rfl, h3, hf3⟩
        have hF := HBB.out.fr.trans hf3 (fun k hk => .inr (HBB.out.new k (by simp [hk])))
        clear h3 hf3
        go_wp2_with fail
        (try rw [Exit.noGoto_ret])
        go_ret2
        rw [HE.out]
        exact ⟨rfl, hF⟩
  · have he : evBatch l = (⟨#[]⟩, 1) := if_neg (fun h => hlen ⟨h.1, h.2.1⟩)
    have hd : (decide ((1 : Int) ≤ (l.length : Int)) && decide ((l.length : Int) ≤ 24)) = false := by
      by_cases h1 : 1 ≤ l.length
      · rw [decide_eq_false (by omega : ¬ (l.length : Int) ≤ 24), Bool.and_false]
      · rw [decide_eq_false (by omega : ¬ (1 : Int) ≤ (l.length : Int)), Bool.false_and]
    rw [hd] at hw
    rw [he]
    have HW := Lib.hid hw
    clear hw hr hs he hd
    go_enter Try.func28, Try.ntmps28
    go_wp2_with fail
    (with_reducible refine (HW.out _).mono ?_)
    rintro e w1 ⟨rfl, rfl⟩
    go_wp2_with fail
    go_ret2
    exact ⟨rfl, Fr.refl _ _⟩
end Go.Proofs.Ytngonnnjehlfbaa
