/- The contract of 'few' of the statements of layer 15: so many events at most, of texts of 102 bytes at most. -/
import Derived.Test.YtngonnnjehlfbaaEvRow
import Derived.Test.YtngonnnjehlfbaaShort15
namespace Go.Proofs.Ytngonnnjehlfbaa
open Go.RowKit
set_option linter.unusedVariables false
set_option linter.unusedSimpArgs false

def evShort (e : Ev) : Ev := ⟨e.k, e.ac, e.pu, e.at', e.n, shortB e.a 102, shortB e.b 102, shortB e.c 102⟩
def evFew (l : List Ev) (n : Nat) : List Ev := (l.take n).map evShort

set_option maxHeartbeats 4000000 in
set_option maxRecDepth 100000 in
theorem few15_calls (w : World) (A : Option Addr) (cap : Nat) (l : List Ev) (n : Nat) {ni : Int} (hni : ni = n) (hn100 : n ≤ 100) (hr : EvR w A l) (hb : ∀ e, e ∈ l → e.bd) (hl : l.length ≤ maxLen) :
    Calls Try.prog 30 #[.slice A l.length cap, .int .i64 ni] w fun e w' => ∃ v r, e = .returned v ∧ SRow 56 8 w' v r (evFew l n).length ((evFew l n).flatMap Ev.cells) ∧ Fr [] w w' ∧ (∀ k, k ∈ r → w.heap.size ≤ k) := by
  subst hni
  unfold maxLen at hl
  have HR := Lib.hid hr
  have HB := Lib.hid hb
  clear hr hb
  go_enter Try.func30, Try.ntmps30
  go_wp2_with fail
  go_loopw [5, 6] (fun v5 v6 wr => ∃ (k : Nat) (r : List Nat), v6 = .int .i64 k ∧ k ≤ l.length ∧ k ≤ n ∧ Hid (SRow 56 8 wr v5 r k (((l.take k).map evShort).flatMap Ev.cells) ∧ Fr [] w wr ∧ (∀ k, k ∈ r → w.heap.size ≤ k))) (fun _ v6 _ => n - (intOf v6).toNat)
  case atStart => exact ⟨0, [], rfl, Nat.zero_le _, Nat.zero_le _, SRow.nil _ _ _, Fr.refl _ _, by simp⟩
  case round =>
    obtain ⟨i, r, rfl, hk, hk8, H⟩ := hrel
    by_cases hlk : i < l.length
    · by_cases h8 : i < n
      · obtain ⟨x, hx⟩ : ∃ x, l[i]? = some x := ⟨_, List.getElem?_eq_getElem hlk⟩
        have hxb := HB.out x (List.mem_of_getElem? hx)
        obtain ⟨ad, rfl, h0⟩ := HR.out i x hx
        obtain ⟨c0, c1, c2, c3, c4, c5, c6, c7⟩ := h0.keep H.out.2.1 (by simp)
        have hE : evShort x = ⟨x.k, x.ac, x.pu, x.at', x.n, shortB x.a 102, shortB x.b 102, shortB x.c 102⟩ := rfl
        obtain ⟨xk, xac, xpu, xat, xn, xa, xb, xc⟩ := x
        simp only at c0 c1 c2 c3 c4 c5 c6 c7 hE
        obtain ⟨-, -, -, -, -, ha, hb, hc⟩ := hxb
        simp only at ha hb hc
        unfold maxLen at ha hb hc
        have hya := fun W => (short15_calls xa 102 102 rfl W (by omega) (by decide))
        have hyb := fun W => (short15_calls xb 102 102 rfl W (by omega) (by decide))
        have hyc := fun W => (short15_calls xc 102 102 rfl W (by omega) (by decide))
        generalize shortB xa 102 = ya at *
        generalize shortB xb 102 = yb at *
        generalize shortB xc 102 = yc at *
        have HYA := Lib.hid hya
        have HYB := Lib.hid hyb
        have HYC := Lib.hid hyc
        have HX := Lib.hid hx
        have HE := Lib.hid hE
        obtain ⟨h3, h4, h5⟩ := H.out
        generalize hcs : (((l.take i).map evShort).flatMap Ev.cells) = cs at h3
        have HCS := Lib.hid hcs
        have HF4 := Lib.hid h4
        have HN5 := Lib.hid h5
        have H3 := Lib.hid h3
        clear hx h0 hya hyb hyc hE hcs H h3 h4 h5
        go_wp2_with fail
        (with_reducible refine (HYA.out _).mono ?_)
        rintro e w9 ⟨rfl, rfl⟩
        go_wp2_with fail
        (with_reducible refine (HYB.out _).mono ?_)
        rintro e w9 ⟨rfl, rfl⟩
        go_wp2_with fail
        (with_reducible refine (HYC.out _).mono ?_)
        rintro e w9 ⟨rfl, rfl⟩
        go_wp2_with (at_builtin; refine wpList_sapp rfl _ _ 49 rfl 56 Try.underlying49 _ 8 88 infoEvent rfl (by decide) u5 r i _ rfl (H3.out.keep (((Fr.refl [] _).alloc _).alloc _) (by simp)) ⟨wr.heap.size + 1, 0, none⟩ 1 1 [.int .i64 xk, .int .i64 xac, .int .i64 xpu, .int .i64 xat, .int .i64 xn, .string ya, .string yb, .string yc] rfl rfl (by exact RdV.new _ _ 56 (by simp) rfl) (by simp [Value.oneCell']) (by simp only [maxLen]; omega) (by omega) ?_)
        intro v' w2 r' h6 hf2 hn2
        clear c0 c1 c2 c3 c4 c5 c6 c7 HYA HYB HYC
        go_wp2
        have h7 : Fr r wr w2 := (((Fr.refl r wr).alloc _).alloc _).trans hf2 (fun k hk => .inl hk)
        refine ⟨⟨i + 1, r', by go_num, by omega, by omega, ?_, HF4.out.trans h7 (fun k hk => .inr (HN5.out k hk)), fun k hk => (hn2 k hk).elim (HN5.out k) (fun h => by have := HF4.out.size; first | omega | (simp at h; omega))⟩, by simp only [intOf]; omega⟩
        have hxi : l[i] = (⟨xk, xac, xpu, xat, xn, xa, xb, xc⟩ : Ev) := (List.getElem?_eq_some_iff.1 HX.out).2
        rw [List.take_succ_eq_append_getElem hlk, List.map_append, List.flatMap_append, HCS.out, hxi]
        simp only [List.map_cons, List.map_nil, HE.out, List.flatMap_cons, List.flatMap_nil, List.append_nil]
        exact h6
      · obtain rfl : i = n := by omega
        go_wp2
        go_ret
        obtain ⟨h3, h4, h5⟩ := H.out
        have hlen : (evFew l i).length = i := by
          unfold evFew
          rw [List.length_map, List.length_take]
          omega
        rw [hlen]
        exact ⟨_, r, rfl, h3, h4, h5⟩
    · obtain rfl : i = l.length := by omega
      go_wp2
      go_ret
      obtain ⟨h3, h4, h5⟩ := H.out
      have e1 : l.take l.length = l.take n := by rw [List.take_length, List.take_of_length_le (by omega)]
      have hlen : (evFew l n).length = l.length := by
        unfold evFew
        rw [List.length_map, List.length_take]
        omega
      rw [hlen]
      rw [e1] at h3
      exact ⟨_, r, rfl, h3, h4, h5⟩
end Go.Proofs.Ytngonnnjehlfbaa
