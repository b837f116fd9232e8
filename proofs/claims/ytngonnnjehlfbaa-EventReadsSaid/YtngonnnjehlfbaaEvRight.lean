/- The contract of 'right' of the statements of layer 15: at most 24 events, made right. -/
import Derived.Test.YtngonnnjehlfbaaEvRow
import Derived.Test.YtngonnnjehlfbaaShort15
import Derived.Deep.RegionHeld3
import Derived.Deep.AppendLies
namespace Go.Proofs.Ytngonnnjehlfbaa
open Go.RowKit
set_option linter.unusedVariables false
set_option linter.unusedSimpArgs false

section
variable {P : Program} {w : World} {ops : Array Oper} {rest : List Oper} {o : Oper} {a : Act} {Q : Exit → Act → World → Prop}
/-- append(v, ..) of m elements whose cells are read at an address, at a step of a region that draws its order. -/
theorem step_sapp {K : Act → World → Prop} {E : Prop} (hgd : o.guard = none) (sl x : Operand) (t : TypeId)
    (ho : o.op = .call { callee := .builtin .append, args := #[sl, x], argTypes := #[t, t] }) (e : TypeId) (ht : P.underlying t = some (.slice e)) (z : Value) (sz bytes : Nat)
    (hinfo : (P.info? e).map (fun i => (i.zero, i.size, i.bytes)) = some (some z, sz, bytes)) (hzs : z.cells.size = sz) (hsz : 0 < sz)
    (v : Value) (r : List Nat) (n : Nat) (xs : List Value) (hs : a.eval sl = v) (h : SRow e sz w v r n xs) (ad : Addr) (m c : Nat) (news : List Value) (hx : a.eval x = .slice (some ad) m c) (hl : news.length = m * sz)
    (hnews : RdV w (some ad) news) (h1 : ∀ u ∈ news, u.oneCell' = true) (hm : 0 < m) (h63 : n + m ≤ maxLen) (hbytes : (n + m) * bytes ≤ 140737488355328)
    (hK : ∀ v' w' r', SRow e sz w' v' r' (n + m) (xs ++ news) → Fr r w w' → (∀ k, k ∈ r' → k ∈ r ∨ w.heap.size ≤ k) → K (a.put o.dst v') w') :
    if Region.wanted o (yielded ops a.tmps) = true then Oper.wp P o a w K Q else E := by
  obtain ⟨i, hi, hz, hs1, hb1⟩ := info_parts hinfo
  obtain ⟨h2, h3⟩ := h
  refine step_append_lies w hgd sl x t ho 0 e i z sz bytes ht hi hz hs1 hb1 hzs hsz v n xs hs h2 ad m c news hx hl (fun j u hu => by
    obtain ⟨ad', ha, hc⟩ := hnews j u hu
    injection ha with ha
    rw [ha]
    exact hc) h1 hm h63 hbytes (Nat.zero_le _) _ rfl ?_
  intro g cap w' h4 h5 h6 _
  refine hK _ w' [g] ⟨h4, rfl⟩ ⟨h5.os, h5.tape, h5.output, h5.size, fun k hk hn => h5.block k hk (fun e => hn (by rw [h3, ← e]; simp))⟩ ?_
  intro k hk
  obtain rfl : k = g := by simpa using hk
  rcases h6 with h6 | h6
  · exact .inl (by rw [h3, h6]; simp)
  · exact .inr (by omega)
end

set_option maxHeartbeats 4000000 in
set_option maxRecDepth 100000 in
theorem right_calls (w : World) (A : Option Addr) (cap : Nat) (l : List Ev) (hr : EvR w A l) (hb : ∀ e, e ∈ l → e.bd) (hl : l.length ≤ maxLen) :
    Calls Try.prog 27 #[.slice A l.length cap] w fun e w' => ∃ v r, e = .returned v ∧ SRow 56 8 w' v r (evRights l).length ((evRights l).flatMap Ev.cells) ∧ Fr [] w w' ∧ (∀ k, k ∈ r → w.heap.size ≤ k) := by
  unfold maxLen at hl
  have HR := Lib.hid hr
  have HB := Lib.hid hb
  clear hr hb
  go_enter Try.func27, Try.ntmps27
  go_wp2_with fail
  go_loopw [3, 4] (fun v3 v4 wr => ∃ (k : Nat) (r : List Nat), v4 = .int .i64 k ∧ k ≤ l.length ∧ k ≤ 24 ∧ Hid (SRow 56 8 wr v3 r k (((l.take k).map evRight).flatMap Ev.cells) ∧ Fr [] w wr ∧ (∀ k, k ∈ r → w.heap.size ≤ k))) (fun _ v4 _ => 24 - (intOf v4).toNat)
  case atStart => exact ⟨0, [], rfl, Nat.zero_le _, Nat.zero_le _, SRow.nil _ _ _, Fr.refl _ _, by simp⟩
  case round =>
    obtain ⟨i, r, rfl, hk, hk8, H⟩ := hrel
    by_cases hlk : i < l.length
    · by_cases h8 : i < 24
      · obtain ⟨x, hx⟩ : ∃ x, l[i]? = some x := ⟨_, List.getElem?_eq_getElem hlk⟩
        have hxb := HB.out x (List.mem_of_getElem? hx)
        obtain ⟨ad, rfl, h0⟩ := HR.out i x hx
        obtain ⟨c0, c1, c2, c3, c4, c5, c6, c7⟩ := h0.keep H.out.2.1 (by simp)
        obtain ⟨xk, xac, xpu, xat, xn, xa, xb, xc⟩ := x
        simp only at c0 c1 c2 c3 c4 c5 c6 c7
        obtain ⟨hb0, hb1, hb2, hb3, hb4, ha, hb, hc⟩ := hxb
        simp only at ha hb hc
        unfold maxLen at ha hb hc
        have HX := Lib.hid hx
        clear hx h0
        go_wp2_with fail
        obtain ⟨T, hT, hT0, hT1⟩ : ∃ T, xk.tmod 21 = T ∧ -21 < T ∧ T < 21 := ⟨_, rfl, Int.lt_tmod_of_pos _ (by decide), Int.tmod_lt_of_pos _ (by decide)⟩
        obtain ⟨q, hq, hqx, hq21⟩ : ∃ q : Nat, (T + 21).tmod 21 = (q : Int) ∧ (q : Int) = xk % 21 ∧ q < 21 := ⟨(xk % 21).toNat, by rw [← hT, rem21]; omega, by omega, by omega⟩
        obtain ⟨m1, hm1, hm1'⟩ : ∃ m, bits BinOp.and IntKind.i64 xac 63 = m ∧ m = xac % 64 := ⟨_, i64_and63 _, rfl⟩
        obtain ⟨m2, hm2, hm2'⟩ : ∃ m, bits BinOp.and IntKind.i64 xpu 7 = m ∧ m = xpu % 8 := ⟨_, i64_and7 _, rfl⟩
        obtain ⟨m3, hm3, hm3'⟩ : ∃ m, bits BinOp.and IntKind.i64 xat 1099511627775 = m ∧ m = xat % 1099511627776 := ⟨_, i64_and1099511627775 _, rfl⟩
        obtain ⟨m4, hm4, hm4'⟩ : ∃ m, bits BinOp.and IntKind.i64 xn 1099511627775 = m ∧ m = xn % 1099511627776 := ⟨_, i64_and1099511627775 _, rfl⟩
        have hw1 : IntKind.i64.wrap (T + 21) = T + 21 := by rw [IntKind.wrap_i64]; omega
        have hw2 : IntKind.i64.wrap (1 + (q : Int)) = 1 + (q : Int) := by rw [IntKind.wrap_i64]; omega
        have hE : evRight ⟨xk, xac, xpu, xat, xn, xa, xb, xc⟩ = ⟨1 + (q : Int), m1, m2, m3, m4, shortB xa 100, shortB xb 100, shortB xc 100⟩ := by
          simp only [evRight, hm1', hm2', hm3', hm4', hqx]
        have HE := Lib.hid hE
        clear hqx hm1' hm2' hm3' hm4' hE hT0 hT1
        obtain ⟨h3, h4, h5⟩ := H.out
        have h3lt := h3.lt
        generalize hcs : (((l.take i).map evRight).flatMap Ev.cells) = cs at h3
        have HCS := Lib.hid hcs
        have HF4 := Lib.hid h4
        have HN5 := Lib.hid h5
        have H3 := Lib.hid h3
        clear hcs H h3 h4 h5 c0 c1 c2 c3 c4 c5 c6 c7
        have hya := fun W => (short15_calls xa 100 100 rfl W (by omega) (by decide))
        have hyb := fun W => (short15_calls xb 100 100 rfl W (by omega) (by decide))
        have hyc := fun W => (short15_calls xc 100 100 rfl W (by omega) (by decide))
        generalize shortB xa 100 = ya at *
        generalize shortB xb 100 = yb at *
        generalize shortB xc 100 = yc at *
        have HYA := Lib.hid hya
        have HYB := Lib.hid hyb
        have HYC := Lib.hid hyc
        have hnew := heap_alloc_new wr (.cells #[.int .i64 xk, .int .i64 xac, .int .i64 xpu, .int .i64 xat, .int .i64 xn, .string xa, .string xb, .string xc] 56)
        obtain ⟨W, hW⟩ : ∃ W, W = wr.alloc (.cells #[.int .i64 xk, .int .i64 xac, .int .i64 xpu, .int .i64 xat, .int .i64 xn, .string xa, .string xb, .string xc] 56) := ⟨_, rfl⟩
        have hfW : Fr [] wr W := by rw [hW]; exact (Fr.refl _ _).alloc _
        rw [← hW] at hnew ⊢
        have hsW : W.heap.size = wr.heap.size + 1 := by rw [hW]; simp
        clear hya hyb hyc hW
        have c0 : W.cell? ⟨wr.heap.size, 0, none⟩ = some (.int .i64 xk) := by rw [Lib.cell_of_heap hnew]; rfl
        have c1 : W.cell? ⟨wr.heap.size, 1, none⟩ = some (.int .i64 xac) := by rw [Lib.cell_of_heap hnew]; rfl
        have c2 : W.cell? ⟨wr.heap.size, 2, none⟩ = some (.int .i64 xpu) := by rw [Lib.cell_of_heap hnew]; rfl
        have c3 : W.cell? ⟨wr.heap.size, 3, none⟩ = some (.int .i64 xat) := by rw [Lib.cell_of_heap hnew]; rfl
        have c4 : W.cell? ⟨wr.heap.size, 4, none⟩ = some (.int .i64 xn) := by rw [Lib.cell_of_heap hnew]; rfl
        have c5 : W.cell? ⟨wr.heap.size, 5, none⟩ = some (.string xa) := by rw [Lib.cell_of_heap hnew]; rfl
        have c6 : W.cell? ⟨wr.heap.size, 6, none⟩ = some (.string xb) := by rw [Lib.cell_of_heap hnew]; rfl
        have c7 : W.cell? ⟨wr.heap.size, 7, none⟩ = some (.string xc) := by rw [Lib.cell_of_heap hnew]; rfl
        have hBr : wr.heap.size ∉ r := fun hm => by have := h3lt _ hm; omega
        have HSW := Lib.hid hsW
        have HFW := Lib.hid hfW
        have H3W := Lib.hid (H3.out.keep hfW (by simp))
        clear hnew hsW hfW h3lt
        generalize wr.heap.size = B at *
        go_region_held3 (fun w' => w'.cell? ⟨B, 0, none⟩ = some (.int .i64 xk) ∧ w'.cell? ⟨B, 1, none⟩ = some (.int .i64 xac) ∧ w'.cell? ⟨B, 2, none⟩ = some (.int .i64 xpu) ∧ w'.cell? ⟨B, 3, none⟩ = some (.int .i64 xat) ∧ w'.cell? ⟨B, 4, none⟩ = some (.int .i64 xn) ∧ w'.cell? ⟨B, 5, none⟩ = some (.string xa) ∧ w'.cell? ⟨B, 6, none⟩ = some (.string xb) ∧ w'.cell? ⟨B, 7, none⟩ = some (.string xc))
          (first | exact s8_keep (fun j v h => hf2.cell' h hBr) (by assumption) | go_keep)
          (first
          | (go_at_call 48; with_reducible refine (HYA.out _).mono ?_; rintro e w9 ⟨rfl, rfl⟩)
          | (go_at_call 48; with_reducible refine (HYB.out _).mono ?_; rintro e w9 ⟨rfl, rfl⟩)
          | (go_at_call 48; with_reducible refine (HYC.out _).mono ?_; rintro e w9 ⟨rfl, rfl⟩)
          | (refine step_sapp (by rfl) _ _ 49 (by rfl) 56 Try.underlying49 _ 8 88 infoEvent rfl (by decide) u3 r i cs (by rfl) (H3W.out.keep (((Fr.refl [] _).alloc _).drew) (by simp)) ⟨W.heap.size, 0, none⟩ 1 1 [.int .i64 (1 + (q : Int)), .int .i64 m1, .int .i64 m2, .int .i64 m3, .int .i64 m4, .string ya, .string yb, .string yc] (by rfl) (by rfl) (RdV.drew (RdV.new _ _ 56 rfl rfl)) (by simp [Value.oneCell']) (by decide) (by simp only [maxLen]; omega) (by omega) ?_; intro v' w2 r' h6 hf2 hn2))
        all_goals
          clear HYA HYB HYC hT hq hm1 hm2 hm3 hm4 hw1 hw2 c0 c1 c2 c3 c4 c5 c6 c7
          go_wp2
          have h7 : Fr r W w2 := (((Fr.refl r W).alloc _).drew).trans hf2 (fun k hk => .inl hk)
          refine ⟨⟨i + 1, r', by go_num, by omega, by omega, ?_, HF4.out.trans (HFW.out.mono (fun _ h _ => by cases h) |>.trans h7 (fun k hk => .inl hk)) (fun k hk => .inr (HN5.out k hk)), fun k hk => (hn2 k hk).elim (HN5.out k) (fun h => by have h8 := HF4.out.size; have h9 := HSW.out; have h10 := HFW.out.size; simp at h; omega)⟩, by simp only [intOf]; omega⟩
          have hxi : l[i] = (⟨xk, xac, xpu, xat, xn, xa, xb, xc⟩ : Ev) := (List.getElem?_eq_some_iff.1 HX.out).2
          rw [List.take_succ_eq_append_getElem hlk, List.map_append, List.flatMap_append, HCS.out, hxi]
          simp only [List.map_cons, List.map_nil, HE.out, List.flatMap_cons, List.flatMap_nil, List.append_nil]
          exact h6
      · obtain rfl : i = 24 := by omega
        go_wp2
        go_ret
        obtain ⟨h3, h4, h5⟩ := H.out
        have hlen : (evRights l).length = 24 := by
          unfold evRights
          rw [List.length_map, List.length_take]
          omega
        rw [hlen]
        exact ⟨_, r, rfl, h3, h4, h5⟩
    · obtain rfl : i = l.length := by omega
      go_wp2
      go_ret
      obtain ⟨h3, h4, h5⟩ := H.out
      have e1 : l.take l.length = l.take 24 := by rw [List.take_length, List.take_of_length_le (by omega)]
      have hlen : (evRights l).length = l.length := by
        unfold evRights
        rw [List.length_map, List.length_take]
        omega
      rw [hlen]
      rw [e1] at h3
      exact ⟨_, r, rfl, h3, h4, h5⟩
end Go.Proofs.Ytngonnnjehlfbaa
