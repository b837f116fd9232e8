/- The contract of the document's now. -/
import Derived.Test.YtndenbcdhbnamaaRPut
namespace Go.Proofs.Ytndenbcdhbnamaa
open Go.RowKit
set_option linter.unusedVariables false
set_option linter.unusedSimpArgs false

theorem nowB_take (st : ByteArray) (wl : List (Nat × ByteArray)) (k : Nat) (h : k < wl.length) {x : Nat × ByteArray} (hx : wl[k] = x) : nowB st (wl.take (k + 1)) = ovB (nowB st (wl.take k)) x.1 x.2 := by
  rw [List.take_succ_eq_append_getElem h, hx, nowB_snoc]
theorem nowB_take_size (st : ByteArray) (wl : List (Nat × ByteArray)) (k : Nat) (h : ∀ x, x ∈ wl → x.1 + x.2.size ≤ st.size) : (nowB st (wl.take k)).size = st.size := nowB_size st _ (fun x hx => h x (List.mem_of_mem_take hx))

set_option maxHeartbeats 1000000 in
set_option maxRecDepth 100000 in
theorem rnow_calls (w : World) (b : Nat) (vs : Value) (rs : List Nat) (v : Value) (r : List Nat) (st : ByteArray) (wl : List (Nat × ByteArray)) (left : Int) (bad : Bool) (h : RK w b vs rs v r st wl left bad) (h0 : 0 < st.size) :
    Calls Try.prog 32 #[.pointer (some ⟨b, 0, none⟩)] w fun e w' => ∃ A cap r', e = .returned (.slice A st.size cap) ∧ SRow 5 1 w' (.slice A st.size cap) r' st.size (Lib.strCells (nowB st wl)) ∧ Fr [] w w' ∧ (∀ k, k ∈ r' → k ∈ rs ∨ w.heap.size ≤ k) := by
  obtain ⟨A, cap, rfl, hwc, hcap, hrd, hA⟩ := h.wait.reads
  obtain ⟨As, caps, rfl, hwcs, hcaps, hrds, hAs⟩ := h.stay.reads
  have c1 : w.cell? ⟨b, 1, none⟩ = some (.slice A wl.length cap) := by rw [Lib.cell_of_heap h.blk]; rfl
  have c0 : w.cell? ⟨b, 0, none⟩ = some (.slice As st.size caps) := by rw [Lib.cell_of_heap h.blk]; rfl
  have HH := Lib.hid h
  have HRD := Lib.hid hrd
  have hbig := h.big
  have hmost := h.most
  clear h hrd hrds
  go_enter Try.func32, Try.ntmps32
  go_wp2_with fail
  go_loopw [3, 4] (fun v3 v4 wr => ∃ (k : Nat) (Ax : Option Addr) (cx : Nat) (rx : List Nat), v3 = .slice Ax st.size cx ∧ v4 = .int .i64 k ∧ k ≤ wl.length ∧ Hid (SRow 5 1 wr (.slice Ax st.size cx) rx st.size (Lib.strCells (nowB st (wl.take k))) ∧ Fr [] w wr ∧ (∀ k, k ∈ rx → k ∈ rs ∨ w.heap.size ≤ k))) (fun _ v4 _ => wl.length - (intOf v4).toNat)
  case atStart => exact ⟨0, As, caps, rs, rfl, rfl, Nat.zero_le _, HH.out.stay, Fr.refl _ _, fun _ h => .inl h⟩
  case round =>
    obtain ⟨k, Ax, cx, rx, rfl, rfl, hk, H⟩ := hrel
    have c1' := H.out.2.1.cell' c1 (by simp)
    by_cases hlt : k < wl.length
    · obtain ⟨x, hx⟩ : ∃ x, wl[k] = x := ⟨_, rfl⟩
      obtain ⟨at', t⟩ := x
      have hfit : at' + t.size ≤ st.size := HH.out.fit (at', t) (by rw [← hx]; exact List.getElem_mem hlt)
      have hw0 : (wcells wl)[k * 2]? = some (.int .i64 at') := by rw [wcells_get hlt hx]
      have hw1 : (wcells wl)[k * 2 + 1]? = some (.string t) := by rw [wcells_get1 hlt hx]
      obtain ⟨ad, rfl, hc0⟩ := HRD.out (k * 2) _ hw0
      obtain ⟨ad', hada, hc1⟩ := HRD.out (k * 2 + 1) _ hw1
      injection hada with hada
      subst hada
      obtain ⟨g, rfl, hrg⟩ := srow_addr HH.out.wait _ rfl
      have e0 : (⟨g, 0, none⟩ : Addr).add (k * 2) = ⟨g, k * 2, none⟩ := by rw [Addr.add_lit, Nat.zero_add]
      have e1 : (⟨g, 0, none⟩ : Addr).add (k * 2 + 1) = ⟨g, k * 2 + 1, none⟩ := by rw [Addr.add_lit, Nat.zero_add]
      rw [e0] at hc0
      rw [e1] at hc1
      have hc0' := H.out.2.1.cell' hc0 (by simp)
      have hc1' := H.out.2.1.cell' hc1 (by simp)
      have hN := nowB_take st wl k hlt hx
      have hNS := nowB_take_size st wl k HH.out.fit
      have hNS1 := nowB_take_size st wl (k + 1) HH.out.fit
      clear e0 e1 hw0 hw1 hc0 hc1 hx
      obtain ⟨Ay, cy, hsl, hcx, hcm, hrx, hblk⟩ := H.out.1.reads
      injection hsl with hs1 hs2 hs3
      subst hs1 hs3
      try clear hs2
      generalize nowB st (wl.take k) = N at H hN hNS hrx
      have hp := rput_calls wr Ax cx N hrx at' rfl t (by omega) (by omega) (by omega) (by omega) hcm
      rw [← hN, hNS] at hp
      have HPU := Lib.hid hp
      clear hp hrx hcm hN hcx hblk
      go_wp2_with fail
      (with_reducible refine HPU.out.mono ?_)
      rintro e w3 ⟨v3, r3, rfl, h3, hf3, hn3⟩
      obtain ⟨A3, cap3, rfl, -, -, -, -⟩ := h3.reads
      have hF3 : Fr [] w w3 := H.out.2.1.then hf3
      have hr3 : ∀ k, k ∈ r3 → k ∈ rs ∨ w.heap.size ≤ k := fun k hk => .inr (Nat.le_trans H.out.2.1.size (hn3 k hk))
      have H3 := Lib.hid (And.intro h3 (And.intro hF3 hr3))
      clear h3 hF3 hr3 hf3 hn3 HPU H hc0' hc1' c1'
      go_wp2_with fail
      exact ⟨⟨k + 1, A3, cap3, r3, rfl, by go_num, by omega, H3⟩, by simp only [intOf]; omega⟩
    · obtain rfl : k = wl.length := by omega
      rw [List.take_length] at H
      go_wp2_with fail
      go_ret
      exact ⟨_, _, _, rfl, H.out⟩
end Go.Proofs.Ytndenbcdhbnamaa
