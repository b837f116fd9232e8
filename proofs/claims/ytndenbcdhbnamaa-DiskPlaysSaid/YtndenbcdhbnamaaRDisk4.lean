/- The contract of the document's Pending. -/
import Derived.Test.YtndenbcdhbnamaaRDisk2
namespace Go.Proofs.Ytndenbcdhbnamaa
open Go.RowKit
set_option linter.unusedVariables false
set_option linter.unusedSimpArgs false

/-- The same as pend (Disk6), which this text does not import. -/
def rpend (wl : List (Nat × ByteArray)) : Nat := (wl.map fun x => x.2.size).sum
set_option maxHeartbeats 1000000 in
set_option maxRecDepth 100000 in
theorem rpending_calls (w : World) (b : Nat) (vs : Value) (rs : List Nat) (v : Value) (r : List Nat) (st : ByteArray) (wl : List (Nat × ByteArray)) (left : Int) (bad : Bool) (h : RK w b vs rs v r st wl left bad) :
    Calls Try.prog 25 #[.pointer (some ⟨b, 0, none⟩)] w fun e w' => e = .returned (.int .i64 (rpend wl)) ∧ w' = w := by
  obtain ⟨A, cap, rfl, hwc, hcap, hrd, hA⟩ := h.wait.reads
  have c2 : w.cell? ⟨b, 1, none⟩ = some (.slice A wl.length cap) := by rw [Lib.cell_of_heap h.blk]; rfl
  have HH := Lib.hid h
  have HRD := Lib.hid hrd
  have hbig := h.big
  have hmost := h.most
  clear h hrd
  go_enter Try.func25, Try.ntmps25
  go_wp2_with fail
  go_loop [3, 4] (fun v3 v4 => ∃ (k s : Nat), v3 = .int .i64 s ∧ v4 = .int .i64 k ∧ k ≤ wl.length ∧ s ≤ k * 131072 ∧ Hid (s = rpend (wl.take k))) (fun _ v4 => wl.length - (intOf v4).toNat)
  case atStart => exact ⟨0, 0, rfl, rfl, Nat.zero_le _, by omega, Lib.hid rfl⟩
  case round =>
    obtain ⟨k, s, rfl, rfl, hk, hs, H⟩ := hrel
    by_cases hlt : k < wl.length
    · obtain ⟨x, hx⟩ : ∃ x, wl[k] = x := ⟨_, rfl⟩
      obtain ⟨at', t⟩ := x
      have hfit : at' + t.size ≤ st.size := HH.out.fit (at', t) (by rw [← hx]; exact List.getElem_mem hlt)
      have hw1 : (wcells wl)[k * 2 + 1]? = some (.string t) := by rw [wcells_get1 hlt hx]
      have hp : rpend (wl.take (k + 1)) = rpend (wl.take k) + t.size := by
        rw [List.take_succ_eq_append_getElem hlt, hx]
        simp [rpend]
      obtain ⟨ad, rfl, hc1⟩ := HRD.out (k * 2 + 1) _ hw1
      obtain ⟨g, rfl, hrg⟩ := srow_addr HH.out.wait _ rfl
      have e1 : (⟨g, 0, none⟩ : Addr).add (k * 2 + 1) = ⟨g, k * 2 + 1, none⟩ := by rw [Addr.add_lit, Nat.zero_add]
      rw [e1] at hc1
      have HP := Lib.hid hp
      clear e1 hw1 hx hp
      go_wp2_with fail
      exact ⟨⟨k + 1, s + t.size, by go_num, by go_num, by omega, by omega, Lib.hid (by rw [HP.out, ← H.out])⟩, by simp only [intOf]; omega⟩
    · obtain rfl : k = wl.length := by omega
      have hE := H.out
      rw [List.take_length] at hE
      subst hE
      clear H
      go_wp2_with fail
      go_ret
      exact ⟨rfl, rfl⟩
end Go.Proofs.Ytndenbcdhbnamaa
