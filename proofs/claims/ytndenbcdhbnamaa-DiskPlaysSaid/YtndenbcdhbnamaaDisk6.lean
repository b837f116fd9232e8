/- Contracts of the disk: Pending, Sync, Break, Broken, Size; of none. -/
import Derived.Test.YtndenbcdhbnamaaDisk5
namespace Go.Proofs.Ytndenbcdhbnamaa
open Go.RowKit
set_option linter.unusedVariables false
set_option linter.unusedSimpArgs false

def pend (wl : List (Nat × ByteArray)) : Nat := (wl.map fun x => x.2.size).sum

set_option maxHeartbeats 1000000 in
set_option maxRecDepth 100000 in
theorem Pending_calls (w : World) (b ps pn : Nat) (v : Value) (r : List Nat) (st nw : ByteArray) (wl : List (Nat × ByteArray)) (left : Int) (bad : Bool) (h : DK w b ps pn v r st nw wl left bad) :
    Calls Try.prog 13 #[.pointer (some ⟨b, 0, none⟩)] w fun e w' => e = .returned (.int .i64 (pend wl)) ∧ Fr [] w w' := by
  obtain ⟨A, cap, rfl, hwc, hcap, hrd, hA⟩ := h.wait.reads
  have c2 : w.cell? ⟨b, 2, none⟩ = some (.slice A wl.length cap) := by rw [Lib.cell_of_heap h.blk]; rfl
  have HH := Lib.hid h
  have HRD := Lib.hid hrd
  have hbig := h.big
  have hmost := h.most
  clear h hrd
  go_enter Try.func13, Try.ntmps13
  go_wp2_with fail
  go_loopw [3, 13] (fun v3 v13 wr => ∃ (k s : Nat), v3 = .int .i64 s ∧ v13 = .int .i64 k ∧ k ≤ wl.length ∧ s ≤ k * 131072 ∧ Hid (Fr [] w wr ∧ s = pend (wl.take k))) (fun _ v13 _ => wl.length - (intOf v13).toNat)
  case atStart => exact ⟨0, 0, rfl, rfl, Nat.zero_le _, by omega, Fr.refl _ _, rfl⟩
  case round =>
    obtain ⟨k, s, rfl, rfl, hk, hs, H⟩ := hrel
    by_cases hlt : k < wl.length
    · obtain ⟨x, hx⟩ : ∃ x, wl[k] = x := ⟨_, rfl⟩
      obtain ⟨at', t⟩ := x
      have hfit : at' + t.size ≤ st.size := HH.out.fit (at', t) (by rw [← hx]; exact List.getElem_mem hlt)
      have hw0 : (wcells wl)[k * 2]? = some (.int .i64 at') := by rw [wcells_get hlt hx]
      have hw1 : (wcells wl)[k * 2 + 1]? = some (.string t) := by rw [wcells_get1 hlt hx]
      have hp : pend (wl.take (k + 1)) = pend (wl.take k) + t.size := by
        rw [List.take_succ_eq_append_getElem hlt, hx]
        simp [pend]
      obtain ⟨ad, rfl, hc0⟩ := HRD.out (k * 2) _ hw0
      obtain ⟨ad', hada, hc1⟩ := HRD.out (k * 2 + 1) _ hw1
      injection hada with hada
      subst hada
      obtain ⟨g, rfl, hrg⟩ := srow_addr HH.out.wait _ rfl
      have e0 : (⟨g, 0, none⟩ : Addr).add (k * 2) = ⟨g, k * 2, none⟩ := by rw [Addr.add_lit, Nat.zero_add]
      have e1 : (⟨g, 0, none⟩ : Addr).add (k * 2 + 1) = ⟨g, k * 2 + 1, none⟩ := by rw [Addr.add_lit, Nat.zero_add]
      rw [e0] at hc0
      rw [e1] at hc1
      have hc0' := H.out.1.cell' hc0 (by simp)
      have hc1' := H.out.1.cell' hc1 (by simp)
      have HP := Lib.hid hp
      have hF := H.out.1
      clear e0 e1 hw0 hw1 hc0 hc1 hx hp
      go_wp2_with fail
      refine ⟨⟨k + 1, s + t.size, by go_num, by go_num, by omega, by omega, hF.alloc _, by rw [HP.out, ← H.out.2]⟩, by simp only [intOf]; omega⟩
    · obtain rfl : k = wl.length := by omega
      have hE := H.out.2
      rw [List.take_length] at hE
      subst hE
      have hF := H.out.1
      clear H
      go_wp2_with fail
      go_ret
      exact ⟨rfl, hF⟩

set_option maxHeartbeats 400000 in
set_option maxRecDepth 100000 in
theorem Sync_calls (w : World) (b ps pn : Nat) (v : Value) (r : List Nat) (st nw : ByteArray) (wl : List (Nat × ByteArray)) (left : Int) (h : DK w b ps pn v r st nw wl left false) (hl : left ≠ 1) :
    Calls Try.prog 16 #[.pointer (some ⟨b, 0, none⟩)] w fun e w' => e = .returned (.int .i64 0) ∧ ∃ v', DK w' b ps pn v' r nw nw [] (stepL left) false ∧ Fr (b :: ps :: r) w w' := by
  have c4 : w.cell? ⟨b, 4, none⟩ = some (.bool false) := by rw [Lib.cell_of_heap h.blk]; rfl
  have hst := step_calls w b ps pn v r st nw wl left false h
  have e1 : stepB left false = false := by
    have : (left == 1) = false := beq_eq_false_iff_ne.2 hl
    rw [stepB, this]
    rfl
  rw [e1] at hst
  have HST := Lib.hid hst
  clear hst e1
  have hsz := h.size
  go_enter Try.func16, Try.ntmps16
  go_wp2_with fail
  (with_reducible refine HST.out.mono ?_)
  rintro e w1 ⟨rfl, h1, hf1⟩
  have c0 : w1.cell? ⟨b, 0, none⟩ = some (.slice (some ⟨ps, 0, none⟩) st.size st.size) := by rw [Lib.cell_of_heap h1.blk]; rfl
  clear HST
  go_wp2_with fail
  (with_reducible refine (drop_calls _ b ps pn v r st nw wl (stepL left) false h1 st.size rfl (Nat.le_refl _)).mono ?_)
  rintro e w2 ⟨rfl, v', h2, hf2⟩
  have e2 : ovB st 0 (nw.extract 0 st.size) = nw := by
    rw [← hsz, ByteArray.extract_zero_size]
    exact ovB_all hsz
  rw [e2] at h2
  have hF : Fr (b :: ps :: r) w w2 := (hf1.mono (fun x hx _ => by simp at hx; simp [hx])).trans hf2 (fun x hx => .inl hx)
  clear h1 hf1 hf2 e2 c0
  go_wp2_with fail
  go_ret
  exact ⟨rfl, v', h2, hF⟩

set_option maxHeartbeats 400000 in
set_option maxRecDepth 100000 in
/-- A broken disk does nothing. -/
theorem Sync_bad_calls (w : World) (b ps pn : Nat) (v : Value) (r : List Nat) (st nw : ByteArray) (wl : List (Nat × ByteArray)) (left : Int) (h : DK w b ps pn v r st nw wl left true) :
    Calls Try.prog 16 #[.pointer (some ⟨b, 0, none⟩)] w fun e w' => e = .returned (.int .i64 18) ∧ w = w' := by
  have c4 : w.cell? ⟨b, 4, none⟩ = some (.bool true) := by rw [Lib.cell_of_heap h.blk]; rfl
  clear h
  go_enter Try.func16, Try.ntmps16
  go_wp2
  go_ret
  exact ⟨rfl, rfl⟩

set_option maxHeartbeats 400000 in
set_option maxRecDepth 100000 in
theorem Broken_calls (w : World) (b ps pn : Nat) (v : Value) (r : List Nat) (st nw : ByteArray) (wl : List (Nat × ByteArray)) (left : Int) (bad : Bool) (h : DK w b ps pn v r st nw wl left bad) :
    Calls Try.prog 18 #[.pointer (some ⟨b, 0, none⟩)] w fun e w' => e = .returned (.bool bad) ∧ w = w' := by
  have c4 : w.cell? ⟨b, 4, none⟩ = some (.bool bad) := by rw [Lib.cell_of_heap h.blk]; rfl
  clear h
  go_enter Try.func18, Try.ntmps18
  go_wp2
  go_ret
  exact ⟨rfl, rfl⟩

set_option maxHeartbeats 400000 in
set_option maxRecDepth 100000 in
theorem Size_calls (w : World) (b ps pn : Nat) (v : Value) (r : List Nat) (st nw : ByteArray) (wl : List (Nat × ByteArray)) (left : Int) (bad : Bool) (h : DK w b ps pn v r st nw wl left bad) :
    Calls Try.prog 26 #[.pointer (some ⟨b, 0, none⟩)] w fun e w' => e = .returned (.int .i64 st.size) ∧ w = w' := by
  have c0 : w.cell? ⟨b, 0, none⟩ = some (.slice (some ⟨ps, 0, none⟩) st.size st.size) := by rw [Lib.cell_of_heap h.blk]; rfl
  clear h
  go_enter Try.func26, Try.ntmps26
  go_wp2
  go_ret
  exact ⟨rfl, rfl⟩

set_option maxHeartbeats 400000 in
set_option maxRecDepth 100000 in
theorem Write_bad_calls (w : World) (b ps pn : Nat) (v : Value) (r : List Nat) (st nw : ByteArray) (wl : List (Nat × ByteArray)) (left : Int) (h : DK w b ps pn v r st nw wl left true) (k : Nat) {ki : Int} (hki : ki = k) (s : ByteArray) (hks : k + s.size ≤ st.size) :
    Calls Try.prog 12 #[.pointer (some ⟨b, 0, none⟩), .int .i64 ki, .string s] w fun e w' => e = .returned (.int .i64 18) ∧ w = w' := by
  subst hki
  have c4 : w.cell? ⟨b, 4, none⟩ = some (.bool true) := by rw [Lib.cell_of_heap h.blk]; rfl
  have hb := h.big
  have hd : decide ((0 : Int) ≤ (k : Int) ∧ (0 : Int) ≤ (s.size : Int) ∧ (k : Int) ≤ (st.size : Int) - (s.size : Int)) = true := decide_eq_true ⟨by omega, by omega, by omega⟩
  have HM := Lib.hid (may_calls w b ps pn v r st nw wl left true h (k : Int) (s.size : Int) (Bd.of_i64 (by omega) (by omega)) (Bd.of_i64 (by omega) (by omega)))
  rw [hd] at HM
  clear hd h
  go_enter Try.func12, Try.ntmps12
  go_wp2_with fail
  (with_reducible refine HM.out.mono ?_)
  rintro e w' ⟨rfl, rfl⟩
  go_wp2
  go_ret
  exact ⟨rfl, rfl⟩

set_option maxHeartbeats 400000 in
set_option maxRecDepth 100000 in
theorem Read_bad_calls (w : World) (b ps pn : Nat) (v : Value) (r : List Nat) (st nw : ByteArray) (wl : List (Nat × ByteArray)) (left : Int) (h : DK w b ps pn v r st nw wl left true) (k n : Nat) {ki ni : Int} (hki : ki = k) (hni : ni = n) (hkn : k + n ≤ st.size) :
    Calls Try.prog 15 #[.pointer (some ⟨b, 0, none⟩), .int .i64 ki, .int .i64 ni] w fun e w' => e = .returned (.tuple #[.string ⟨#[]⟩, .int .i64 18]) ∧ w = w' := by
  subst hki hni
  have c4 : w.cell? ⟨b, 4, none⟩ = some (.bool true) := by rw [Lib.cell_of_heap h.blk]; rfl
  have hb := h.big
  have hd : decide ((0 : Int) ≤ (k : Int) ∧ (0 : Int) ≤ (n : Int) ∧ (k : Int) ≤ (st.size : Int) - (n : Int)) = true := decide_eq_true ⟨by omega, by omega, by omega⟩
  have HM := Lib.hid (may_calls w b ps pn v r st nw wl left true h (k : Int) (n : Int) (Bd.of_i64 (by omega) (by omega)) (Bd.of_i64 (by omega) (by omega)))
  rw [hd] at HM
  clear hd h
  go_enter Try.func15, Try.ntmps15
  go_wp2_with fail
  (with_reducible refine HM.out.mono ?_)
  rintro e w' ⟨rfl, rfl⟩
  go_wp2
  go_ret2
  exact ⟨rfl, rfl⟩

set_option maxHeartbeats 400000 in
set_option maxRecDepth 100000 in
theorem Break_calls (w : World) (b ps pn : Nat) (v : Value) (r : List Nat) (st nw : ByteArray) (wl : List (Nat × ByteArray)) (left : Int) (h : DK w b ps pn v r st nw wl left false) (n : Int) (h0 : 1 ≤ n) (h1 : n ≤ 9223372036854775807) :
    Calls Try.prog 17 #[.pointer (some ⟨b, 0, none⟩), .int .i64 n] w fun e w' => e = .returned (.tuple #[]) ∧ DK w' b ps pn v r st nw wl n false ∧ Fr [b] w w' := by
  have c4 : w.cell? ⟨b, 4, none⟩ = some (.bool false) := by rw [Lib.cell_of_heap h.blk]; rfl
  have c3 : w.cell? ⟨b, 3, none⟩ = some (.int .i64 left) := by rw [Lib.cell_of_heap h.blk]; rfl
  have z3 := Lib.frozen_of_heap h.blk 3
  have HH := Lib.hid h
  clear h
  go_enter Try.func17, Try.ntmps17
  go_wp2
  go_end0
  have hf : Fr [b] w (w.setCell ⟨b, 3, none⟩ (.int .i64 n)) := (Fr.refl _ _).setCell (.inl (by simp)) _
  have h := HH.out
  refine ⟨rfl, ⟨?_, h.wait.keep hf (fun k hk => by simp; rintro rfl; exact h.nr.1 hk), h.hs.keep hf (by simp; exact fun e => h.ne1 e.symm), h.hn.keep hf (by simp; exact fun e => h.ne2 e.symm), h.size, h.big, h.most, h.fit, by omega, h1, h.ne1, h.ne2, h.ne3, h.nr⟩, hf⟩
  simp [World.setCell, Array.getElem?_modify, h.blk]

end Go.Proofs.Ytndenbcdhbnamaa
