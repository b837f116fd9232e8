/- Contracts of strings.Builder's methods (copyCheck, WriteByte, WriteString, String) for a builder at the head of a block of its own, of whatever type holds it. -/
import Derived.Test.YtembnjpflllpbaaProg
import Derived.Test.YtembnjpflllpbaaBase
import Derived.Lib.Hide
namespace Go.Proofs.Ytembnjpflllpbaa
open Go.RowKit
set_option linter.unusedVariables false
set_option linter.unusedSimpArgs false

/-- A builder's block is of a type that holds a strings.Builder at its head, and nothing more. -/
structure BTy (T : TypeId) : Prop where
  lies : liesAt Try.prog Try.prog.depth T (2 / Try.prog.cellsOf T) 0 76 1 = true
  ne : T ≠ 5

theorem infoByte : (Try.prog.info? 5).map (fun i => (i.zero, i.size, i.bytes)) = some (some (.int .u8 0), 1, 1) := by kernel_rfl
theorem sizeBuilder : (Try.prog.info? 76).map (fun i => i.size) = some 2 := by kernel_rfl
theorem cellsByte : Try.prog.cellsOf 5 = 1 := by kernel_rfl

def BldU (T e : TypeId) (w : World) (b : Nat) (v : Value) (r : List Nat) (s : ByteArray) : Prop :=
  w.heap[b]? = some (.cells #[.pointer (some ⟨b, 0, none⟩), v] T (0, 0)) ∧ BRow e w v r s ∧ b ∉ r

theorem BRow.not_mem {T e : TypeId} {w : World} {v : Value} {r : List Nat} {s : ByteArray} {b : Nat} {cs : Array Value} {fz : Nat × Nat} (h : BRow e w v r s) (hb : w.heap[b]? = some (.cells cs T fz)) (hT : T ≠ e) : b ∉ r := by
  rcases h with ⟨_, _, rfl⟩ | ⟨g, cap, cur, fz, hv, rfl, h0, hg, rest⟩
  · simp
  · intro hm
    obtain rfl : b = g := by simpa using hm
    rw [hg] at hb
    injection hb with hb
    injection hb with _ hb _
    exact hT hb.symm

set_option maxHeartbeats 1000000 in
set_option maxRecDepth 100000 in
theorem copyCheck_used (b : Nat) (w : World) (h0 : w.cell? ⟨b, 0, none⟩ = some (.pointer (some ⟨b, 0, none⟩))) :
    Calls Try.prog 75 #[.pointer (some ⟨b, 0, none⟩)] w fun e w' => e = .returned (.tuple #[]) ∧ w' = w := by
  obtain ⟨j, hj, hjs⟩ := Option.map_eq_some_iff.1 sizeBuilder
  have hne := Lib.run_neq_ptr_same (P := Try.prog) w ⟨b, 0, none⟩ Try.underlying74 hj
  go_enter Try.func75, Try.ntmps75
  go_wp2
  go_end0
  exact ⟨rfl, rfl⟩

set_option maxHeartbeats 1000000 in
set_option maxRecDepth 100000 in
theorem copyCheck_fresh (T : TypeId) (hT : BTy T) (b : Nat) (w : World) (h0 : w.cell? ⟨b, 0, none⟩ = some (.pointer none)) (hsh : w.shape? b = some (T, 2)) (hfz : w.frozen? ⟨b, 0, none⟩ = false) :
    Calls Try.prog 75 #[.pointer (some ⟨b, 0, none⟩)] w fun e w' => e = .returned (.tuple #[]) ∧ w' = w.setCell ⟨b, 0, none⟩ (.pointer (some ⟨b, 0, none⟩)) := by
  obtain ⟨j, hj, hjs⟩ := Option.map_eq_some_iff.1 sizeBuilder
  go_enter Try.func75, Try.ntmps75
  go_wp2
  rw [Lib.run_to_unsafe w ⟨b, 0, none⟩ Try.underlying74 Try.underlying129 hj (by rw [hjs]; decide) hsh (Nat.zero_lt_succ 1)]
  simp only [Result.andThen]
  rw [Oper.upon_value]
  go_wp2
  rw [run_callFunc_extern Try.func81 (by kernel_rfl) (by kernel_rfl) (by kernel_rfl) (e := Extern.AbiNoEscape.same) (by kernel_rfl)]
  rw [Lib.run_noEscape]
  simp only [Result.andThen]
  rw [Oper.upon_value]
  go_wp2
  rw [Lib.run_from_unsafe w ⟨b, 0, none⟩ Try.underlying129 Try.underlying74 hj hsh hT.lies]
  simp only [Result.andThen]
  rw [Oper.upon_value]
  go_wp2
  go_end0
  exact ⟨rfl, rfl⟩

theorem copyCheck_calls (T : TypeId) (hT : BTy T) (b : Nat) (r : List Nat) (s : ByteArray) (w : World) (h : Bld T 5 w b r s) :
    Calls Try.prog 75 #[.pointer (some ⟨b, 0, none⟩)] w fun e w' => e = .returned (.tuple #[]) ∧ (∃ v, BldU T 5 w' b v r s) ∧ Fr [b] w w' := by
  obtain ⟨p, v, hb, hp, hr, hn⟩ := h
  have c0 : w.cell? ⟨b, 0, none⟩ = some p := by simp [World.cell?, hb]
  rcases hp with rfl | rfl
  · refine (copyCheck_fresh T hT b w c0 (by simp [World.shape?, hb]) (by simp [World.frozen?, hb])).mono ?_
    rintro e w' ⟨rfl, rfl⟩
    have hF : Fr [b] w (w.setCell ⟨b, 0, none⟩ (.pointer (some ⟨b, 0, none⟩))) := (Fr.refl _ w).setCell (by simp) _
    exact ⟨rfl, ⟨v, by simp [World.setCell, Array.getElem?_modify, hb], hr.keep hF (fun k hk hk2 => hn (by simp at hk2; rwa [hk2] at hk)), hn⟩, hF⟩
  · refine (copyCheck_used b w c0).mono ?_
    rintro e w' ⟨rfl, rfl⟩
    exact ⟨rfl, ⟨v, hb, hr, hn⟩, Fr.refl _ _⟩

/-- A store into the buffer's place, behind an append. -/
theorem BldU.put {T e : TypeId} {w w' : World} {b : Nat} {v v' : Value} {r r' : List Nat} {s s' : ByteArray} (h : BldU T e w b v r s) (hT : T ≠ e) (h1 : BRow e w' v' r' s') (hf : Fr r w w') :
    Bld T e (w'.setCell ⟨b, 1, none⟩ v') b r' s' ∧ Fr (b :: r) w (w'.setCell ⟨b, 1, none⟩ v') := by
  obtain ⟨hb, hr, hn⟩ := h
  have hb' := (hf.block b (lt_of_heap hb) hn).trans hb
  have hn' : b ∉ r' := h1.not_mem hb' hT
  have hF : Fr [b] w' (w'.setCell ⟨b, 1, none⟩ v') := (Fr.refl _ w').setCell (by simp) _
  refine ⟨⟨_, v', by simp [World.setCell, Array.getElem?_modify, hb'], .inr rfl, h1.keep hF (fun k hk hk2 => hn' (by simp at hk2; rwa [hk2] at hk)), hn'⟩, ?_⟩
  exact (hf.mono (fun k hk _ => by simp [hk])).trans hF (fun k hk => .inl (by simp at hk; simp [hk]))

set_option maxHeartbeats 2000000 in
set_option maxRecDepth 100000 in
theorem WriteString_calls (T : TypeId) (hT : BTy T) (b : Nat) (r : List Nat) (s : ByteArray) (w : World) (x : ByteArray) (h : Bld T 5 w b r s) (hlen : s.size + x.size ≤ 140737488355328) :
    Calls Try.prog 62 #[.pointer (some ⟨b, 0, none⟩), .string x] w fun e w' => e = .returned (.tuple #[.int .i64 x.size, .nilIface]) ∧ ∃ r', Bld T 5 w' b r' (s ++ x) ∧ Fr (b :: r) w w' ∧ (∀ k, k ∈ r' → k ∈ r ∨ w.heap.size ≤ k) := by
  go_enter Try.func62, Try.ntmps62
  go_wp2_with fail
  refine (copyCheck_calls T hT b r s _ h).mono ?_
  rintro e w1 ⟨rfl, ⟨v, hu⟩, hf1⟩
  have hu' := hu
  obtain ⟨hb, hr, hn⟩ := hu
  have c1 : w1.cell? ⟨b, 1, none⟩ = some v := by rw [Lib.cell_of_heap hb]; rfl
  go_wp2_with (at_builtin; refine wpList_bapp_string rfl _ _ 51 9 rfl 5 Try.underlying51 Try.underlying9 infoByte v r s rfl hr x rfl hlen ?_)
  intro v' w2 r' h1 hf2 hn2
  have hb2 := (hf2.block b (lt_of_heap hb) hn).trans hb
  have d1 : w2.cell? ⟨b, 1, none⟩ = some v := by rw [Lib.cell_of_heap hb2]; rfl
  have f1 : w2.frozen? ⟨b, 1, none⟩ = false := Lib.frozen_of_heap hb2 1
  obtain ⟨ao, n', cap, rfl⟩ : ∃ ao n' cap, v' = .slice ao n' cap := by
    rcases h1 with ⟨hv, _⟩ | ⟨g, cap, cur, fz, hv, _⟩
    · exact ⟨_, _, _, hv⟩
    · exact ⟨_, _, _, hv⟩
  go_wp2
  go_ret2
  obtain ⟨h3, h4⟩ := hu'.put hT.ne h1 hf2
  exact ⟨rfl, r', h3, (hf1.mono (fun k hk _ => by simp at hk; simp [hk])).trans h4 (fun k hk => .inl hk), fun k hk => (hn2 k hk).elim .inl (fun h => .inr (Nat.le_trans hf1.size h))⟩

/-- One byte. -/
def bOf (c : Int) : ByteArray := ⟨#[UInt8.ofNat c.toNat]⟩
theorem bOf_size (c : Int) : (bOf c).size = 1 := rfl

set_option maxHeartbeats 2000000 in
set_option maxRecDepth 100000 in
theorem WriteByte_calls (T : TypeId) (hT : BTy T) (b : Nat) (r : List Nat) (s : ByteArray) (w : World) (c : Int) (hc0 : 0 ≤ c) (hc1 : c ≤ 255) (h : Bld T 5 w b r s) (hlen : s.size + 1 ≤ 140737488355328) :
    Calls Try.prog 66 #[.pointer (some ⟨b, 0, none⟩), .int .u8 c] w fun e w' => e = .returned .nilIface ∧ ∃ r', Bld T 5 w' b r' (s ++ bOf c) ∧ Fr (b :: r) w w' ∧ (∀ k, k ∈ r' → k ∈ r ∨ w.heap.size ≤ k) := by
  have hcv : (Lib.strCells (bOf c)) = [.int .u8 c] := by
    have : ((UInt8.ofNat c.toNat).toNat : Int) = c := by
      rw [UInt8.toNat_ofNat']
      omega
    simp only [Lib.strCells, bOf, List.map_cons, List.map_nil, this]
  have HCV := Lib.hid hcv
  clear hcv
  go_enter Try.func66, Try.ntmps66
  go_wp2_with fail
  refine (copyCheck_calls T hT b r s _ h).mono ?_
  rintro e w1 ⟨rfl, ⟨v, hu⟩, hf1⟩
  have hu' := hu
  obtain ⟨hb, hr, hn⟩ := hu
  have c1 : w1.cell? ⟨b, 1, none⟩ = some v := by rw [Lib.cell_of_heap hb]; rfl
  go_wp2_with (at_builtin; refine wpList_bapp_cells rfl _ _ 51 rfl 5 Try.underlying51 infoByte v r s rfl (hr.keep ((Fr.refl [] _).alloc _) (by simp)) ⟨w1.heap.size, 0, none⟩ 1 1 (bOf c) rfl rfl (by rw [bOf_size]; exact Nat.one_pos) ?c1 hlen ?_)
  case c1 =>
    intro j y hj
    rw [HCV.out] at hj
    match j, hj with
    | 0, hj => simp at hj; subst hj; simp [Addr.add]
  intro v' w2 r' h1 hf2 hn2
  have hfa : Fr r w1 w2 := ((Fr.refl r w1).alloc _).trans hf2 (fun k hk => .inl hk)
  have hb2 := (hfa.block b (lt_of_heap hb) hn).trans hb
  have d1 : w2.cell? ⟨b, 1, none⟩ = some v := by rw [Lib.cell_of_heap hb2]; rfl
  have f1 : w2.frozen? ⟨b, 1, none⟩ = false := Lib.frozen_of_heap hb2 1
  obtain ⟨ao, n', cap, rfl⟩ : ∃ ao n' cap, v' = .slice ao n' cap := by
    rcases h1 with ⟨hv, _⟩ | ⟨g, cap, cur, fz, hv, _⟩
    · exact ⟨_, _, _, hv⟩
    · exact ⟨_, _, _, hv⟩
  go_wp2
  go_ret
  obtain ⟨h3, h4⟩ := hu'.put hT.ne h1 hfa
  exact ⟨rfl, r', h3, (hf1.mono (fun k hk _ => by simp at hk; simp [hk])).trans h4 (fun k hk => .inl hk), fun k hk => (hn2 k hk).elim .inl (fun h => .inr (by have := hf1.size; first | omega | (simp at h; omega)))⟩

set_option maxHeartbeats 2000000 in
set_option maxRecDepth 100000 in
theorem String_calls (T : TypeId) (hT : BTy T) (b : Nat) (r : List Nat) (s : ByteArray) (w : World) (h : Bld T 5 w b r s) :
    Calls Try.prog 56 #[.pointer (some ⟨b, 0, none⟩)] w fun e w' => e = .returned (.string s) ∧ Bld T 5 w' b r s ∧ Fr r w w' := by
  obtain ⟨p, v, hb, hp, hr, hn⟩ := h
  rcases hr with ⟨rfl, rfl, rfl⟩ | ⟨g, cap, cur, fz, rfl, rfl, h0, hg, hfz, hc, hm, hcs, htake⟩
  · have hUS : ∀ W : World, (Builtin.unsafeString_ #[119, 3] 9 #[.pointer none, .int .i64 0]).run Try.prog W = .ok (.string .empty) W := fun W => Lib.run_unsafeString_none W _ _ _ none
    have c1 : w.drew.cell? ⟨b, 1, none⟩ = some (.slice none 0 0) := by
      have : w.drew.heap[b]? = some (.cells #[p, .slice none 0 0] T (0, 0)) := hb
      rw [Lib.cell_of_heap this]; rfl
    have hSD : (Builtin.unsafeSliceData_ #[51] 119 #[.slice none 0 0]).run Try.prog w.drew = .ok (.pointer none) w.drew := rfl
    go_enter Try.func56, Try.ntmps56
    go_wp2
    go_region
    all_goals (go_wp2; go_ret; exact ⟨rfl, ⟨p, .slice none 0 0, hb, hp, BRow.nil _ _, hn⟩, (Fr.refl _ w).drew⟩)
  · have hr : BRow 5 w (.slice (some ⟨g, 0, none⟩) s.size cap) [g] s := .inr ⟨g, cap, cur, fz, rfl, rfl, h0, hg, hfz, hc, hm, hcs, htake⟩
    have hll : s.data.toList.length = s.size := by rw [Array.length_toList]; rfl
    have hls : (⟨s.data.toList.toArray⟩ : ByteArray) = s := by simp
    have hl : s.data.toList ≠ [] := by
      intro e
      rw [e] at hll
      simp at hll
      omega
    have c1 : w.drew.cell? ⟨b, 1, none⟩ = some (.slice (some ⟨g, 0, none⟩) s.size cap) := by
      have : w.drew.heap[b]? = some (.cells #[p, .slice (some ⟨g, 0, none⟩) s.size cap] T (0, 0)) := hb
      rw [Lib.cell_of_heap this]; rfl
    have hSD : (Builtin.unsafeSliceData_ #[51] 119 #[.slice (some ⟨g, 0, none⟩) s.size cap]).run Try.prog w.drew = .ok (.pointer (some ⟨g, 0, none⟩)) w.drew :=
      Lib.run_unsafeSliceData_row _ _ _ _ _ _ (by omega)
    have hcells := hr.ownsF.cells (g := g) (by rfl)
    have hUS : (Builtin.unsafeString_ #[119, 3] 9 #[.pointer (some ⟨g, 0, none⟩), .int .i64 s.size]).run Try.prog w.drew = .ok (.string s) (w.drew.freeze ⟨g, 0, none⟩ s.size) := by
      have h := Lib.run_unsafeString_row (P := Try.prog) w.drew 119 3 9 5 Try.underlying119 cellsByte g cur.size (by have hg' : w.drew.heap[g]? = some (.cells cur 5 fz) := hg; simp [World.shape?, hg']) s.data.toList hl (by omega) (by unfold maxLen at hm; omega)
        (fun j x hx => hcells j (.int .u8 x.toNat) (by rw [Lib.strCells, List.getElem?_map, hx]; rfl))
      rw [hll, hls] at h
      exact h
    have hF : Fr [g] w (w.drew.freeze ⟨g, 0, none⟩ s.size) := ((Fr.refl _ w).drew).freeze (by simp) _
    have hkeep : Bld T 5 (w.drew.freeze ⟨g, 0, none⟩ s.size) b [g] s := by
      refine ⟨p, .slice (some ⟨g, 0, none⟩) s.size cap, (hF.block b (lt_of_heap hb) hn).trans hb, hp, .inr ?_, hn⟩
      obtain ⟨lo, hi⟩ := fz
      refine ⟨g, cap, cur, (if lo == hi then (0, 0 + s.size) else (min lo 0, max hi (0 + s.size))), rfl, rfl, h0, ?_, ?_, hc, hm, hcs, htake⟩
      · unfold World.freeze
        rw [if_neg (by omega)]
        have hg' : w.drew.heap[g]? = some (.cells cur 5 (lo, hi)) := hg
        simp [Array.getElem?_modify, hg']
      · simp only at hfz
        split <;> simp <;> omega
    clear hll hls hl
    clear hcells hr htake
    go_enter Try.func56, Try.ntmps56
    go_wp2
    go_region
    all_goals (go_wp2; go_ret; exact ⟨rfl, hkeep, hF⟩)

end Go.Proofs.Ytembnjpflllpbaa
