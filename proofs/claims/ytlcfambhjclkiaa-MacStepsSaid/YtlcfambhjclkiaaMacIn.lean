/- Contracts of Mac's inner function, of Mac; the chapter's example. -/
import Derived.Test.YtlcfambhjclkiaaMac
import Derived.Test.YtlcfambhjclkiaaShort07
import Derived.Test.YtlcfambhjclkiaaStrs
namespace Go.Proofs.Ytlcfambhjclkiaa
open Go.RowKit
set_option linter.unusedVariables false
set_option linter.unusedSimpArgs false

theorem side_ne {w w1 w2 : World} {bm bk : Nat} {S : List Nat} {p : Addr} (hb : bm < w.heap.size ∧ bk < w.heap.size) (h1 : Fr S w.drew w1) (h2 : Fr [] w1 w2) (hp : p.block = bm ∨ p.block = bk) : p.block ∉ [w2.heap.size] := by
  have e1 := h1.size
  have e2 := h2.size
  have e3 : w.drew.heap.size = w.heap.size := rfl
  simp
  omega
theorem s2_keep {w w' : World} {bm bk : Nat} {u v : Value} (hk : ∀ p x, p.block = bm ∨ p.block = bk → w.cell? p = some x → w'.cell? p = some x) (h : w.cell? ⟨bm, 0, none⟩ = some u ∧ w.cell? ⟨bk, 0, none⟩ = some v) :
    w'.cell? ⟨bm, 0, none⟩ = some u ∧ w'.cell? ⟨bk, 0, none⟩ = some v := ⟨hk _ _ (.inl rfl) h.1, hk _ _ (.inr rfl) h.2⟩

set_option maxHeartbeats 4000000 in
set_option maxRecDepth 100000 in
theorem side_calls (w : World) (m : Option Nat) (n : Nat) (hn : n ≤ 800000) (hm : MtR w m n) (key : ByteArray) (hk : key.size ≤ 1000) (c : Nat) {ci : Int} (hci : ci = c) (hc : c < 256)
    (bm bk : Nat) (hbm : VarV 33 w bm (mtP m)) (hbk : VarV 9 w bk (.string key)) (hmm : ∀ b, m = some b → b ≠ bm ∧ b ≠ bk)
    (ad : Addr) (cp : Nat) (l : List ByteArray) (hA : RdV w (some ad) (l.map .string)) (hadm : ∀ b, m = some b → ad.block ≠ b) (hadb : ad.block < w.heap.size) (hl : 0 < l.length) (hl2 : l.length ≤ 1000) (hs : (catB l).size ≤ 100000) :
    Calls Try.prog 43 #[.int .u8 ci, .slice (some ad) l.length cp, .pointer (some ⟨bm, 0, none⟩), .pointer (some ⟨bk, 0, none⟩)] w
      fun e w' => e = .returned (.string (macSide key c (catB l))) ∧ MtR w' m (mtK m n (macK key + 1)) ∧ Fr m.toList w w' := by
  subst hci
  have HMM := Lib.hid hmm
  have HAD := Lib.hid (And.intro hadm hadb)
  have hlb := hbm.lt
  have hlk := hbk.lt
  have HB3 := Lib.hid (And.intro hlb hlk)
  have hb1 : bm ∉ m.toList := fun h => by
    cases m with
    | none => simp at h
    | some b => simp at h; exact (hmm b rfl).1 h.symm
  have hb2 : bk ∉ m.toList := fun h => by
    cases m with
    | none => simp at h
    | some b => simp at h; exact (hmm b rfl).2 h.symm
  have hb3 : ad.block ∉ m.toList := fun h => by
    cases m with
    | none => simp at h
    | some b => simp at h; exact hadm b rfl h
  have HLT := Lib.hid hm.lt
  have hfd : Fr [] w w.drew := (Fr.refl _ _).drew
  have c0 : w.drew.cell? ⟨bm, 0, none⟩ = some (mtP m) := (hbm.keep hfd (by simp)).cell
  have c1 : w.drew.cell? ⟨bk, 0, none⟩ = some (.string key) := (hbk.keep hfd (by simp)).cell
  have HLAY := Lib.hid (lay_calls w.drew m n (by omega) (hm.keep hfd (by simp)) key hk)
  have hn1 : mtK m n (macK key) ≤ 900000 := by have := mtK_le m n (macK key); have h1 : macK key ≤ 1 := (by unfold macK; split <;> omega); omega
  have HSUM : Hid (mtN m (mtK m n (macK key)) = mtK m n (macK key + 1)) := Lib.hid (by rw [mtN_mtK, mtK_add])
  have hd : macSide key c (catB l) = shaSum (catB (xorB c (macLay key) :: l)) := by rw [macSide, catB_cons]
  rw [hd]
  have hL64 := macLay_size key
  have HT := Lib.hid (fun W => turned_calls W (macLay key) c rfl hc (by omega))
  have hx64 : (xorB c (macLay key)).size = 64 := by rw [xorB_size]; exact hL64
  generalize macLay key = L at HLAY HT hx64 ⊢
  generalize xorB c L = x at HT hx64 ⊢
  have hcs : (catB (x :: l)).size ≤ 1000000 := by rw [catB_cons, ByteArray.size_append]; omega
  have hMS := fun (W : World) (g cp' n1 : Nat) (hn1 : n1 ≤ 900000) (hW : MtR W m n1) (hR : RdV W (some ⟨g, 0, none⟩) ((x :: l).map .string)) (hg : ∀ b, m = some b → g ≠ b) (hcp : 1 + l.length ≤ cp') =>
    MSum_calls W m n1 (by omega) hW (some ⟨g, 0, none⟩) cp' (x :: l) hR (by rintro ad ⟨⟩; rfl) (by rintro ad b ⟨⟩ hb; exact hg b hb) (by rw [List.length_cons]; omega) (by rw [List.length_cons]; omega) hcs
  rw [List.length_cons, Nat.add_comm l.length 1] at hMS
  generalize shaSum (catB (x :: l)) = D at hMS ⊢
  have HMS := Lib.hid hMS
  generalize mtK m n (macK key) = n1 at HLAY hn1 HSUM
  rw [← HSUM.out]
  have HA := Lib.hid hA
  have HB := Lib.hid (And.intro hb1 (And.intro hb2 hb3))
  have HFD := Lib.hid hfd
  have hbytes : (1 + l.length) * 16 ≤ 140737488355328 := by omega
  have hle : 1 + l.length ≤ maxLen := by unfold maxLen; omega
  have HSZ := Lib.hid (show w.heap.size ≤ w.drew.heap.size from hfd.size)
  generalize mtP m = mp at *
  clear hMS hA hb1 hb2 hb3 hmm hadm hadb hm hk hd hL64 hx64 hcs hs hfd hbm hbk
  go_enter Try.func43, Try.ntmps43
  go_wp2_with fail
  go_region_held3 (fun w' => w'.cell? ⟨bm, 0, none⟩ = some mp ∧ w'.cell? ⟨bk, 0, none⟩ = some (.string key))
    (first | exact ⟨c0, c1⟩ | exact s2_keep hk9 (by assumption) | go_keep)
    (first
    | (go_at_call 45; (with_reducible refine HLAY.out.mono ?_); rintro e w1 ⟨rfl, hm1, hf1⟩; have hk9 : ∀ p x, p.block = bm ∨ p.block = bk → w.drew.cell? p = some x → w1.cell? p = some x := (fun p x hp hx => hf1.cell' hx (by rcases hp with h | h <;> (rw [h]; first | exact HB.out.1 | exact HB.out.2.1))))
    | (go_at_call 44; (with_reducible refine (HT.out _).mono ?_); rintro e w2 ⟨rfl, hf2⟩; have hk9 : ∀ p x, p.block = bm ∨ p.block = bk → w1.cell? p = some x → w2.cell? p = some x := (fun p x hp hx => hf2.cell' hx (by simp)))
    | (refine step_sapp (by rfl) _ _ 32 (by rfl) 9 Try.underlying32 _ 1 16 infoString rfl (by decide) _ [w2.heap.size] 1 [.string x] (by rfl) (SRow.lit1 _ (heap_alloc_new _ _)) ad l.length cp (l.map .string) (by rfl) (by simp) ((HA.out.keep (HFD.out.then (Fr.refl _ _)) (by simp)).keep (hf1.then (hf2.alloc _)) (by rintro ad' ⟨⟩; exact HB.out.2.2)) (by intro u hu; obtain ⟨y, _, rfl⟩ := List.mem_map.1 hu; rfl) hl hle hbytes ?_; intro v' w4 r' h6 hf4 hn4; obtain ⟨g, cp4, rfl, hcp4, hrd4, rfl⟩ := h6.reads0 (by omega); have hk9 : ∀ p y, p.block = bm ∨ p.block = bk → (w2.alloc (.cells #[.string x] 9)).cell? p = some y → w4.cell? p = some y := fun p y hp hx => hf4.cell' hx (side_ne HB3.out hf1 hf2 hp); have hf14 : Fr [] w1 w4 := (hf2.alloc _).trans hf4 (fun i hi => .inr (by simp at hi; have := hf2.size; omega)); have hm4 := hm1.keep hf14 (by simp); have hg4 : ∀ b, m = some b → g ≠ b := fun b hb => by (have h9 := HLT.out b hb; have h8 := hf1.size; have h7 := hf2.size; have h6 := HSZ.out; rcases hn4 g (by simp) with h5 | h5 <;> simp at h5 <;> omega))
    | (go_at_call 20; (with_reducible refine (HMS.out _ _ _ _ hn1 hm4 hrd4 hg4 hcp4).mono ?_); rintro e w5 ⟨rfl, hm5, hf5⟩; have hk9 : ∀ p x, p.block = bm ∨ p.block = bk → w4.cell? p = some x → w5.cell? p = some x := (fun p x hp hx => hf5.cell' hx (by rcases hp with h | h <;> (rw [h]; first | exact HB.out.1 | exact HB.out.2.1)))))
  all_goals
    have HF := Lib.hid (((HFD.out.mono (S' := m.toList) (by simp)).trans hf1 (fun i hi => .inl hi)).then hf14 |>.trans hf5 (fun i hi => .inl hi))
    have HM5 := Lib.hid hm5
    clear hf1 hf2 hf4 hf5 hf14 hm5 hm4 hrd4 hm1 HLAY HT HMS
    go_wp2_with fail
    go_ret
    exact ⟨rfl, HM5.out, HF.out⟩
end Go.Proofs.Ytlcfambhjclkiaa
