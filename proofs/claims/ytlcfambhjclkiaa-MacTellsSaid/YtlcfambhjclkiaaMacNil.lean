/- The contract of Mac at no part. -/
import Derived.Test.YtlcfambhjclkiaaMac2
namespace Go.Proofs.Ytlcfambhjclkiaa
open Go.RowKit
set_option linter.unusedVariables false
set_option linter.unusedSimpArgs false

set_option maxHeartbeats 4000000 in
set_option maxRecDepth 100000 in
theorem side_nil (w : World) (key : ByteArray) (hk : key.size ≤ 1000) (c : Nat) {ci : Int} (hci : ci = c) (hc : c < 256)
    (bm bk : Nat) (hbm : VarV 33 w bm (.pointer none)) (hbk : VarV 9 w bk (.string key)) :
    Calls Try.prog 43 #[.int .u8 ci, .slice none 0 0, .pointer (some ⟨bm, 0, none⟩), .pointer (some ⟨bk, 0, none⟩)] w
      fun e w' => e = .returned (.string (macSide key c ⟨#[]⟩)) ∧ Fr [] w w' := by
  subst hci
  have hfd : Fr [] w w.drew := (Fr.refl _ _).drew
  have c0 : w.drew.cell? ⟨bm, 0, none⟩ = some (.pointer none) := (hbm.keep hfd (by simp)).cell
  have c1 : w.drew.cell? ⟨bk, 0, none⟩ = some (.string key) := (hbk.keep hfd (by simp)).cell
  have HLAY : Hid (Calls Try.prog 45 #[.pointer none, .string key] w.drew fun e w' => e = .returned (.string (macLay key)) ∧ Fr [] w.drew w') := Lib.hid ((lay_calls w.drew none 0 (by omega) rfl key hk).mono fun e w' ⟨h1, _, h2⟩ => ⟨h1, h2⟩)
  have hL64 := macLay_size key
  have HT := Lib.hid (fun W => turned_calls W (macLay key) c rfl hc (by omega))
  have hd : macSide key c ⟨#[]⟩ = shaSum (xorB c (macLay key)) := by rw [macSide, bapp_nil]
  rw [hd]
  have hx64 : (xorB c (macLay key)).size = 64 := by rw [xorB_size]; exact hL64
  generalize macLay key = L at HLAY HT hx64 ⊢
  generalize xorB c L = x at HT hx64 ⊢
  have HMS : Hid (∀ W b, W.heap[b]? = some (.cells #[.string x] 9 (0, 0)) → Calls Try.prog 20 #[.pointer none, .slice (some ⟨b, 0, none⟩) 1 1] W fun e w' => e = .returned (.string (shaSum x)) ∧ Fr [] W w') := Lib.hid fun W b h => (MSum1 W none 0 (by omega) rfl b x h (by rintro y ⟨⟩) (by omega)).mono fun e w' ⟨h1, _, h2⟩ => ⟨h1, h2⟩
  generalize shaSum x = D at HMS ⊢
  have HFD := Lib.hid hfd
  clear hd hL64 hx64 hfd hbm hbk hk
  go_enter Try.func43, Try.ntmps43
  go_wp2_with fail
  go_region_held3 (fun w' => w'.cell? ⟨bm, 0, none⟩ = some (.pointer none) ∧ w'.cell? ⟨bk, 0, none⟩ = some (.string key))
    (first | exact ⟨c0, c1⟩ | exact s2_keep hk9 (by assumption) | go_keep)
    (first
    | (go_at_call 45; (with_reducible refine HLAY.out.mono ?_); rintro e w1 ⟨rfl, hf1⟩; have hk9 : ∀ p x, p.block = bm ∨ p.block = bk → w.drew.cell? p = some x → w1.cell? p = some x := (fun p x hp hx => hf1.cell' hx (by simp)))
    | (go_at_call 44; (with_reducible refine (HT.out _).mono ?_); rintro e w2 ⟨rfl, hf2⟩; have hk9 : ∀ p x, p.block = bm ∨ p.block = bk → w1.cell? p = some x → w2.cell? p = some x := (fun p x hp hx => hf2.cell' hx (by simp)))
    | (go_at_call 20; (with_reducible refine (HMS.out _ _ (heap_alloc_new _ _)).mono ?_); rintro e w5 ⟨rfl, hf5⟩; have hk9 : ∀ p y, p.block = bm ∨ p.block = bk → (w2.alloc (.cells #[.string x] 9)).cell? p = some y → w5.cell? p = some y := (fun p y hp hx => hf5.cell' hx (by simp))))
  all_goals
    have HF := Lib.hid (((HFD.out.then hf1).then (hf2.alloc _)).then hf5)
    clear hf1 hf2 hf5 HLAY HT HMS
    go_wp2_with fail
    go_ret
    exact ⟨rfl, HF.out⟩

set_option maxHeartbeats 2000000 in
set_option maxRecDepth 100000 in
theorem Mac0 (w : World) (key : ByteArray) (hk : key.size ≤ 1000) :
    Calls Try.prog 24 #[.pointer none, .string key, .slice none 0 0] w fun e w' => e = .returned (.string (macB key ⟨#[]⟩)) ∧ Fr [] w w' := by
  have hmf : ∀ (fn : Fn) (first cap : Array Value) (w : World), (Instr.makeFunc fn first cap).run Try.prog w = .ok (.func fn first cap) w := fun _ _ _ _ => rfl
  have hF0 : Fr [] w ((w.alloc (.cells #[.pointer none] 33)).alloc (.cells #[.string key] 9)) := ((Fr.refl _ w).alloc _).alloc _
  have hbm : VarV 33 ((w.alloc (.cells #[.pointer none] 33)).alloc (.cells #[.string key] 9)) w.heap.size (.pointer none) := (VarV.new _ _ _ rfl).keep ((Fr.refl [] _).alloc _) (by simp)
  have hbk : VarV 9 ((w.alloc (.cells #[.pointer none] 33)).alloc (.cells #[.string key] 9)) (w.heap.size + 1) (.string key) := VarV.new _ _ _ (by simp)
  have HS1 := Lib.hid (side_nil _ key hk 54 (show (54 : Int) = ((54 : Nat) : Int) from rfl) (by decide) w.heap.size (w.heap.size + 1) hbm hbk)
  have HMB : Hid (macB key ⟨#[]⟩ = macSide key 92 (macSide key 54 ⟨#[]⟩)) := Lib.hid rfl
  have hd1 := macSide_size key 54 ⟨#[]⟩
  rw [HMB.out]
  generalize macSide key 54 ⟨#[]⟩ = d at HS1 hd1 ⊢
  have HS2 : Hid (∀ W : World, VarV 33 W w.heap.size (.pointer none) → VarV 9 W (w.heap.size + 1) (.string key) → Calls Try.prog 43 #[.int .u8 92, .slice (some ⟨W.heap.size, 0, none⟩) 1 1, .pointer (some ⟨w.heap.size, 0, none⟩), .pointer (some ⟨w.heap.size + 1, 0, none⟩)] (W.alloc (.cells #[.string d] 9))
      fun e w' => e = .returned (.string (macSide key 92 d)) ∧ Fr [] (W.alloc (.cells #[.string d] 9)) w') := Lib.hid fun W h2 h3 => by
    have hf : Fr [] W (W.alloc (.cells #[.string d] 9)) := (Fr.refl _ _).alloc _
    have := side_calls (W.alloc (.cells #[.string d] 9)) none 0 (by omega) rfl key hk 92 (show (92 : Int) = ((92 : Nat) : Int) from rfl) (by decide) w.heap.size (w.heap.size + 1) (h2.keep hf (by simp)) (h3.keep hf (by simp)) (by rintro b ⟨⟩) ⟨W.heap.size, 0, none⟩ 1 [d] (RdV.new _ _ _ rfl rfl) (by rintro b ⟨⟩) (by simp) (by simp) (by simp) (by rw [catB_one]; omega)
    rw [catB_one] at this
    exact this.mono fun e w' ⟨h1, _, h2⟩ => ⟨h1, h2⟩
  have HW0 := Lib.hid (And.intro hF0 (And.intro hbm hbk))
  generalize macSide key 92 d = D at HS2 ⊢
  clear hF0 hbm hbk hd1 HMB hk
  go_enter Try.func24, Try.ntmps24
  go_wp2_with fail
  (with_reducible refine HS1.out.mono ?_)
  rintro e w1 ⟨rfl, hf1⟩
  have H1 := Lib.hid (And.intro (HW0.out.2.1.keep hf1 (by simp)) (And.intro (HW0.out.2.2.keep hf1 (by simp)) (HW0.out.1.then hf1)))
  clear hf1 HS1 HW0
  go_wp2_with fail
  (with_reducible refine (HS2.out w1 H1.out.1 H1.out.2.1).mono ?_)
  rintro e w2 ⟨rfl, hf2⟩
  have H2 := Lib.hid ((H1.out.2.2.alloc _).then hf2)
  clear hf2 HS2 H1
  go_wp2_with fail
  go_ret
  exact ⟨rfl, H2.out⟩
end Go.Proofs.Ytlcfambhjclkiaa
