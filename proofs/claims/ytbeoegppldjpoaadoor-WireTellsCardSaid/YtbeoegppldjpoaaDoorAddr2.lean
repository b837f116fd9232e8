/- Addresses: the contracts of name, lower, host. -/
import Derived.Test.YtbeoegppldjpoaaDoorAddr1
import Derived.Test.YtbeoegppldjpoaaDoorBS
import Derived.Laws.BitsAllLaws
namespace Go.Proofs.YtbeoegppldjpoaaDoor
open Go.RowKit Go.Lib
set_option linter.unusedVariables false
set_option linter.unusedSimpArgs false

theorem empty_list {s : ByteArray} (h : s.size = 0) : s.data.toList = [] := List.eq_nil_of_length_eq_zero (by rw [len_size]; exact h)
theorem nonempty_list {s : ByteArray} (h : s.size ≠ 0) : s.data.toList.isEmpty = false := by
  cases hl : s.data.toList with
  | nil => exact absurd (by rw [← len_size, hl]; rfl) h
  | cons a l => rfl
theorem str_emptyA {t : ByteArray} (h : t.size = 0) : t = ⟨#[]⟩ := ByteArray.ext (Array.eq_empty_of_size_eq_zero h)
theorem str_neA {t : ByteArray} (h : t.size ≠ 0) : t.toList.isEmpty = false ∧ ¬ t.toList = [] := by
  have hne : t.toList.isEmpty = false := by rw [Lib.toList_data]; exact nonempty_list h
  exact ⟨hne, fun e => by rw [e] at hne; cases hne⟩

set_option maxHeartbeats 1000000 in
set_option maxRecDepth 100000 in
theorem name_calls (w : World) (hM : ML w) (s : ByteArray) (hs : s.size ≤ 1000000) :
    Calls Tryd.prog 56 #[.string s] w fun e w' => e = .returned (.bool (nameL s.data.toList)) ∧ Fr [] w w' := by
  obtain ⟨m, hm⟩ := hM
  have hc := Tryd.strings_Contains (⟨#[46]⟩ ++ s ++ ⟨#[46]⟩) ⟨#[46, 46]⟩ m w (by rw [ByteArray.size_append, ByteArray.size_append]; show 1 + s.size + 1 < _; omega) hm
  have he : (⟨#[46]⟩ ++ s ++ ⟨#[46]⟩ : ByteArray).data.toList = 46 :: (s.data.toList ++ [46]) := by simp
  rw [he, show (⟨#[46, 46]⟩ : ByteArray).data.toList = [46, 46] from rfl, contains_dd] at hc
  have ho := fun W => only_name W s
  have g1 : (9223372036854775807 < 1 + s.size) = False := eq_false (by omega)
  have g2 : (9223372036854775807 < 1 + s.size + 1) = False := eq_false (by omega)
  by_cases h0 : s.size = 0
  · rw [empty_list h0]
    rw [show nameL [] = false from rfl]
    obtain rfl := str_emptyA h0
    clear hc ho he h0
    go_enter Tryd.func56, Tryd.ntmps56
    go_wp2_with fail
    go_ret
    exact ⟨rfl, Fr.refl _ _⟩
  · have hn : nameL s.data.toList = (noDD (46 :: (s.data.toList ++ [46])) && s.data.toList.all fun c => nmN c.toNat) := by
      unfold nameL
      rw [nonempty_list h0]
      rfl
    rw [hn]
    clear hn he
    obtain ⟨h3, h4⟩ := str_neA h0
    generalize noDD (46 :: (s.data.toList ++ [46])) = dd at *
    generalize (s.data.toList.all fun c => nmN c.toNat) = al at *
    have HC := Lib.hid hc
    have HO := Lib.hid ho
    clear hc ho h0 hm
    cases dd
    · rw [Bool.false_and]
      go_enter Tryd.func56, Tryd.ntmps56
      go_wp2_with fail
      (with_reducible refine HC.out.mono ?_)
      rintro e w1 ⟨rfl, hw⟩
      rw [hw]
      go_wp2_with fail
      go_ret
      exact ⟨rfl, Fr.refl _ _⟩
    · rw [Bool.true_and]
      go_enter Tryd.func56, Tryd.ntmps56
      go_wp2_with fail
      (with_reducible refine HC.out.mono ?_)
      rintro e w1 ⟨rfl, hw⟩
      rw [hw]
      go_wp2_with fail
      (with_reducible refine (HO.out _).mono ?_)
      rintro e w2 ⟨rfl, hf⟩
      go_wp2_with fail
      go_ret
      exact ⟨rfl, hf⟩

theorem up_orA : ∀ n, 65 ≤ n → n ≤ 90 → n ||| 32 = n + 32 := by
  intro n h1 h2
  have h : ∀ m, m < 128 → 65 ≤ m → m ≤ 90 → m ||| 32 = m + 32 := by decide
  exact h n (by omega) h1 h2
/-- Where the lowering stands. -/
def lowAt (l : List UInt8) (i : Nat) : List UInt8 := (l.take i).map lowC ++ l.drop i
theorem lowAt_size (l : List UInt8) (i : Nat) (h : i ≤ l.length) : (lowAt l i).length = l.length := by simp [lowAt]; omega
theorem lowAt_get (l : List UInt8) (i : Nat) (h : i < l.length) (h' : i < (lowAt l i).length) : (lowAt l i)[i]'h' = l[i] := by
  have e : (lowAt l i)[i]? = some l[i] := by
    unfold lowAt
    have hl : ((l.take i).map lowC).length = i := by simp; omega
    rw [List.getElem?_append_right (by omega), hl, List.getElem?_drop, Nat.sub_self, Nat.add_zero]
    exact List.getElem?_eq_getElem h
  rw [List.getElem?_eq_getElem h'] at e
  exact Option.some.inj e
theorem lowAt_next (l : List UInt8) (i : Nat) (h : i < l.length) : (lowAt l i).set i (lowC l[i]) = lowAt l (i + 1) := by
  unfold lowAt
  have hl : ((l.take i).map lowC).length = i := by simp; omega
  rw [List.set_append_right _ _ (by omega), hl, Nat.sub_self, List.drop_eq_getElem_cons h, List.set_cons_zero, List.take_succ_eq_append_getElem h, List.map_append, List.append_assoc]
  rfl
theorem lowAt_same (l : List UInt8) (i : Nat) (h : i < l.length) (hc : lowC l[i] = l[i]) : lowAt l (i + 1) = lowAt l i := by
  rw [← lowAt_next l i h, hc]
  have h' : i < (lowAt l i).length := by rw [lowAt_size l i (by omega)]; exact h
  rw [← lowAt_get l i h h']
  exact List.set_getElem_self h'

set_option maxHeartbeats 1000000 in
set_option maxRecDepth 100000 in
theorem lower_calls (w : World) (s : ByteArray) (hs : s.size ≤ 1000000) :
    Calls Tryd.prog 30 #[.string s] w fun e w' => e = .returned (.string (bL (s.data.toList.map lowC))) ∧ Fr [] w w' := by
  obtain ⟨l, hl⟩ : ∃ l, l = s.data.toList := ⟨_, rfl⟩
  have hls : l.length = s.size := by rw [hl, len_size]
  obtain ⟨W2, cap, hcv, hbs, hf2⟩ := run_toBytes w s
  have h0 : BS W2 w.heap.size cap (bL (lowAt l 0)) := by
    rw [show lowAt l 0 = l from by simp [lowAt], hl, bL_list]
    exact hbs
  rw [← hl]
  have hcap := hbs.cap
  have hgw : w.heap.size ≤ w.heap.size := Nat.le_refl _
  generalize hg : w.heap.size = g at h0 hcv hgw
  rw [← hg] at hgw
  have hgw' : w.heap.size ≤ g := by omega
  have H0 := Lib.hid (And.intro h0 hf2)
  clear hbs hf2 h0 hl hg hgw
  go_enter Tryd.func30, Tryd.ntmps30
  go_wp2_with fail
  clear hcv
  go_loopw [10] (fun v10 wr => ∃ i : Nat, v10 = .int .i64 i ∧ i ≤ s.size ∧ Hid (BS wr g cap (bL (lowAt l i)) ∧ Fr [] w wr)) (fun v10 _ => s.size - (intOf v10).toNat)
  case atStart => exact ⟨0, rfl, Nat.zero_le _, H0.out⟩
  case round =>
    clear H0
    obtain ⟨i, rfl, hi, H⟩ := hrel
    by_cases hlt : i < s.size
    · have hil : i < l.length := by omega
      have hz : i < (bL (lowAt l i)).size := by rw [bL_size, lowAt_size l i (by omega)]; exact hil
      have c0 := H.out.1.cell i hz
      have z0 := H.out.1.frozen i hz
      have ez : (bL (lowAt l i))[i] = l[i] := lowAt_get l i hil (by rw [lowAt_size l i (by omega)]; exact hil)
      rw [ez] at c0
      have hc256 := (l[i]).toNat_lt
      by_cases hup : 65 ≤ (l[i]).toNat ∧ (l[i]).toNat ≤ 90
      · obtain ⟨h65, h90⟩ := hup
        have hd : (lowC l[i]).toNat = (l[i]).toNat + 32 := by
          unfold lowC
          rw [if_pos ⟨h65, h90⟩, UInt8.toNat_ofNat']
          omega
        have hor : bits .or .u8 ((l[i]).toNat : Int) 32 = ((lowC l[i]).toNat : Int) := by
          have := u8_or_nat (l[i]).toNat 32 hc256 (by decide)
          rw [up_orA _ h65 h90, ← hd] at this
          exact this
        have hnx : BS (wr.setCell ⟨g, i, none⟩ (.int .u8 ((lowC l[i]).toNat : Int))) g cap (bL (lowAt l (i + 1))) := by
          have h3 := H.out.1.set i hz (lowC l[i])
          have e : setB (bL (lowAt l i)) i (lowC l[i]) = bL (lowAt l (i + 1)) := by
            rw [← lowAt_next l i hil]
            apply ByteArray.ext
            simp [setB, bL]
          rw [e] at h3
          exact h3
        have HN := Lib.hid (And.intro hnx (H.out.2.trans (S' := [g]) ((Fr.refl _ wr).setCell (p := ⟨g, i, none⟩) (.inl (by simp)) (.int .u8 ((lowC l[i]).toNat : Int))) (fun k hk => .inr (by simp at hk; omega))))
        clear hnx H hd ez
        generalize (lowC l[i]).toNat = d at *
        generalize (l[i]).toNat = c at *
        have h65' : (65 : Int) ≤ (c : Int) := by omega
        have h90' : (c : Int) ≤ 90 := by omega
        go_wp2_with fail
        exact ⟨⟨i + 1, by go_num, by omega, HN⟩, by simp only [intOf]; omega⟩
      · have hlow : lowC l[i] = l[i] := if_neg hup
        have HN : Hid (BS wr g cap (bL (lowAt l (i + 1))) ∧ Fr [] w wr) := Lib.hid (by rw [lowAt_same l i hil hlow]; exact H.out)
        clear H hlow ez
        generalize (l[i]).toNat = c at *
        by_cases h65 : (65 : Int) ≤ (c : Int)
        · have h90' : ¬ (c : Int) ≤ 90 := by omega
          go_wp2_with fail
          exact ⟨⟨i + 1, by go_num, by omega, HN⟩, by simp only [intOf]; omega⟩
        · go_wp2_with fail
          exact ⟨⟨i + 1, by go_num, by omega, HN⟩, by simp only [intOf]; omega⟩
    · obtain rfl : i = s.size := by omega
      have e : lowAt l s.size = l.map lowC := by
        unfold lowAt
        rw [List.take_of_length_le (by omega), List.drop_of_length_le (by omega), List.append_nil]
      rw [e] at H
      have hcv := fun c => run_bsString H.out.1 (n := s.size) (c := c) (by rw [bL_size, List.length_map, hls])
      have HF := Lib.hid H.out.2
      clear H e
      go_wp2_with fail
      go_ret
      exact ⟨rfl, HF.out⟩
end Go.Proofs.YtbeoegppldjpoaaDoor
