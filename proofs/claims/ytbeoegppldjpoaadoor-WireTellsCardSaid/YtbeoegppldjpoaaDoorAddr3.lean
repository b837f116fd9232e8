/- Addresses: the contract of host. -/
import Derived.Test.YtbeoegppldjpoaaDoorAddr2
namespace Go.Proofs.YtbeoegppldjpoaaDoor
open Go.RowKit Go.Lib
set_option linter.unusedVariables false
set_option linter.unusedSimpArgs false

theorem host_parts (s : ByteArray) : (Lib.splitB ⟨#[46]⟩ 0 (Lib.countB s ⟨#[46]⟩) s).map (fun x => x.data.toList) = splitL 46 s.data.toList := by
  rw [Lib.splitB_data]
  exact splitK_one 46 (s.data.toList.length + 1) _ _ (Nat.lt_succ_self _) (Nat.le_refl _)
/-- The label's tests, one by one. -/
theorem label_cases (x : ByteArray) (h : x.size ≠ 0) : labelL x.data.toList = (decide ((x.size : Int) ≤ 20) && ((((x[0]'(by omega)).toNat : Int) != 45) && ((((x[x.size - 1]'(by omega)).toNat : Int) != 45) && x.data.toList.all fun c => lbN c.toNat))) := by
  have hl := len_size x
  have b45 : ∀ c : UInt8, ((c.toNat : Int) != 45) = (some c != some 45) := fun c => by
    by_cases h : c = 45
    · subst h; rfl
    · rw [bne_iff_ne.2 (fun e => h (Option.some.inj e)), bne_iff_ne.2 (fun e => h (UInt8.toNat_inj.1 (by show c.toNat = 45; omega)))]
  have e0 : x.data.toList.head? = some (x[0]'(by omega)) := by
    rw [List.head?_eq_getElem?, List.getElem?_eq_getElem (by omega)]
    rfl
  have e1 : x.data.toList.getLast? = some (x[x.size - 1]'(by omega)) := by
    rw [List.getLast?_eq_getElem?, hl, List.getElem?_eq_getElem (by omega)]
    rfl
  unfold labelL
  rw [nonempty_list h, e0, e1, b45, b45, hl, decide_eq_decide.2 (show x.size ≤ 20 ↔ (x.size : Int) ≤ 20 by omega)]
  rfl

set_option maxHeartbeats 4000000 in
set_option maxRecDepth 100000 in
theorem host_calls (w : World) (hM : ML w) (s : ByteArray) (hs : s.size ≤ 1000000) :
    Calls Tryd.prog 57 #[.string s] w fun e w' => e = .returned (.bool (hostL s.data.toList)) ∧ Fr [] w w' := by
  obtain ⟨m, hm⟩ := hM
  have hc := Tryd.strings_Split s ⟨#[46]⟩ m w (by omega) hm (by decide)
  have hlen := Lib.splitB_all ⟨#[46]⟩ (by decide) 0 _ s rfl
  have hmap := host_parts s
  generalize Lib.splitB ⟨#[46]⟩ 0 (Lib.countB s ⟨#[46]⟩) s = L at *
  have hres : hostL s.data.toList = (decide (2 ≤ L.length) && L.all fun x => labelL x.data.toList) := by
    unfold hostL
    rw [← hmap, List.length_map, List.all_map]
    rfl
  obtain ⟨n, hn⟩ : ∃ n, n = L.length := ⟨_, rfl⟩
  rw [← hlen, ← hn] at hc
  rw [hres]
  have hnew := heap_alloc_new w (.cells (L.map Value.string).toArray 9)
  have hF0 : Fr [] w (w.alloc (.cells (L.map Value.string).toArray 9)) := (Fr.refl _ _).alloc _
  have hnb : n ≤ 1000001 := by
    have := Lib.countB_le ⟨#[46]⟩ (by decide) s.size s (Nat.le_refl _)
    omega
  obtain ⟨R, hR⟩ : ∃ R, R = (decide (2 ≤ L.length) && L.all fun x => labelL x.data.toList) := ⟨_, rfl⟩
  rw [← hR]
  rw [← hn] at hR
  have HC := Lib.hid hc
  have H0 := Lib.hid (And.intro hF0 hnew)
  have HR := Lib.hid hR
  have HN := Lib.hid hn
  clear hc hlen hmap hres hnew hF0 hm hR hn
  go_enter Tryd.func57, Tryd.ntmps57
  go_wp2_with fail
  refine wp_scope_straight ?_
  go_wp2_with fail
  (with_reducible refine HC.out.mono ?_)
  rintro e w1 ⟨rfl, hw⟩
  rw [hw]
  clear hw HC
  generalize w.alloc (.cells (L.map Value.string).toArray 9) = W0 at *
  generalize w.heap.size = g at *
  go_wp2_with fail
  go_step3
  go_wp2_with fail
  go_loopw [4, 14] (fun v4 v14 wr => ∃ (k : Nat) (okb : Bool), v14 = .int .i64 k ∧ v4 = .bool okb ∧ k ≤ n ∧ (0 < k → okb = true) ∧ Hid (okb = (decide (2 ≤ n) && (L.take k).all fun x => labelL x.data.toList) ∧ Fr [] w wr ∧ wr.heap[g]? = some (.cells (L.map Value.string).toArray 9 (0, 0)))) (fun _ v14 _ => n - (intOf v14).toNat)
  case atStart => exact ⟨0, decide (2 ≤ (n : Int)), rfl, rfl, Nat.zero_le _, fun h => absurd h (by decide), by rw [List.take_zero]; simp only [List.all_nil, Bool.and_true]; exact decide_eq_decide.2 (by omega), H0.out.1, H0.out.2⟩
  case round =>
    clear H0
    obtain ⟨k, okb, rfl, rfl, hk, hpos, H⟩ := hrel
    by_cases hlt : k < n
    · have hkL : k < L.length := by have := HN.out; omega
      obtain ⟨x, hx⟩ : ∃ x, L[k] = x := ⟨_, rfl⟩
      have hcx : wr.cell? ⟨g, k, none⟩ = some (.string x) := by
        rw [Lib.cell_of_heap H.out.2.2]
        simp [hkL, hx]
      have htk : (L.take (k + 1)).all (fun x => labelL x.data.toList) = ((L.take k).all (fun x => labelL x.data.toList) && labelL x.data.toList) := by
        rw [List.take_succ_eq_append_getElem hkL, hx, List.all_append]
        simp
      have hfalse : labelL x.data.toList = false → R = false := fun h => by
        rw [HR.out, List.all_eq_false.2 ⟨x, by rw [← hx]; exact List.getElem_mem hkL, by rw [h]; decide⟩, Bool.and_false]
      have HFL := Lib.hid hfalse
      have HTK := Lib.hid htk
      clear hfalse htk
      cases okb
      · have hk0 : k = 0 := by
          rcases Nat.eq_zero_or_pos k with h | h
          · exact h
          · cases hpos h
        subst hk0
        have hRf : R = false := by
          rw [HR.out]
          have h1 := H.out.1
          rw [List.take_zero] at h1
          simp only [List.all_nil, Bool.and_true] at h1
          rw [← h1, Bool.false_and]
        have HF := Lib.hid H.out.2.1
        clear H HFL HTK HR hpos
        subst hRf
        go_wp2_with fail
        (repeat rw [Exit.noGoto_ret])
        (try simp (config := { zetaDelta := true }) only [Exit.then, Exit.noGoto, Exit.inBlock])
        go_ret
        exact ⟨rfl, HF.out⟩
      · by_cases h0 : x.size = 0
        · have hRf := HFL.out (by rw [empty_list h0]; rfl)
          obtain rfl := str_emptyA h0
          have HF := Lib.hid H.out.2.1
          clear H HFL HTK HR hpos h0 hx
          subst hRf
          go_wp2_with fail
          (repeat rw [Exit.noGoto_ret])
          (try simp (config := { zetaDelta := true }) only [Exit.then, Exit.noGoto, Exit.inBlock])
          go_ret
          exact ⟨rfl, HF.out⟩
        · have hlc := label_cases x h0
          obtain ⟨h3, h4⟩ := str_neA h0
          by_cases h20 : (x.size : Int) ≤ 20
          · have h1 : 1 ≤ x.size := by omega
            have hi0 : (0 : Int) ≤ (x.size : Int) - 1 := by omega
            have hi1 : (x.size : Int) - 1 < (x.size : Int) := by omega
            have ht1 : ((x.size : Int) - 1).toNat = x.size - 1 := by omega
            have hw1 : IntKind.i64.wrap ((x.size : Int) - 1) = (x.size : Int) - 1 := by rw [IntKind.wrap_i64]; omega
            rw [decide_eq_true h20, Bool.true_and] at hlc
            have hal := fun W => only_host W x
            generalize (x.data.toList.all fun c => lbN c.toNat) = al at hlc hal
            have hx0 : 0 < x.size := by omega
            have hx1 : x.size - 1 < x.size := by omega
            have hx2 : ((x.size : Int) - 1).toNat < x.size := by omega
            obtain ⟨d0, hd0⟩ : ∃ d : Bool, (((x[0]'hx0).toNat : Int) != 45) = d := ⟨_, rfl⟩
            obtain ⟨d1, hd1⟩ : ∃ d : Bool, (((x[x.size - 1]'hx1).toNat : Int) != 45) = d := ⟨_, rfl⟩
            have hd2 : (((x[((x.size : Int) - 1).toNat]'hx2).toNat : Int) != 45) = d1 := by
              rw [← hd1]
              simp only [ht1]
            rw [hd0, hd1] at hlc
            have HO := Lib.hid hal
            have HF := Lib.hid H.out.2.1
            have HBK := Lib.hid H.out.2.2
            have HOK := Lib.hid H.out.1
            clear hal hx h0 H
            cases d0
            · have hRf := HFL.out hlc
              clear HFL HTK HR hpos hlc HO HBK HOK
              subst hRf
              go_wp2_with fail
              (repeat rw [Exit.noGoto_ret])
              (try simp (config := { zetaDelta := true }) only [Exit.then, Exit.noGoto, Exit.inBlock])
              go_ret
              exact ⟨rfl, HF.out⟩
            · cases d1
              · have hRf := HFL.out hlc
                clear HFL HTK HR hpos hlc HO HBK HOK
                subst hRf
                go_wp2_with fail
                (repeat rw [Exit.noGoto_ret])
                (try simp (config := { zetaDelta := true }) only [Exit.then, Exit.noGoto, Exit.inBlock])
                go_ret
                exact ⟨rfl, HF.out⟩
              · rw [Bool.true_and, Bool.true_and] at hlc
                cases al
                · have hRf := HFL.out hlc
                  clear HFL HTK HR hpos hlc HBK HOK
                  subst hRf
                  go_wp2_with fail
                  (with_reducible refine (HO.out _).mono ?_)
                  rintro e w2 ⟨rfl, hf⟩
                  go_wp2_with fail
                  (repeat rw [Exit.noGoto_ret])
                  (try simp (config := { zetaDelta := true }) only [Exit.then, Exit.noGoto, Exit.inBlock])
                  go_ret
                  exact ⟨rfl, HF.out.then hf⟩
                · have hnx : true = (decide (2 ≤ n) && (L.take (k + 1)).all fun x => labelL x.data.toList) := by
                    rw [HTK.out, hlc, Bool.and_true]
                    exact HOK.out
                  have HNX := Lib.hid hnx
                  clear HFL HTK hpos hlc hnx HOK
                  go_wp2_with fail
                  (with_reducible refine (HO.out _).mono ?_)
                  rintro e w2 ⟨rfl, hf⟩
                  have HG := Lib.hid (And.intro HNX.out (And.intro (HF.out.then hf) ((hf.block g (lt_of_heap HBK.out) (by simp)).trans HBK.out)))
                  clear hf HF HBK HNX
                  go_wp2_with fail
                  exact ⟨⟨k + 1, true, by go_num, rfl, by omega, fun _ => rfl, HG⟩, by simp only [intOf]; omega⟩
          · rw [decide_eq_false h20, Bool.false_and] at hlc
            have hRf := HFL.out hlc
            have HF := Lib.hid H.out.2.1
            clear H HFL HTK HR hpos hlc hx h0
            subst hRf
            go_wp2_with fail
            (repeat rw [Exit.noGoto_ret])
            (try simp (config := { zetaDelta := true }) only [Exit.then, Exit.noGoto, Exit.inBlock])
            go_ret
            exact ⟨rfl, HF.out⟩
    · obtain rfl : k = n := by omega
      have hRe : R = okb := by rw [HR.out, H.out.1, HN.out, List.take_length]
      have HF := Lib.hid H.out.2.1
      clear H HR HN hpos
      subst hRe
      go_wp2_with fail
      (repeat rw [Exit.noGoto_ret])
      (try simp (config := { zetaDelta := true }) only [Exit.then, Exit.noGoto, Exit.inBlock])
      go_ret
      exact ⟨rfl, HF.out⟩
end Go.Proofs.YtbeoegppldjpoaaDoor
