/- The law DiskStays: for any two texts and any two numbers the Go function returns true (its walk). -/
import Derived.Test.YtndenbcdhbnamaaDisk7
import Derived.Test.YtndenbcdhbnamaaDiskPure
import Derived.Test.YtndenbcdhbnamaaShort02
namespace Go.Proofs.Ytndenbcdhbnamaa
open Go.RowKit
set_option linter.unusedVariables false
set_option linter.unusedSimpArgs false

theorem tmod_bounds' (x m : Int) (hm : 0 < m) : -m < x.tmod m ∧ x.tmod m < m := ⟨Int.lt_tmod_of_pos x hm, Int.tmod_lt_of_pos x hm⟩

set_option maxHeartbeats 2000000 in
set_option maxRecDepth 100000 in
theorem DiskStays_walk (w : World) (a0 : ByteArray) (ha0 : a0.size ≤ 140737488351232) (b0 : ByteArray) (hb0 : b0.size ≤ 140737488351232) (q0 q1 : Int) (hq0 : Bd .i64 q0) (hq1 : Bd .i64 q1) :
    Calls Try.prog 4 #[.string a0, .string b0, .agg #[.int .i64 q0, .int .i64 q1]] w fun e w' => e = .returned (.bool true) ∧ Fr [] w w' := by
  have ⟨hq00, hq01⟩ := hq0.i64
  have ⟨hq10, hq11⟩ := hq1.i64
  clear hq0 hq1
  obtain ⟨T, hT, hT0, hT1⟩ : ∃ T, q0.tmod 41 = T ∧ -41 < T ∧ T < 41 := ⟨_, rfl, tmod_bounds' _ _ (by decide)⟩
  obtain ⟨at', hat, hat41⟩ : ∃ q : Nat, (T + 41) % 41 = (q : Int) ∧ q < 41 := ⟨((T + 41) % 41).toNat, by omega, by omega⟩
  have hat2 : T % 41 = (at' : Int) := by omega
  obtain ⟨U, hU, hU0, hU1⟩ : ∃ U, q1.tmod 41 = U ∧ -41 < U ∧ U < 41 := ⟨_, rfl, tmod_bounds' _ _ (by decide)⟩
  obtain ⟨k, hkk, hk41⟩ : ∃ k : Nat, (U + 41) % 41 = (k : Int) ∧ k < 41 := ⟨((U + 41) % 41).toNat, by omega, by omega⟩
  have hkk2 : U % 41 = (k : Int) := by omega
  have hF0 : Fr [] w (w.alloc (.cells #[.int .i64 q0, .int .i64 q1] 34)) := (Fr.refl _ _).alloc _
  have hnew : (w.alloc (.cells #[.int .i64 q0, .int .i64 q1] 34)).heap[w.heap.size]? = some (.cells #[.int .i64 q0, .int .i64 q1] 34 (0, 0)) := heap_alloc_new _ _
  have hq0 : (w.alloc (.cells #[.int .i64 q0, .int .i64 q1] 34)).cell? ⟨w.heap.size, 0, none⟩ = some (.int .i64 q0) := by rw [Lib.cell_of_heap hnew]; rfl
  have hq1 : (w.alloc (.cells #[.int .i64 q0, .int .i64 q1] 34)).cell? ⟨w.heap.size, 1, none⟩ = some (.int .i64 q1) := by rw [Lib.cell_of_heap hnew]; rfl
  have HQ := Lib.hid (And.intro hF0 (And.intro hq0 hq1))
  clear hF0 hnew hq0 hq1
  go_enter Try.func4, Try.ntmps4
  go_wp2_with fail
  (with_reducible refine (awake02_calls _).mono ?_)
  rintro e w1 ⟨rfl, hf1⟩
  generalize w.alloc (.cells #[.int .i64 q0, .int .i64 q1] 34) = W0 at hf1 HQ
  go_wp2_with fail
  (with_reducible refine (short02_calls a0 40 40 rfl _ (by omega) (by omega)).mono ?_)
  rintro e w2 ⟨rfl, rfl⟩
  have ha := shortB_size a0 40
  generalize shortB a0 40 = a at ha ⊢
  go_wp2_with fail
  (with_reducible refine (short02_calls b0 40 40 rfl _ (by omega) (by omega)).mono ?_)
  rintro e w2 ⟨rfl, rfl⟩
  have hb := shortB_size b0 40
  generalize shortB b0 40 = b at hb ⊢
  clear ha0 hb0
  have c0 := hf1.cell' HQ.out.2.1 (by simp)
  go_wp2_with fail
  (with_reducible refine (NewN_calls W0 _ hf1 100 (show (100 : Int) = ((100 : Nat) : Int) from rfl) (by decide) (by decide)).mono ?_)
  rintro e w2 ⟨d, ps, pn, rfl, h2⟩
  clear hf1 c0
  have hz := zerosB_size 100
  generalize hZ : zerosB 100 = Z at h2 hz
  have HZ := Lib.hid hZ
  clear hZ
  have g0 : 0 + a.size ≤ Z.size := by omega
  go_wp2_with fail
  (with_reducible refine (Write0_calls W0 _ d ps pn _ _ _ _ _ h2 0 zi0 a g0 (by decide)).mono ?_)
  rintro e w3 ⟨rfl, v3, r3, h3⟩
  clear h2
  go_wp2_with fail
  (with_reducible refine (SyncN_calls W0 _ d ps pn _ _ _ _ _ h3).mono ?_)
  rintro e w4 ⟨rfl, v4, h4⟩
  clear h3
  have hst : (ovB Z 0 a).size = 100 := by rw [ovB_size (by omega)]; exact hz
  have hsg : ∀ p, gB (ovB Z 0 a) p = if p < a.size then gB a p else 0 := by
    intro p
    rw [gB_ov (by omega), ← HZ.out, zerosB, gB_zeros]
    by_cases h : p < a.size
    · rw [if_pos (by omega), if_pos h, Nat.sub_zero]
    · rw [if_neg (by omega), if_neg h]
  generalize ovB Z 0 a = st at h4 hst hsg
  have g1 : at' + b.size ≤ st.size := by omega
  go_wp2_with fail
  (try rw [hat2])
  (with_reducible refine (Write0_calls W0 _ d ps pn _ _ _ _ _ h4 at' rfl b g1 (by decide)).mono ?_)
  rintro e w5 ⟨rfl, v5, r5, h5⟩
  clear h4 hT hT0 hT1 hat hat2
  have c1 := h5.fr.cell' HQ.out.2.2 (by simp)
  obtain ⟨m, L, hmL⟩ : ∃ m L, (k ≤ b.size ∧ m = k ∧ L = b.size - k) ∨ (b.size < k ∧ m = b.size ∧ L = 0) := by
    by_cases h : k ≤ b.size
    · exact ⟨k, b.size - k, .inl ⟨h, rfl, rfl⟩⟩
    · exact ⟨b.size, 0, .inr ⟨by omega, rfl, rfl⟩⟩
  have hS : crashS ([] ++ [(at', b)]) (k : Int) st 0 = (ovB st at' (b.extract 0 m), L) := by
    have e : min ((k : Int)).toNat b.size = m := by omega
    rw [List.nil_append, crashS, crashS, e]
    congr 1
    omega
  have hmb : (b.extract 0 m).size = m := by rw [ByteArray.size_extract]; omega
  have hS100 : (ovB st at' (b.extract 0 m)).size = 100 := by rw [ovB_size (by omega)]; exact hst
  have hSg : ∀ p, gB (ovB st at' (b.extract 0 m)) p = if at' ≤ p ∧ p < at' + m then gB b (p - at') else if p < a.size then gB a p else 0 := by
    intro p
    rw [gB_ov (by omega), hmb, hsg]
    by_cases h : at' ≤ p ∧ p < at' + m
    · rw [if_pos h, if_pos h, gB_cut, if_pos (by omega), Nat.zero_add]
    · rw [if_neg h, if_neg h]
  generalize ovB st at' (b.extract 0 m) = R at hS hS100 hSg
  have HS := Lib.hid hS
  have HG := Lib.hid hSg
  have HML := Lib.hid hmL
  clear hS hSg hsg hmb g0 g1 hz HZ
  go_wp2_with fail
  (try rw [hkk2])
  (with_reducible refine (CrashN_calls W0 _ d ps pn _ _ _ _ _ _ _ h5 k (by omega) (by omega) HS.out).mono ?_)
  rintro e w6 ⟨rfl, v6, h6⟩
  clear h5 c1 HS
  (try rw [hkk2])
  (try rw [hkk])
  clear hU hU0 hU1 hkk hkk2
  have g2 : 0 + 100 ≤ R.size := by omega
  go_wp2_with fail
  (with_reducible refine (Read_calls _ d ps pn _ _ _ _ _ _ h6.dk 0 100 zi0 (show (100 : Int) = ((100 : Nat) : Int) from rfl) g2).mono ?_)
  rintro e w7 ⟨rfl, rfl⟩
  have hfull : R.extract 0 (0 + 100) = R := by rw [show 0 + 100 = R.size from by omega, ByteArray.extract_zero_size]
  rw [hfull]
  have H6 := Lib.hid h6
  clear hfull h6 g2
  rcases HML.out with ⟨hkb, hm, hL⟩ | ⟨hkb, hm, hL⟩
  · have hLi : (b.size : Int) - (k : Int) = (L : Int) := by omega
    have hm' : m = k := hm
    subst hm'
    clear HML hm hL
    go_wp2_with fail
    go_loop [14] (fun v14 => ∃ i : Nat, v14 = .int .i64 i ∧ i ≤ 100) (fun v14 => 100 - (intOf v14).toNat)
    case atStart => exact ⟨0, rfl, by decide⟩
    case round =>
      obtain ⟨i, rfl, hi⟩ := hrel
      by_cases hi100 : i < 100
      · have hRi : (R[i]'(by omega)).toNat = (gB R i).toNat := by rw [gB_get]
        rw [HG.out] at hRi
        by_cases h1 : at' ≤ i ∧ i < at' + m
        · obtain ⟨h1, h2⟩ := h1
          rw [if_pos ⟨h1, h2⟩] at hRi
          obtain ⟨j, hj⟩ : ∃ j, j = i - at' := ⟨_, rfl⟩
          rw [← hj, ← gB_get b j (by omega)] at hRi
          have hji : (i : Int) - (at' : Int) = (j : Int) := by omega
          by_cases h3 : i < a.size
          · go_wp2
            exact ⟨⟨i + 1, by go_num, by omega⟩, by simp only [intOf]; omega⟩
          · go_wp2
            exact ⟨⟨i + 1, by go_num, by omega⟩, by simp only [intOf]; omega⟩
        · rw [if_neg h1] at hRi
          have h1c : i < at' ∨ at' + m ≤ i := by omega
          by_cases h3 : i < a.size
          · rw [if_pos h3, ← gB_get a i h3] at hRi
            rcases h1c with h1c | h1c
            · clear h1
              go_wp2
              exact ⟨⟨i + 1, by go_num, by omega⟩, by simp only [intOf]; omega⟩
            · have h4 : at' ≤ i := by omega
              clear h1
              go_wp2
              exact ⟨⟨i + 1, by go_num, by omega⟩, by simp only [intOf]; omega⟩
          · rw [if_neg h3] at hRi
            have hRi' : (R[i]'(by omega)).toNat = 0 := hRi
            clear hRi
            rcases h1c with h1c | h1c
            · clear h1
              go_wp2
              exact ⟨⟨i + 1, by go_num, by omega⟩, by simp only [intOf]; omega⟩
            · have h4 : at' ≤ i := by omega
              clear h1
              go_wp2
              exact ⟨⟨i + 1, by go_num, by omega⟩, by simp only [intOf]; omega⟩
      · have hi' : 100 ≤ i := by omega
        clear HG
        go_wp2_with fail
        (with_reducible refine (Pending_calls _ d ps pn _ _ _ _ _ _ _ H6.out.dk).mono ?_)
        rintro e w8 ⟨rfl, hf8⟩
        rw [show pend [] = 0 from rfl]
        have hF := HQ.out.1.then (H6.out.fr.then hf8)
        go_wp2_with fail
        go_ret
        exact ⟨rfl, hF⟩
  · subst hm hL
    clear HML
    go_wp2_with fail
    go_loop [14] (fun v14 => ∃ i : Nat, v14 = .int .i64 i ∧ i ≤ 100) (fun v14 => 100 - (intOf v14).toNat)
    case atStart => exact ⟨0, rfl, by decide⟩
    case round =>
      obtain ⟨i, rfl, hi⟩ := hrel
      by_cases hi100 : i < 100
      · have hRi : (R[i]'(by omega)).toNat = (gB R i).toNat := by rw [gB_get]
        rw [HG.out] at hRi
        by_cases h1 : at' ≤ i ∧ i < at' + b.size
        · obtain ⟨h1, h2⟩ := h1
          rw [if_pos ⟨h1, h2⟩] at hRi
          obtain ⟨j, hj⟩ : ∃ j, j = i - at' := ⟨_, rfl⟩
          rw [← hj, ← gB_get b j (by omega)] at hRi
          have hji : (i : Int) - (at' : Int) = (j : Int) := by omega
          by_cases h3 : i < a.size
          · go_wp2
            exact ⟨⟨i + 1, by go_num, by omega⟩, by simp only [intOf]; omega⟩
          · go_wp2
            exact ⟨⟨i + 1, by go_num, by omega⟩, by simp only [intOf]; omega⟩
        · rw [if_neg h1] at hRi
          have h1c : i < at' ∨ at' + b.size ≤ i := by omega
          by_cases h3 : i < a.size
          · rw [if_pos h3, ← gB_get a i h3] at hRi
            rcases h1c with h1c | h1c
            · clear h1
              go_wp2
              exact ⟨⟨i + 1, by go_num, by omega⟩, by simp only [intOf]; omega⟩
            · have h4 : at' ≤ i := by omega
              clear h1
              go_wp2
              exact ⟨⟨i + 1, by go_num, by omega⟩, by simp only [intOf]; omega⟩
          · rw [if_neg h3] at hRi
            have hRi' : (R[i]'(by omega)).toNat = 0 := hRi
            clear hRi
            rcases h1c with h1c | h1c
            · clear h1
              go_wp2
              exact ⟨⟨i + 1, by go_num, by omega⟩, by simp only [intOf]; omega⟩
            · have h4 : at' ≤ i := by omega
              clear h1
              go_wp2
              exact ⟨⟨i + 1, by go_num, by omega⟩, by simp only [intOf]; omega⟩
      · have hi' : 100 ≤ i := by omega
        clear HG
        go_wp2_with fail
        (with_reducible refine (Pending_calls _ d ps pn _ _ _ _ _ _ _ H6.out.dk).mono ?_)
        rintro e w8 ⟨rfl, hf8⟩
        rw [show pend [] = 0 from rfl]
        have hF := HQ.out.1.then (H6.out.fr.then hf8)
        go_wp2_with fail
        go_ret
        exact ⟨rfl, hF⟩

end Go.Proofs.Ytndenbcdhbnamaa
