/- The law TokenGroups: for any text and numbers the Go function returns true (its walk). -/
import Derived.Test.YtbfpfmnkmpcgpaaGroup
namespace Go.Proofs.Ytbfpfmnkmpcgpaa
open Go.RowKit
set_option linter.unusedVariables false
set_option linter.unusedSimpArgs false

theorem groupB_list (n : Nat) (s : ByteArray) : (groupB n s).data.toList = groupL n s.data.toList := rfl
theorem ba_len (s : ByteArray) : s.data.toList.length = s.size := by rw [Array.length_toList]; rfl
theorem ba_get? (s : ByteArray) (i : Nat) (h : i < s.size) : s.data.toList[i]? = some s[i] := by
  rw [List.getElem?_eq_getElem (by rw [ba_len]; exact h)]; rfl
theorem groupB_size (n : Nat) (s : ByteArray) : (groupB n s).size = s.size + (s.size - 1) / (n + 1) := by
  have := (groupL_facts n s.data.toList.length s.data.toList (Nat.le_refl _)).1
  rw [ba_len] at this
  rw [groupB, bL_size]
  exact this
theorem groupB_dash (n : Nat) (s : ByteArray) (i : Nat) (hi : i < (groupB n s).size) (h : i % (n + 2) = n + 1) : (groupB n s)[i] = 45 := by
  have h1 := ((groupL_facts n s.data.toList.length s.data.toList (Nat.le_refl _)).2 i (by rw [← bL_size]; exact hi)).1 h
  have h2 := ba_get? (groupB n s) i hi
  rw [groupB_list, h1] at h2
  injection h2 with h2
  exact h2.symm
theorem groupB_byte (n : Nat) (s : ByteArray) (i : Nat) (hi : i < (groupB n s).size) (h : i % (n + 2) ≠ n + 1) : ∃ hl : i - i / (n + 2) < s.size, (groupB n s)[i] = s[i - i / (n + 2)] := by
  obtain ⟨h1, h3⟩ := ((groupL_facts n s.data.toList.length s.data.toList (Nat.le_refl _)).2 i (by rw [← bL_size]; exact hi)).2 h
  rw [ba_len] at h3
  have h2 := ba_get? (groupB n s) i hi
  rw [groupB_list, h1, ba_get? s _ h3] at h2
  injection h2 with h2
  exact ⟨h3, h2.symm⟩
theorem groupB_clean (n : Nat) (s : ByteArray) : cleanB (groupB n s) = cleanB s := by
  show bL (cleanL (groupL n s.data.toList)) = bL (cleanL s.data.toList)
  rw [group_clean n _ _ (Nat.le_refl _)]
theorem cleanB_enc (r : ByteArray) : cleanB (encB r) = encB r := by
  have h : ∀ m : List UInt8, (∀ c, c ∈ m → lowC c = c ∧ besideC c = false) → cleanL m = m := by
    intro m
    unfold cleanL
    induction m with
    | nil => intro _; rfl
    | cons c m ih =>
      intro hm
      obtain ⟨h1, h2⟩ := hm c (by simp)
      rw [List.map_cons, h1, List.filter_cons_of_pos (by simp [h2]), ih (fun x hx => hm x (by simp [hx]))]
  rw [cleanB, h]
  · rfl
  · intro c hc
    have := encL_ok r.data.toList 0 0 c hc
    exact ⟨by unfold lowC; rw [if_neg (by omega)], by unfold besideC; simp; omega⟩
theorem left_same (i R : Nat) (h : i % (R + 1) = R) : (i + 1) - (i + 1) / (R + 1) = i - i / (R + 1) := by
  have h1 := Nat.div_add_mod i (R + 1)
  rw [h] at h1
  have h2 : (i + 1) / (R + 1) = i / (R + 1) + 1 := by
    rw [show i + 1 = (R + 1) * (i / (R + 1) + 1) from by rw [Nat.mul_succ]; omega, Nat.mul_div_cancel_left _ (by omega)]
  have h3 := Nat.div_le_self i (R + 1)
  omega
theorem left_more (i R : Nat) (h : i % (R + 1) ≠ R) : (i + 1) - (i + 1) / (R + 1) = i - i / (R + 1) + 1 := by
  have h1 := Nat.div_add_mod i (R + 1)
  have h4 := Nat.mod_lt i (show 0 < R + 1 by omega)
  have h2 : (i + 1) / (R + 1) = i / (R + 1) := by
    rw [show i + 1 = (R + 1) * (i / (R + 1)) + (i % (R + 1) + 1) from by omega, Nat.mul_add_div (by omega), Nat.div_eq_of_lt (show i % (R + 1) + 1 < R + 1 by omega), Nat.add_zero]
  have h3 := Nat.div_le_self i (R + 1)
  omega

set_option maxHeartbeats 8000000 in
set_option maxRecDepth 100000 in
theorem TokenGroups_walk (w : World) (s : ByteArray) (hs : s.size ≤ 140737488351232) (n : Int) (hn : Bd .i64 n) (raw : Int) (hraw : Bd .i64 raw) :
    Calls Try.prog 6 #[.string s, .int .i64 n, .int .i64 raw] w fun e w' => e = .returned (.bool true) ∧ Fr [] w w' := by
  have hnb := hn.i64
  have hrb := hraw.i64
  have hss := fun W => short08_calls s 60 60 rfl W (by omega) (by decide)
  have h60 := shortB_size s 60
  generalize shortB s 60 = x at hss h60
  have h10 := draw_size x
  have hs10 : x.size + (⟨#[48, 49, 50, 51, 52, 53, 54, 55, 56, 57]⟩ : ByteArray).size ≤ 9223372036854775807 := by show x.size + 10 ≤ _; omega
  have hsh := fun W => short08_calls (x ++ ⟨#[48, 49, 50, 51, 52, 53, 54, 55, 56, 57]⟩) 10 10 rfl W (by rw [ByteArray.size_append]; show x.size + 10 ≤ _; omega) (by decide)
  generalize shortB (x ++ ⟨#[48, 49, 50, 51, 52, 53, 54, 55, 56, 57]⟩) 10 = r at hsh h10
  have hTk := fun W => Token_ten W r h10
  have hz := encB_size r
  have hzd : (encB r).size = 16 := by omega
  have hok := encB_ok r
  have hcl := cleanB_enc r
  clear hz h10
  generalize encB r = d at hTk hok hzd hcl
  have hT := Int.tmod_lt_of_pos n (show (0 : Int) < 8 by decide)
  have hT' := Int.lt_tmod_of_pos n (show (0 : Int) < 8 by decide)
  generalize hTT : n.tmod 8 = T at hT hT'
  obtain ⟨m, hm, hm8⟩ : ∃ m : Nat, (T + 8) % 8 = (m : Int) ∧ m < 8 := ⟨((T + 8) % 8).toNat, by omega, by omega⟩
  obtain ⟨k, hk⟩ : ∃ k : Nat, k = m + 1 := ⟨_, rfl⟩
  have hki : (1 : Int) + (m : Int) = (k : Int) := by omega
  have hk1 : 1 ≤ k := by omega
  have hk8 : k ≤ 8 := by omega
  have hG := fun W => Group_calls W d (by omega) m (n := (k : Int)) (by omega) (by omega)
  have hgs := groupB_size m d
  have hgc := groupB_clean m d
  rw [hcl] at hgc
  have hGD : ∀ i (hi : i < (groupB m d).size), i % (k + 1) = k → (groupB m d)[i] = 45 := fun i hi h => groupB_dash m d i hi (by rw [hk] at h; exact h)
  have hGB : ∀ i (hi : i < (groupB m d).size), i % (k + 1) ≠ k → (groupB m d)[i] ≠ 45 := fun i hi h e => by
    obtain ⟨h1, h2⟩ := groupB_byte m d i hi (by rw [hk] at h; exact h)
    have h3 := hok _ h1
    rw [← h2, e] at h3
    revert h3
    decide
  have hgsz : (groupB m d).size = 16 + 15 / k := by rw [hgs, hzd, hk]
  have hCl := fun W => Clean_calls W (groupB m d) (by have : 15 / k ≤ 15 := Nat.div_le_self _ _; omega)
  rw [hgc] at hCl
  generalize groupB m d = g at hG hGD hGB hgsz hCl
  have hgq : ((g.size : Int) != 16 + 15 / (k : Int)) = false := bne_eq_false_iff_eq.2 (by rw [hgsz]; simp)
  have hkd0 : (0 : Int) ≤ 15 / (k : Int) := Int.ediv_nonneg (by decide) (by omega)
  have hkd1 : (15 : Int) / (k : Int) ≤ 15 := Int.ediv_le_self _ (by decide)
  have hgs32 : g.size ≤ 31 := by have : 15 / k ≤ 15 := Nat.div_le_self _ _; omega
  have HC := Lib.hid (And.intro hss (And.intro hsh (And.intro hTk (And.intro hG hCl))))
  have HGD := Lib.hid (And.intro hGD hGB)
  clear hss hsh hTk hG hCl hGD hGB hgs hgc hok hcl hzd hgsz hs hk hn hraw
  have HCASE : Hid (∃ X : ByteArray, (∀ W, Calls Try.prog 13 #[.string x, .int .i64 raw] W fun e w' => e = .returned (.string X) ∧ Fr [] W w') ∧ ((X = x ∧ raw < 1) ∨ (X = x ∧ 60 ≤ raw) ∨ ∃ R : Nat, raw = (R : Int) ∧ 1 ≤ R ∧ R < 60 ∧ X.size ≤ 200 ∧ (X.size - X.size / (R + 1) = x.size) ∧ (∀ i (hi : i < X.size), i % (R + 1) = R → X[i] = 45) ∧ (∀ i (hi : i < X.size), i % (R + 1) ≠ R → ∃ hl : i - i / (R + 1) < x.size, X[i] = x[i - i / (R + 1)]))) := Lib.hid (by
    by_cases h1 : raw < 1
    · exact ⟨x, fun W => Group_none W x raw h1, .inl ⟨rfl, h1⟩⟩
    · obtain ⟨m2, hm2⟩ : ∃ m2 : Nat, raw = ((m2 + 1 : Nat) : Int) := ⟨(raw - 1).toNat, by omega⟩
      refine ⟨groupB m2 x, fun W => Group_calls W x (by omega) m2 hm2 (by omega), ?_⟩
      by_cases h2 : 60 ≤ raw
      · exact .inr (.inl ⟨groupB_end m2 x (by omega), h2⟩)
      · refine .inr (.inr ⟨m2 + 1, hm2, by omega, by omega, ?_, ?_, fun i hi h => groupB_dash m2 x i hi h, fun i hi h => groupB_byte m2 x i hi h⟩)
        · rw [groupB_size]
          have : (x.size - 1) / (m2 + 1) ≤ x.size - 1 := Nat.div_le_self _ _
          omega
        · rw [groupB_size]
          by_cases hx0 : x.size = 0
          · rw [hx0]; simp
          · exact group_left m2 x.size (by omega))
  go_enter Try.func6, Try.ntmps6
  go_wp2_with fail
  (with_reducible refine (awake08_calls _).mono ?_)
  rintro e w1 ⟨rfl, hf1⟩
  have HF1 := Lib.hid hf1
  clear hf1
  go_wp2_with fail
  (with_reducible refine (HC.out.1 _).mono ?_)
  rintro e w2 ⟨rfl, rfl⟩
  go_wp2_with fail
  (with_reducible refine (HC.out.2.1 _).mono ?_)
  rintro e w2 ⟨rfl, rfl⟩
  go_wp2_with fail
  (with_reducible refine (HC.out.2.2.1 _).mono ?_)
  rintro e w3 ⟨rfl, hf3⟩
  have HF3 := Lib.hid (HF1.out.then hf3)
  clear hf3 HF1 hs10
  go_wp2_with fail
  (try rw [hm])
  (try rw [hki])
  clear hm hTT hT hT' hki
  (with_reducible refine (HC.out.2.2.2.1 _).mono ?_)
  rintro e w4 ⟨rfl, hf4⟩
  have HF4 := Lib.hid (HF3.out.then hf4)
  clear hf4 HF3
  obtain ⟨X, hX, hcase⟩ := HCASE.out
  have HX := Lib.hid hX
  have HCS := Lib.hid hcase
  clear hX hcase HCASE
  go_wp2_with fail
  (with_reducible refine (HX.out _).mono ?_)
  rintro e w5 ⟨rfl, hf5⟩
  have HF5 := Lib.hid (HF4.out.then hf5)
  clear hf5 HF4 HX
  go_wp2_with fail
  (with_reducible refine (HC.out.2.2.2.2 _).mono ?_)
  rintro e w6 ⟨rfl, hf6⟩
  have HF6 := Lib.hid (HF5.out.then hf6)
  clear hf6 HF5
  rcases HCS.out with ⟨hXx, hr1⟩ | ⟨hXx, hr60⟩ | ⟨R, hRr, hR1, hR60, hX200, hXL, hXD, hXB⟩
  · subst hXx
    have hr60 : ¬ 60 ≤ raw := by omega
    have hr59 : raw < 60 := by omega
    clear HCS
    go_wp2_with fail
    go_loopw [12] (fun v12 wr => ∃ i : Nat, v12 = .int .i64 i ∧ i ≤ g.size ∧ Hid (Fr [] w wr)) (fun v12 _ => g.size - (intOf v12).toNat)
    case atStart => exact ⟨0, rfl, Nat.zero_le _, HF6⟩
    case round =>
      clear HF6
      obtain ⟨i, rfl, hi, H⟩ := hrel
      by_cases hlt : i < g.size
      · obtain ⟨ρ, hρ, hmod⟩ : ∃ ρ : Nat, i % (k + 1) = ρ ∧ (i : Int).tmod ((k : Int) + 1) = (ρ : Int) := ⟨_, rfl, by rw [Int.tmod_eq_emod_of_nonneg (by omega)]; simp⟩
        have hmod2 : (i : Int) % ((k : Int) + 1) = (ρ : Int) := by rw [← hmod, Int.tmod_eq_emod_of_nonneg (by omega)]
        have hw : IntKind.i64.wrap ((k : Int) + 1) = (k : Int) + 1 := by rw [IntKind.wrap_i64]; omega
        have hk0 : ¬ ((k : Int) + 1 = 0) := by omega
        have hi0 : (0 : Int) ≤ (i : Int) := by omega
        have hi1 : (i : Int) < (g.size : Int) := by omega
        have hρ0 : ρ ≤ 8 := by have := Nat.mod_lt i (show 0 < k + 1 by omega); omega
        by_cases hρk : ρ = k
        · have hb := HGD.out.1 i hlt (by rw [hρ, hρk])
          have hb1 : (((g[i]).toNat : Int) == 45) = true := beq_iff_eq.2 (by rw [hb]; rfl)
          have hb2 : ((ρ : Int) == (k : Int)) = true := beq_iff_eq.2 (by omega)
          clear hρ hb hρk
          go_wp2_with fail
          go_quiet (fail)
          clear hmod hmod2 hw hb1 hb2
          go_wp2_with fail
          exact ⟨⟨i + 1, by go_num, by omega, Lib.hid (H.out.drewN _)⟩, by simp only [intOf]; omega⟩
        · have hb := HGD.out.2 i hlt (by rw [hρ]; exact hρk)
          have hb1 : (((g[i]).toNat : Int) == 45) = false := beq_eq_false_iff_ne.2 (fun e => hb (UInt8.toNat_inj.1 (by show _ = 45; omega)))
          have hb2 : ((ρ : Int) == (k : Int)) = false := beq_eq_false_iff_ne.2 (by omega)
          clear hρ hb hρk
          go_wp2_with fail
          go_quiet (fail)
          clear hmod hmod2 hw hb1 hb2
          go_wp2_with fail
          exact ⟨⟨i + 1, by go_num, by omega, Lib.hid (H.out.drewN _)⟩, by simp only [intOf]; omega⟩
      · obtain rfl : i = g.size := by omega
        go_wp2_with fail
        go_loop [13, 14] (fun v13 v14 => v13 = .int .i64 0 ∧ v14 = .int .i64 0) (fun _ _ => 0)
        case atStart => exact ⟨rfl, rfl⟩
        case round =>
          obtain ⟨rfl, rfl⟩ := hrel
          by_cases hx0 : 0 < X.size
          · go_wp2_with fail
            go_ret
            exact ⟨rfl, H.out⟩
          · have hx0' : ¬ (0 : Int) < (X.size : Int) := by omega
            go_wp2_with fail
            go_ret
            exact ⟨rfl, H.out⟩

  · subst hXx
    have hr1 : ¬ raw < 1 := by omega
    have hr1' : 1 ≤ raw := by omega
    have hr59 : ¬ raw < 60 := by omega
    clear HCS
    go_wp2_with fail
    go_loopw [12] (fun v12 wr => ∃ i : Nat, v12 = .int .i64 i ∧ i ≤ g.size ∧ Hid (Fr [] w wr)) (fun v12 _ => g.size - (intOf v12).toNat)
    case atStart => exact ⟨0, rfl, Nat.zero_le _, HF6⟩
    case round =>
      clear HF6
      obtain ⟨i, rfl, hi, H⟩ := hrel
      by_cases hlt : i < g.size
      · obtain ⟨ρ, hρ, hmod⟩ : ∃ ρ : Nat, i % (k + 1) = ρ ∧ (i : Int).tmod ((k : Int) + 1) = (ρ : Int) := ⟨_, rfl, by rw [Int.tmod_eq_emod_of_nonneg (by omega)]; simp⟩
        have hmod2 : (i : Int) % ((k : Int) + 1) = (ρ : Int) := by rw [← hmod, Int.tmod_eq_emod_of_nonneg (by omega)]
        have hw : IntKind.i64.wrap ((k : Int) + 1) = (k : Int) + 1 := by rw [IntKind.wrap_i64]; omega
        have hk0 : ¬ ((k : Int) + 1 = 0) := by omega
        have hi0 : (0 : Int) ≤ (i : Int) := by omega
        have hi1 : (i : Int) < (g.size : Int) := by omega
        have hρ0 : ρ ≤ 8 := by have := Nat.mod_lt i (show 0 < k + 1 by omega); omega
        by_cases hρk : ρ = k
        · have hb := HGD.out.1 i hlt (by rw [hρ, hρk])
          have hb1 : (((g[i]).toNat : Int) == 45) = true := beq_iff_eq.2 (by rw [hb]; rfl)
          have hb2 : ((ρ : Int) == (k : Int)) = true := beq_iff_eq.2 (by omega)
          clear hρ hb hρk
          go_wp2_with fail
          go_quiet (fail)
          clear hmod hmod2 hw hb1 hb2
          go_wp2_with fail
          exact ⟨⟨i + 1, by go_num, by omega, Lib.hid (H.out.drewN _)⟩, by simp only [intOf]; omega⟩
        · have hb := HGD.out.2 i hlt (by rw [hρ]; exact hρk)
          have hb1 : (((g[i]).toNat : Int) == 45) = false := beq_eq_false_iff_ne.2 (fun e => hb (UInt8.toNat_inj.1 (by show _ = 45; omega)))
          have hb2 : ((ρ : Int) == (k : Int)) = false := beq_eq_false_iff_ne.2 (by omega)
          clear hρ hb hρk
          go_wp2_with fail
          go_quiet (fail)
          clear hmod hmod2 hw hb1 hb2
          go_wp2_with fail
          exact ⟨⟨i + 1, by go_num, by omega, Lib.hid (H.out.drewN _)⟩, by simp only [intOf]; omega⟩
      · obtain rfl : i = g.size := by omega
        go_wp2_with fail
        go_loop [13, 14] (fun v13 v14 => v13 = .int .i64 0 ∧ v14 = .int .i64 0) (fun _ _ => 0)
        case atStart => exact ⟨rfl, rfl⟩
        case round =>
          obtain ⟨rfl, rfl⟩ := hrel
          by_cases hx0 : 0 < X.size
          · go_wp2_with fail
            go_ret
            exact ⟨rfl, H.out⟩
          · have hx0' : ¬ (0 : Int) < (X.size : Int) := by omega
            go_wp2_with fail
            go_ret
            exact ⟨rfl, H.out⟩

  · subst hRr
    have HXD := Lib.hid hXD
    have HXB := Lib.hid hXB
    have hr1 : ¬ (R : Int) < 1 := by omega
    have hr1' : (1 : Int) ≤ (R : Int) := by omega
    have hr59 : (R : Int) < 60 := by omega
    have hr60 : ¬ (60 : Int) ≤ (R : Int) := by omega
    clear HCS hXD hXB
    go_wp2_with fail
    go_loopw [12] (fun v12 wr => ∃ i : Nat, v12 = .int .i64 i ∧ i ≤ g.size ∧ Hid (Fr [] w wr)) (fun v12 _ => g.size - (intOf v12).toNat)
    case atStart => exact ⟨0, rfl, Nat.zero_le _, HF6⟩
    case round =>
      clear HF6
      obtain ⟨i, rfl, hi, H⟩ := hrel
      by_cases hlt : i < g.size
      · obtain ⟨ρ, hρ, hmod⟩ : ∃ ρ : Nat, i % (k + 1) = ρ ∧ (i : Int).tmod ((k : Int) + 1) = (ρ : Int) := ⟨_, rfl, by rw [Int.tmod_eq_emod_of_nonneg (by omega)]; simp⟩
        have hmod2 : (i : Int) % ((k : Int) + 1) = (ρ : Int) := by rw [← hmod, Int.tmod_eq_emod_of_nonneg (by omega)]
        have hw : IntKind.i64.wrap ((k : Int) + 1) = (k : Int) + 1 := by rw [IntKind.wrap_i64]; omega
        have hk0 : ¬ ((k : Int) + 1 = 0) := by omega
        have hi0 : (0 : Int) ≤ (i : Int) := by omega
        have hi1 : (i : Int) < (g.size : Int) := by omega
        have hρ0 : ρ ≤ 8 := by have := Nat.mod_lt i (show 0 < k + 1 by omega); omega
        by_cases hρk : ρ = k
        · have hb := HGD.out.1 i hlt (by rw [hρ, hρk])
          have hb1 : (((g[i]).toNat : Int) == 45) = true := beq_iff_eq.2 (by rw [hb]; rfl)
          have hb2 : ((ρ : Int) == (k : Int)) = true := beq_iff_eq.2 (by omega)
          clear hρ hb hρk
          go_wp2_with fail
          go_quiet (fail)
          clear hmod hmod2 hw hb1 hb2
          go_wp2_with fail
          exact ⟨⟨i + 1, by go_num, by omega, Lib.hid (H.out.drewN _)⟩, by simp only [intOf]; omega⟩
        · have hb := HGD.out.2 i hlt (by rw [hρ]; exact hρk)
          have hb1 : (((g[i]).toNat : Int) == 45) = false := beq_eq_false_iff_ne.2 (fun e => hb (UInt8.toNat_inj.1 (by show _ = 45; omega)))
          have hb2 : ((ρ : Int) == (k : Int)) = false := beq_eq_false_iff_ne.2 (by omega)
          clear hρ hb hρk
          go_wp2_with fail
          go_quiet (fail)
          clear hmod hmod2 hw hb1 hb2
          go_wp2_with fail
          exact ⟨⟨i + 1, by go_num, by omega, Lib.hid (H.out.drewN _)⟩, by simp only [intOf]; omega⟩
      · obtain rfl : i = g.size := by omega
        have HF7 := Lib.hid H.out
        clear H
        go_wp2_with fail
        go_loopw [13, 14] (fun v13 v14 wr => ∃ j : Nat, j ≤ X.size ∧ v14 = .int .i64 j ∧ v13 = .int .i64 ((j - j / (R + 1) : Nat) : Int) ∧ Hid (Fr [] w wr)) (fun _ v14 _ => X.size - (intOf v14).toNat)
        case atStart => exact ⟨0, Nat.zero_le _, rfl, by simp, HF7⟩
        case round =>
          clear HF7
          obtain ⟨j, hj, rfl, rfl, H⟩ := hrel
          by_cases hlj : j < X.size
          · obtain ⟨ρ, hρ, hmod⟩ : ∃ ρ : Nat, j % (R + 1) = ρ ∧ (j : Int) % ((R : Int) + 1) = (ρ : Int) := ⟨_, rfl, by simp⟩
            have hR0 : ¬ ((R : Int) + 1 = 0) := by omega
            have hj0 : (0 : Int) ≤ (j : Int) := by omega
            have hj1 : (j : Int) < (X.size : Int) := by omega
            have hρ0 : ρ ≤ 60 := by have := Nat.mod_lt j (show 0 < R + 1 by omega); omega
            obtain ⟨q, hq⟩ : ∃ q, j - j / (R + 1) = q := ⟨_, rfl⟩
            have HQ := Lib.hid hq
            have hqj : q ≤ j := hq ▸ Nat.sub_le _ _
            by_cases hρR : ρ = R
            · have hb := HXD.out j hlj (by rw [hρ, hρR])
              have hs := left_same j R (by rw [hρ, hρR])
              rw [hq] at hs ⊢
              have hb1 : (((X[j]).toNat : Int) != 45) = false := bne_eq_false_iff_eq.2 (by rw [hb]; rfl)
              have hb2 : ((ρ : Int) == (R : Int)) = true := beq_iff_eq.2 (by omega)
              have HSS := Lib.hid hs
              clear hρ hb hρR hs hq
              go_wp2_with fail
              exact ⟨⟨j + 1, by omega, by go_num, by rw [HSS.out], H⟩, by simp only [intOf]; omega⟩
            · obtain ⟨hl, hb⟩ := HXB.out j hlj (by rw [hρ]; exact hρR)
              have hs := left_more j R (by rw [hρ]; exact hρR)
              rw [hq] at hs ⊢
              simp only [hq] at hl hb
              have hb1 : (((X[j]).toNat : Int) != ((x[q]).toNat : Int)) = false := bne_eq_false_iff_eq.2 (by rw [hb])
              have hb2 : ((ρ : Int) == (R : Int)) = false := beq_eq_false_iff_ne.2 (by omega)
              have hq0 : (0 : Int) ≤ (q : Int) := by omega
              have hq1 : (q : Int) < (x.size : Int) := by omega
              have HSS := Lib.hid hs
              clear hρ hb hρR hs hq
              go_wp2_with fail
              go_quiet (fail)
              clear hmod hb1 hb2
              go_wp2_with fail
              exact ⟨⟨j + 1, by omega, by go_num, by rw [HSS.out]; go_num, Lib.hid (H.out.drewN _)⟩, by simp only [intOf]; omega⟩
          · obtain rfl : j = X.size := by omega
            have HL := Lib.hid hXL
            obtain ⟨q, hq⟩ : ∃ q, X.size - X.size / (R + 1) = q := ⟨_, rfl⟩
            rw [hq] at hXL ⊢
            have hqq : ((q : Int) == (x.size : Int)) = true := beq_iff_eq.2 (by omega)
            clear hq hXL HL
            go_wp2_with fail
            go_ret
            exact ⟨rfl, H.out⟩

end Go.Proofs.Ytbfpfmnkmpcgpaa
