/- The law EventTells: for any events and any kind the Go function returns true (its walk). -/
import Derived.Test.YtngonnnjehlfbaaRef15B
import Derived.Test.YtngonnnjehlfbaaFew15
import Derived.Test.YtngonnnjehlfbaaEvRight
namespace Go.Proofs.Ytngonnnjehlfbaa
open Go.RowKit
set_option linter.unusedVariables false
set_option linter.unusedSimpArgs false

theorem c8_keep {W w' : World} {p0 p1 p2 p3 p4 p5 p6 p7 : Addr} {v0 v1 v2 v3 v4 v5 v6 v7 : Value} (h : ∀ p v, W.cell? p = some v → w'.cell? p = some v)
    (hs : W.cell? p0 = some v0 ∧ W.cell? p1 = some v1 ∧ W.cell? p2 = some v2 ∧ W.cell? p3 = some v3 ∧ W.cell? p4 = some v4 ∧ W.cell? p5 = some v5 ∧ W.cell? p6 = some v6 ∧ W.cell? p7 = some v7) :
    w'.cell? p0 = some v0 ∧ w'.cell? p1 = some v1 ∧ w'.cell? p2 = some v2 ∧ w'.cell? p3 = some v3 ∧ w'.cell? p4 = some v4 ∧ w'.cell? p5 = some v5 ∧ w'.cell? p6 = some v6 ∧ w'.cell? p7 = some v7 :=
  ⟨h _ _ hs.1, h _ _ hs.2.1, h _ _ hs.2.2.1, h _ _ hs.2.2.2.1, h _ _ hs.2.2.2.2.1, h _ _ hs.2.2.2.2.2.1, h _ _ hs.2.2.2.2.2.2.1, h _ _ hs.2.2.2.2.2.2.2⟩

set_option maxHeartbeats 4000000 in
set_option maxRecDepth 100000 in
theorem EventTells_core (w : World) (A : Option Addr) (cap : Nat) (l : List Ev) (hr : EvR w A l) (hb : ∀ e, e ∈ l → e.bd) (hl : l.length ≤ maxLen) (kind : Int) (hkind : Bd .i64 kind) :
    Calls Try.prog 8 #[.slice A l.length cap, .int .i64 kind] w fun e w' => e = .returned (.bool true) ∧ Fr [] w w' := by
  obtain ⟨hk0, hk1⟩ := hkind.i64
  obtain ⟨kk, hkk, hkk32⟩ : ∃ k : Nat, bits BinOp.and IntKind.i64 kind 31 = (k : Int) ∧ k < 32 := ⟨(kind % 32).toNat, by rw [i64_and31]; omega, by omega⟩
  have hn1 := fun W => Name_calls W kind hk0 hk1
  have hn2 := fun W => RName_calls W kind hk0 hk1
  have hn3 := fun W => Name_calls W (kk : Int) (by omega) (by omega)
  have hn4 := fun W => RName_calls W (kk : Int) (by omega) (by omega)
  generalize evName kind = nk at *
  generalize evName (kk : Int) = nkk at *
  have HN1 := Lib.hid hn1
  have HN2 := Lib.hid hn2
  have HN3 := Lib.hid hn3
  have HN4 := Lib.hid hn4
  clear hn1 hn2 hn3 hn4 hk0 hk1 hkk32
  have HKK := Lib.hid hkk
  clear hkk hkind
  go_enter Try.func8, Try.ntmps8
  go_wp2_with fail
  (with_reducible refine (awake15_calls _).mono ?_)
  rintro e w1 ⟨rfl, hf1⟩
  go_wp2_with fail
  have h26 : (26 : Int) = ((26 : Nat) : Int) := rfl
  (with_reducible refine (few15_calls _ A cap l 26 h26 (by decide) (hr.keep hf1 (by simp)) hb hl).mono ?_)
  rintro e w2 ⟨v, r, rfl, hsr, hf2, hnew⟩
  clear h26
  have hshX : ∀ e, e ∈ evFew l 26 → e.short 140737488351232 := by
    intro e he
    obtain ⟨x, _, rfl⟩ := List.mem_map.1 he
    have h1 := shortB_size x.a 102
    have h2 := shortB_size x.b 102
    have h3 := shortB_size x.c 102
    exact ⟨by simp only [evShort]; omega, by simp only [evShort]; omega, by simp only [evShort]; omega⟩
  have hx26 : (evFew l 26).length ≤ 26 := by unfold evFew; rw [List.length_map, List.length_take]; omega
  generalize evFew l 26 = m at *
  obtain ⟨A1, c1, rfl, -, -, hrd, -⟩ := hsr.reads
  have her := EvR.of_flat hrd
  have hF2 := hf1.then hf2
  clear hsr hrd hnew hf1 hf2
  go_wp2_with fail
  (with_reducible refine (right_calls _ A cap l (hr.keep hF2 (by simp)) hb hl).mono ?_)
  rintro e w3 ⟨v, r, rfl, hsr, hf3, hnew⟩
  have hshY : ∀ e, e ∈ evRights l → e.short 140737488351232 := by
    intro e he
    obtain ⟨x, _, rfl⟩ := List.mem_map.1 he
    have h1 := shortB_size x.a 100
    have h2 := shortB_size x.b 100
    have h3 := shortB_size x.c 100
    exact ⟨by simp only [evRight]; omega, by simp only [evRight]; omega, by simp only [evRight]; omega⟩
  have hy24 := evRights_length l
  generalize evRights l = y at *
  obtain ⟨A2, c2, rfl, -, -, hrd, -⟩ := hsr.reads
  have hery := EvR.of_flat hrd
  have hF3 := hF2.then hf3
  have her := her.keep hf3 (by simp)
  have HX := Lib.hid her
  have HY := Lib.hid hery
  have HF3 := Lib.hid hF3
  have HSX := Lib.hid hshX
  have HSY := Lib.hid hshY
  clear hsr hrd hnew hF2 hf3 hr hb hl her hery hshX hshY hF3
  go_wp2_with fail
  go_loopw [8] (fun v8 wr => ∃ (k : Nat), v8 = .int .i64 k ∧ k ≤ m.length ∧ Hid (Fr [] w3 wr)) (fun v8 _ => m.length - (intOf v8).toNat)
  case atStart => exact ⟨0, rfl, Nat.zero_le _, Fr.refl _ _⟩
  case round =>
    obtain ⟨i, rfl, hk, H⟩ := hrel
    by_cases hlk : i < m.length
    · obtain ⟨x, hx⟩ : ∃ x, m[i]? = some x := ⟨_, List.getElem?_eq_getElem hlk⟩
      have hxs := HSX.out x (List.mem_of_getElem? hx)
      obtain ⟨ad, rfl, h0⟩ := HX.out i x hx
      obtain ⟨c0, c1', c2', c3, c4, c5, c6, c7⟩ := h0.keep H.out (by simp)
      obtain ⟨xk, xac, xpu, xat, xn, xa, xb, xc⟩ := x
      have hc1 := fun W => Check_calls' W xk xac xpu xat xn xa xb xc hxs
      have hc2 := fun W => RCheck_calls W xk xac xpu xat xn xa xb xc hxs
      have hc3 := fun W => EBytes_calls W xk xac xpu xat xn xa xb xc hxs
      have hc4 := fun W => RBytes_calls W xk xac xpu xat xn xa xb xc hxs
      generalize (Ev.mk xk xac xpu xat xn xa xb xc).ok = okx at hc1 hc2
      generalize evBytes ⟨xk, xac, xpu, xat, xn, xa, xb, xc⟩ = ex at hc3 hc4
      simp only at c0 c1' c2' c3 c4 c5 c6 c7
      have HC1 := Lib.hid hc1
      have HC2 := Lib.hid hc2
      have HC3 := Lib.hid hc3
      have HC4 := Lib.hid hc4
      clear hc1 hc2 hc3 hc4 hxs hx h0
      have hF0 : Fr [] w3 wr.drew := H.out.drew
      have hi0 : (0 : Int) ≤ (i : Int) := by omega
      have hi1 : (i : Int) < (m.length : Int) := by omega
      go_wp2_with fail
      go_region_held3 (fun w' => w'.cell? (ad.add (i * 8)) = some (.int .i64 xk) ∧ w'.cell? ⟨(ad.add (i * 8)).block, (ad.add (i * 8)).off + 1, none⟩ = some (.int .i64 xac) ∧ w'.cell? ⟨(ad.add (i * 8)).block, (ad.add (i * 8)).off + 2, none⟩ = some (.int .i64 xpu) ∧ w'.cell? ⟨(ad.add (i * 8)).block, (ad.add (i * 8)).off + 3, none⟩ = some (.int .i64 xat) ∧ w'.cell? ⟨(ad.add (i * 8)).block, (ad.add (i * 8)).off + 4, none⟩ = some (.int .i64 xn) ∧ w'.cell? ⟨(ad.add (i * 8)).block, (ad.add (i * 8)).off + 5, none⟩ = some (.string xa) ∧ w'.cell? ⟨(ad.add (i * 8)).block, (ad.add (i * 8)).off + 6, none⟩ = some (.string xb) ∧ w'.cell? ⟨(ad.add (i * 8)).block, (ad.add (i * 8)).off + 7, none⟩ = some (.string xc)) (first | exact c8_keep hk1 (by assumption) | go_keep)
        (first
        | (go_at_call 31; with_reducible refine (HC1.out _).mono ?_; rintro e w' ⟨rfl, hf'⟩; (have hk1 := fun p v h => hf'.cell' (p := p) (v := v) h (by simp)); (have hF' := Fr.then (S := []) (a := w3) (by assumption) hf'))
        | (go_at_call 32; with_reducible refine (HC2.out _).mono ?_; rintro e w' ⟨rfl, hf'⟩; (have hk1 := fun p v h => hf'.cell' (p := p) (v := v) h (by simp)); (have hF' := Fr.then (S := []) (a := w3) (by assumption) hf'))
        | (go_at_call 29; with_reducible refine (HC3.out _).mono ?_; rintro e w' ⟨rfl, hf'⟩; (have hk1 := fun p v h => hf'.cell' (p := p) (v := v) h (by simp)); (have hF' := Fr.then (S := []) (a := w3) (by assumption) hf'))
        | (go_at_call 33; with_reducible refine (HC4.out _).mono ?_; rintro e w' ⟨rfl, hf'⟩; (have hk1 := fun p v h => hf'.cell' (p := p) (v := v) h (by simp)); (have hF' := Fr.then (S := []) (a := w3) (by assumption) hf')))
      all_goals
        have HF' := Lib.hid hF'
        clear hF0 hF' c0 c1' c2' c3 c4 c5 c6 c7 HC1 HC2 HC3 HC4
        go_wp2_with fail
        refine ⟨⟨i + 1, by go_num, by omega, HF'.out⟩, by simp only [intOf]; omega⟩
    · obtain rfl : i = m.length := by omega
      have hF := HF3.out.then H.out
      have hbx := fun W h => Batch_calls W A1 c1 m h HSX.out (by simp only [maxLen]; omega)
      have hrx := fun W h => RBatch_calls W A1 c1 m h HSX.out (by simp only [maxLen]; omega)
      have hby := fun W h => Batch_calls W A2 c2 y h HSY.out (by simp only [maxLen]; omega)
      have hry := fun W h => RBatch_calls W A2 c2 y h HSY.out (by simp only [maxLen]; omega)
      generalize (evBatch m).1 = bm1 at *
      generalize (evBatch m).2 = bm2 at *
      generalize (evBatch y).1 = by1 at *
      generalize (evBatch y).2 = by2 at *
      have HBX := Lib.hid hbx
      have HRX := Lib.hid hrx
      have HBY := Lib.hid hby
      have HRY := Lib.hid hry
      have hex := HX.out.keep H.out (by simp)
      have hey := HY.out.keep H.out (by simp)
      clear hbx hrx hby hry H HX HY HF3 hk hlk
      go_wp2_with fail
      (with_reducible refine (HBX.out _ hex).mono ?_)
      rintro e w4 ⟨rfl, hf4⟩
      have hex := hex.keep hf4 (by simp)
      have hey := hey.keep hf4 (by simp)
      have hF := hF.then hf4
      clear hf4
      go_wp2_with fail
      (with_reducible refine (HRX.out _ hex).mono ?_)
      rintro e w5 ⟨rfl, hf5⟩
      have hey := hey.keep hf5 (by simp)
      have hF := hF.then hf5
      clear hf5 hex
      go_wp2_with fail
      (with_reducible refine (HBY.out _ hey).mono ?_)
      rintro e w6 ⟨rfl, hf6⟩
      have hey := hey.keep hf6 (by simp)
      have hF := hF.then hf6
      clear hf6
      go_wp2_with fail
      (with_reducible refine (HRY.out _ hey).mono ?_)
      rintro e w7 ⟨rfl, hf7⟩
      have hF := hF.then hf7
      clear hf7 hey
      go_wp2_with fail
      (with_reducible refine (HN1.out _).mono ?_)
      rintro e w8 ⟨rfl, hf8⟩
      have hF := hF.then hf8
      clear hf8
      go_wp2_with fail
      (with_reducible refine (HN2.out _).mono ?_)
      rintro e w9 ⟨rfl, hf9⟩
      have hF := hF.then hf9
      clear hf9
      have hkk := HKK.out
      go_wp2_with fail
      (with_reducible refine (HN3.out _).mono ?_)
      rintro e w10 ⟨rfl, hf10⟩
      have hF := hF.then hf10
      clear hf10
      go_wp2_with fail
      (with_reducible refine (HN4.out _).mono ?_)
      rintro e w11 ⟨rfl, hf11⟩
      have hF := hF.then hf11
      clear hf11
      go_wp2_with fail
      go_ret
      exact ⟨by simp, hF⟩
theorem EventTells_walk (w : World) (A : Option Addr) (cap : Nat) (l : List (List Value)) (hr : RdR w A 8 l) (hrow : ∀ row, row ∈ l → FRow [.int .i64, .int .i64, .int .i64, .int .i64, .int .i64, .str, .str, .str] row) (hl : l.length ≤ maxLen) (kind : Int) (hkind : Bd .i64 kind) :
    Calls Try.prog 8 #[.slice A l.length cap, .int .i64 kind] w fun e w' => e = .returned (.bool true) ∧ Fr [] w w' := by
  obtain ⟨es, rfl, hlen, hbd⟩ := Ev.of_rows l hrow
  rw [List.length_map] at hl ⊢
  exact EventTells_core w A cap es (EvR.of_rdr hr) hbd hl kind hkind
end Go.Proofs.Ytngonnnjehlfbaa
