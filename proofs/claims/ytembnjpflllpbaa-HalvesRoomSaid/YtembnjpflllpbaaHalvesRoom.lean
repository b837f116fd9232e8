/- The law HalvesRoom: for any texts the Go function returns true (its walk). -/
import Derived.Test.YtembnjpflllpbaaHAwake2
import Derived.Test.YtembnjpflllpbaaSame03
namespace Go.Proofs.Ytembnjpflllpbaa
open Go.RowKit
set_option linter.unusedVariables false
set_option linter.unusedSimpArgs false

set_option maxHeartbeats 400000 in
set_option maxRecDepth 100000 in
theorem RSize_calls (w : World) (n : Int) (h : Bd .i64 n) :
    Calls Try.prog 13 #[.int .i64 n] w fun e w' => e = .returned (.int .i64 (fsize n)) ∧ w = w' := by
  have hb := h.i64
  clear h
  by_cases h1 : n < 1
  · rw [fsize_out (.inl h1)]
    go_enter Try.func13, Try.ntmps13
    go_wp2
    go_ret
    exact ⟨rfl, rfl⟩
  · by_cases h2 : 32768 < n
    · rw [fsize_out (.inr h2)]
      go_enter Try.func13, Try.ntmps13
      go_wp2
      go_ret
      exact ⟨rfl, rfl⟩
    · rw [fsize_in (by omega) (by omega)]
      have h3 : 1 ≤ n := by omega
      have h4 : n ≤ 32768 := by omega
      go_enter Try.func13, Try.ntmps13
      go_wp2
      go_ret
      exact ⟨rfl, rfl⟩

theorem RSizeF_calls (w : World) (n : Int) (h : Bd .i64 n) : Calls Try.prog 13 #[.int .i64 n] w fun e w' => e = .returned (.int .i64 (fsize n)) ∧ Fr [] w w' :=
  (RSize_calls w n h).mono fun e w' ⟨he, hw⟩ => ⟨he, hw ▸ Fr.refl _ _⟩
/-- A disk that was opened once more: the log in memory goes on. -/
theorem LW.reopen {w0 w w' : World} {d L : Nat} {D D' : DSt} {l : LSt} {S S' : List Nat} (h : LW w0 w d L D l S) (hd : DH w' d D' S') (hf : Fr S w w') (hn : ∀ k, k ∈ S' → k ∈ S ∨ w.heap.size ≤ k) : LW w0 w' d L D' l S' := by
  refine ⟨hd, h.lg.keep hf h.ne, fun hm => ?_, fun k hk => ?_, h.fr.trans hf (fun k hk => .inr (h.new k (.tail _ hk)))⟩
  · rcases hn _ hm with h' | h'
    · exact h.ne h'
    · have := h.lt L (.head _); omega
  · rcases List.mem_cons.1 hk with rfl | hk
    · exact h.new _ (.head _)
    · rcases hn k hk with h' | h'
      · exact h.new k (.tail _ h')
      · exact Nat.le_trans h.fr.size h'
/-- The state at the loop's head. -/
structure RoomI (w wr : World) (d L : Nat) (D : DSt) (l : LSt) (S : List Nat) (v7 : Value) (r : List Nat) (had : List ByteArray) (i : Nat) : Prop where
  gd : Good D l ⟨#[115]⟩ had 200
  ep : l.ep = 1
  hf : l.half = 0
  lw : LW w wr d L D l S
  row : SRow 9 1 wr v7 r had.length (had.map .string)
  nr : ∀ k, k ∈ r → w.heap.size ≤ k ∧ k ∉ L :: S
  len : had.length ≤ i
theorem RoomI.keep0 {w wr W : World} {d L : Nat} {D : DSt} {l : LSt} {S : List Nat} {v7 : Value} {r : List Nat} {had : List ByteArray} {i : Nat} (h : RoomI w wr d L D l S v7 r had i) (hf : Fr [] wr W) : RoomI w W d L D l S v7 r had i :=
  ⟨h.gd, h.ep, h.hf, h.lw.keep0 hf, h.row.keep hf (by simp), h.nr, h.len⟩
theorem RoomI.next {w W W' : World} {d L : Nat} {D D' : DSt} {l l' : LSt} {S S' : List Nat} {v7 : Value} {r : List Nat} {had : List ByteArray} {i : Nat} (h : RoomI w W d L D l S v7 r had i) (hlw : LW w W' d L D' l' S') (hf : Fr (L :: S) W W') (hn : ∀ k, k ∈ S' → k ∈ S ∨ W.heap.size ≤ k) :
    SRow 9 1 W' v7 r had.length (had.map .string) ∧ (∀ k, k ∈ r → w.heap.size ≤ k ∧ k ∉ L :: S') := by
  refine ⟨h.row.keep hf (fun k hk => (h.nr k hk).2), fun k hk => ⟨(h.nr k hk).1, fun hm => ?_⟩⟩
  rcases List.mem_cons.1 hm with rfl | hm
  · exact (h.nr _ hk).2 (.head _)
  · rcases hn k hm with h' | h'
    · exact (h.nr k hk).2 (.tail _ h')
    · have := h.row.lt k hk; omega
/-- In the midst of a round. -/
structure RoomM (w wr : World) (d L : Nat) (D : DSt) (l : LSt) (S : List Nat) (v7 : Value) (r : List Nat) (had : List ByteArray) (i : Nat) : Prop where
  lw : LW w wr d L D l S
  row : SRow 9 1 wr v7 r had.length (had.map .string)
  nr : ∀ k, k ∈ r → w.heap.size ≤ k ∧ k ∉ L :: S
  len : had.length ≤ i
theorem RoomM.keep0 {w wr W : World} {d L : Nat} {D : DSt} {l : LSt} {S : List Nat} {v7 : Value} {r : List Nat} {had : List ByteArray} {i : Nat} (h : RoomM w wr d L D l S v7 r had i) (hf : Fr [] wr W) : RoomM w W d L D l S v7 r had i :=
  ⟨h.lw.keep0 hf, h.row.keep hf (by simp), h.nr, h.len⟩
theorem RoomM.push {w W w9 : World} {d L : Nat} {D : DSt} {l : LSt} {S r r' : List Nat} {v v' : Value} {had : List ByteArray} {i : Nat} {s : ByteArray} {o : Obj} (h : RoomM w W d L D l S v r had i) (h9 : SRow 9 1 w9 v' r' (had.length + 1) (had.map .string ++ [.string s])) (hf9 : Fr r (W.alloc o) w9) (hn9 : ∀ k, k ∈ r' → k ∈ r ∨ W.heap.size + 1 ≤ k) (g : Good D l ⟨#[115]⟩ (had ++ [s]) 200) (ep : l.ep = 1) (hf : l.half = 0) :
    RoomI w w9 d L D l S v' r' (had ++ [s]) (i + 1) := by
  have hfr : Fr r W w9 := (((Fr.refl r W).alloc o)).trans hf9 (fun k hk => .inl hk)

  refine ⟨g, ep, hf, h.lw.other hfr (fun k hk hm => (h.nr k hm).2 hk) (fun k hk => (h.nr k hk).1), ?_, fun k hk => ?_, by rw [List.length_append]; exact Nat.succ_le_succ h.len⟩
  · rw [List.length_append, List.map_append]
    exact h9
  · rcases hn9 k hk with h' | h'
    · exact h.nr k h'
    · have h1 := h.lw.fr.size
      exact ⟨by omega, fun hm => by have := h.lw.lt k hm; omega⟩
theorem room_val {D : DSt} {l : LSt} {sn : ByteArray} {rs : List ByteArray} {m : Nat} (h : Good D l sn rs m) : l.room D = ((m / 2 : Nat) : Int) - (l.en : Int) := by
  rw [LSt.room, h.is.lb, if_neg (by decide), h.n]
set_option maxHeartbeats 4000000 in
set_option maxRecDepth 100000 in
theorem HalvesRoom_walk (w : World) (A : Option Addr) (cap : Nat) (l0 : List ByteArray) (hr : RdV w A (l0.map .string)) (hsz : ∀ x, x ∈ l0 → x.size ≤ maxLen) (hl : l0.length ≤ maxLen) :
    Calls Try.prog 3 #[.slice A l0.length cap] w fun e w' => e = .returned (.bool true) ∧ Fr [] w w' := by
  unfold maxLen at hl
  have hnew := fun W => HNew W 200 (mi := 200) rfl (by omega) (by omega)
  have h3 : (headS 1 ⟨#[115]⟩).size = 3 := headS_small (by omega) (by decide)
  have hfm := fun w1 h d S hd hn => LW.format (w0 := w) (w := w1) h (d := d) (m := 200) (S := S) hd hn (s := ⟨#[115]⟩) (by decide) (.inr (by rw [h3]; decide))
  rw [h3] at hfm
  have HNW := Lib.hid hnew
  have HFM := Lib.hid hfm
  have HR := Lib.hid hr
  have HSZ := Lib.hid hsz
  clear hnew hfm h3 hr hsz
  go_enter Try.func3, Try.ntmps3
  go_wp2_with fail
  (with_reducible refine (awake05_calls _).mono ?_)
  rintro e w0 ⟨rfl, hf0⟩
  go_wp2_with fail
  (with_reducible refine (HNW.out _).mono ?_)
  rintro e w1 ⟨d, rfl, S0, hd, hf1, hn1⟩
  have HD := Lib.hid hd
  have HF1 := Lib.hid (hf0.then hf1)
  have HN1 := Lib.hid (show ∀ k, k ∈ S0 → w.heap.size ≤ k from fun k hk => (hn1 k hk).elim (fun h => by cases h) (fun h => Nat.le_trans hf0.size h))
  clear hd hf0 hf1 hn1 HNW
  go_wp2_with fail
  (with_reducible refine (HFM.out w1 HF1.out d S0 HD.out HN1.out).mono ?_)
  rintro e w2 ⟨L, D0, S1, rfl, hw0, hi0, hl0, hz0, -⟩
  have HI := Lib.hid (show RoomI w w2 d L D0 ⟨0, 1, 11, false⟩ S1 (.slice none 0 0) [] [] 0 from ⟨⟨hi0, hl0, hz0⟩, rfl, rfl, hw0, SRow.nil _ _ _, by simp, Nat.le_refl _⟩)
  clear hi0 hl0 hz0 hw0 HFM HD HN1 HF1
  go_wp2_with fail
  go_loopw [7, 8] (fun v7 v8 wr => ∃ (i : Nat) (D : DSt) (l : LSt) (S r : List Nat) (had : List ByteArray), v8 = .int .i64 i ∧ i ≤ l0.length ∧ i ≤ 20 ∧ Hid (RoomI w wr d L D l S v7 r had i)) (fun _ v8 _ => 20 - (intOf v8).toNat)
  case atStart => exact ⟨0, D0, _, S1, [], [], rfl, Nat.zero_le _, Nat.zero_le _, HI⟩
  case round =>
    clear HI
    obtain ⟨i, D, l, S, r, had, rfl, hi, hi20, H⟩ := hrel
    by_cases hlk : i < l0.length
    · by_cases h20 : i < 20
      · obtain ⟨ad, rfl, hc0⟩ := HR.out i (.string l0[i]) (by simp [hlk])
        have hc : wr.cell? (ad.add i) = some (.string l0[i]) := H.out.lw.fr.cell' hc0 (by simp)
        have hxs := HSZ.out l0[i] (List.getElem_mem hlk)
        unfold maxLen at hxs
        generalize l0[i] = x at hc hxs
        have h30 := shortB_size x 30
        have hsh := short05_calls x 30 30 rfl wr hxs (by decide)
        generalize shortB x 30 = s at *
        have HSH := Lib.hid hsh
        clear hsh hxs hc0
        -- the step
        have hcs := app_cases H.out.gd.is s
        have hrv := room_val H.out.gd
        have hbd := H.out.gd.bounds (by omega)
        have hle := H.out.gd.is.le
        have hn := H.out.gd.n
        have hbad := H.out.gd.is.lb
        have hep := H.out.ep
        have hhf := H.out.hf
        obtain ⟨half, ep, en, bad⟩ := l
        simp only at hbad hep hhf hcs hrv hbd hle
        subst hbad hep hhf
        have hn100 : D.n = 100 := hn
        have hrv : LSt.room D ⟨0, 1, en, false⟩ = 100 - (en : Int) := hrv
        obtain ⟨rm, hrm⟩ : ∃ rm : Int, 100 - (en : Int) = rm := ⟨_, rfl⟩
        rw [hrm] at hrv
        have hroom := fun W (hLW : LW w W d L D ⟨0, 1, en, false⟩ S) => room_calls W L d ⟨0, 1, en, false⟩ D S hLW.lg hLW.dh hbd.2.1
        rw [hrv] at hroom
        have HRM := Lib.hid hroom
        have HBD := Lib.hid hbd
        have hsz := fun W => RSizeF_calls W (s.size : Int) (Bd.of_i64 (by omega) (by omega))
        have hft := fun D' en' S' (h : en' ≤ 1000000) W (hLW : LW w W d L D' ⟨0, 1, en', false⟩ S') => lfits_calls W L d ⟨0, 1, en', false⟩ D' S' hLW.lg hLW.dh h (s.size : Int) (Bd.of_i64 (by omega) (by omega))
        have hfa := fun D' en' (h1 : 1 ≤ s.size ∧ s.size ≤ 32768) => app_fit (D := D') (l := ⟨0, 1, en', false⟩) rfl h1.1 h1.2
        have hs30 := h30
        have HS30 := Lib.hid hs30
        clear hroom h30 hs30
        rcases hcs with ⟨h1, hx⟩ | ⟨h1, h2, hx⟩ | ⟨h1, h2, hx⟩
        · skip
          have HX := Lib.hid hx
          have HRS := Lib.hid hsz
          have HFT := Lib.hid hft
          have hz : fsize (s.size : Int) = 0 := fsize_out (by omega)
          rw [hz] at hsz
          have HRS := Lib.hid hsz
          have hFT4 : ∀ S' W, LW w W d L D ⟨0, 1, en, false⟩ S' → _ := fun S' => hft D en S' hbd.2.1
          have hfv : LSt.fits D ⟨0, 1, en, false⟩ (s.size : Int) = false := by rw [LSt.fits, hz]; rfl
          rw [hfv] at hFT4
          have HRV := Lib.hid hrv
          have HI := H
          clear hx hsz hft hrv hbd hle hn hn100 hrm H hfa
          go_wp2_with fail
          (with_reducible refine HSH.out.mono ?_)
          rintro e w3 ⟨rfl, hw3⟩
          subst hw3
          go_wp2_with fail
          (with_reducible refine (HRM.out _ HI.out.lw).mono ?_)
          rintro e w3 ⟨rfl, hf3⟩
          have HI3 := Lib.hid (HI.out.keep0 hf3)
          clear hf3 hc HI
          go_wp2_with fail
          (with_reducible refine (LW.append (sn := ⟨#[115]⟩) (rs := had) HI3.out.lw HBD.out.1 HBD.out.2.1 HBD.out.2.2.1 (by have := HS30.out; omega) HX.out).mono ?_)
          rintro e w4 ⟨rfl, S', hlw4, hf4, hn4⟩
          have hnx := HI3.out.next hlw4 hf4 hn4
          have HI4 : Hid (RoomI w w4 d L D ⟨0, 1, en, false⟩ S' _ r had (i + 1)) := Lib.hid ⟨HI3.out.gd, rfl, rfl, hlw4, hnx.1, hnx.2, Nat.le_succ_of_le HI3.out.len⟩
          have hrm4 := fun W (hLW : LW w W d L D ⟨0, 1, en, false⟩ S') => room_calls W L d ⟨0, 1, en, false⟩ D S' hLW.lg hLW.dh HBD.out.2.1
          rw [HRV.out] at hrm4
          have HRM4 := Lib.hid hrm4
          have HFT4 := Lib.hid (hFT4 S')
          clear hnx hlw4 hf4 hn4 HI3 hrm4 hFT4 HRM
          go_wp2_with fail
          (with_reducible refine (HRS.out _).mono ?_)
          rintro e w5 ⟨rfl, hf5⟩
          have HI5 := Lib.hid (HI4.out.keep0 hf5)
          clear hf5 HI4
          go_wp2_with fail
          (with_reducible refine (HFT4.out _ HI5.out.lw).mono ?_)
          rintro e w6 ⟨rfl, hf6⟩
          have HI6 := Lib.hid (HI5.out.keep0 hf6)
          clear hf6 HI5
          go_wp2_with fail
          (with_reducible refine (HRM4.out _ HI6.out.lw).mono ?_)
          rintro e w7 ⟨rfl, hf7⟩
          have HI7 := Lib.hid (HI6.out.keep0 hf7)
          clear hf7 HI6
          go_wp2_with fail
          exact ⟨⟨i + 1, D, ⟨0, 1, en, false⟩, S', r, had, by simp, by omega, by omega, HI7⟩, by simp only [intOf]; omega⟩
        · skip
          have HX := Lib.hid hx
          have HRS := Lib.hid hsz
          have HFT := Lib.hid hft
          have hz : fsize (s.size : Int) = ((s.size + 8 : Nat) : Int) := by rw [fsize_in (by omega) (by omega)]; omega
          rw [hz] at hsz
          obtain ⟨z, hzz⟩ : ∃ z : Int, ((s.size + 8 : Nat) : Int) = z := ⟨_, rfl⟩
          rw [hzz] at hsz
          have HRS := Lib.hid hsz
          have hFT4 : ∀ S' W, LW w W d L D ⟨0, 1, en, false⟩ S' → _ := fun S' => hft D en S' hbd.2.1
          have hfv : LSt.fits D ⟨0, 1, en, false⟩ (s.size : Int) = false := by rw [hfa D en h1]; exact decide_eq_false h2
          rw [hfv] at hFT4
          have HRV := Lib.hid hrv
          have z1 : (0 : Int) < z := by omega
          have z2 : ¬ z ≤ rm := by omega
          have z3 : decide (z ≤ rm) = false := decide_eq_false z2
          clear hzz hz
          have HI := H
          clear hx hsz hft hrv hbd hle hn hn100 hrm H hfa
          go_wp2_with fail
          (with_reducible refine HSH.out.mono ?_)
          rintro e w3 ⟨rfl, hw3⟩
          subst hw3
          go_wp2_with fail
          (with_reducible refine (HRM.out _ HI.out.lw).mono ?_)
          rintro e w3 ⟨rfl, hf3⟩
          have HI3 := Lib.hid (HI.out.keep0 hf3)
          clear hf3 hc HI
          go_wp2_with fail
          (with_reducible refine (LW.append (sn := ⟨#[115]⟩) (rs := had) HI3.out.lw HBD.out.1 HBD.out.2.1 HBD.out.2.2.1 (by have := HS30.out; omega) HX.out).mono ?_)
          rintro e w4 ⟨rfl, S', hlw4, hf4, hn4⟩
          have hnx := HI3.out.next hlw4 hf4 hn4
          have HI4 : Hid (RoomI w w4 d L D ⟨0, 1, en, false⟩ S' _ r had (i + 1)) := Lib.hid ⟨HI3.out.gd, rfl, rfl, hlw4, hnx.1, hnx.2, Nat.le_succ_of_le HI3.out.len⟩
          have hrm4 := fun W (hLW : LW w W d L D ⟨0, 1, en, false⟩ S') => room_calls W L d ⟨0, 1, en, false⟩ D S' hLW.lg hLW.dh HBD.out.2.1
          rw [HRV.out] at hrm4
          have HRM4 := Lib.hid hrm4
          have HFT4 := Lib.hid (hFT4 S')
          clear hnx hlw4 hf4 hn4 HI3 hrm4 hFT4 HRM
          go_wp2_with fail
          (with_reducible refine (HRS.out _).mono ?_)
          rintro e w5 ⟨rfl, hf5⟩
          have HI5 := Lib.hid (HI4.out.keep0 hf5)
          clear hf5 HI4
          go_wp2_with fail
          (with_reducible refine (HFT4.out _ HI5.out.lw).mono ?_)
          rintro e w6 ⟨rfl, hf6⟩
          have HI6 := Lib.hid (HI5.out.keep0 hf6)
          clear hf6 HI5
          go_wp2_with fail
          (with_reducible refine (HRM4.out _ HI6.out.lw).mono ?_)
          rintro e w7 ⟨rfl, hf7⟩
          have HI7 := Lib.hid (HI6.out.keep0 hf7)
          clear hf7 HI6
          go_wp2_with fail
          exact ⟨⟨i + 1, D, ⟨0, 1, en, false⟩, S', r, had, by simp, by omega, by omega, HI7⟩, by simp only [intOf]; omega⟩
        · obtain ⟨D', hx', g'⟩ := H.out.gd.app h1 (by rw [hn100] at h2; exact h2)
          have hz : fsize (s.size : Int) = ((s.size + 8 : Nat) : Int) := by rw [fsize_in (by omega) (by omega)]; omega
          rw [hz] at hsz
          obtain ⟨z, hzz⟩ : ∃ z : Int, ((s.size + 8 : Nat) : Int) = z := ⟨_, rfl⟩
          rw [hzz] at hsz
          have HRS := Lib.hid hsz
          have hn' : D'.n = 100 := g'.n
          have hb' := g'.bounds (by omega)
          obtain ⟨fb, hfb⟩ : ∃ fb, decide (en + (s.size + 8) + (s.size + 8) ≤ D'.n) = fb := ⟨_, rfl⟩
          have hFT4 : ∀ S' W, LW w W d L D' ⟨0, 1, en + (s.size + 8), false⟩ S' → _ := fun S' => hft D' (en + (s.size + 8)) S' hb'.2.1
          rw [hfa D' (en + (s.size + 8)) h1, hfb] at hFT4
          have hrv' : LSt.room D' ⟨0, 1, en + (s.size + 8), false⟩ = 100 - ((en + (s.size + 8) : Nat) : Int) := room_val g'
          obtain ⟨rm2, hrm2⟩ : ∃ rm2 : Int, rm - z = rm2 := ⟨_, rfl⟩
          have hrv2 : LSt.room D' ⟨0, 1, en + (s.size + 8), false⟩ = rm2 := by rw [hrv']; omega
          have wk2 : IntKind.i64.wrap rm2 = rm2 := by rw [IntKind.wrap_i64]; omega
          have z1 : (0 : Int) < z := by omega
          have z2 : z ≤ rm := by omega
          have z3 : fb = true → ¬ rm2 < z := fun h => by rw [h, decide_eq_true_eq] at hfb; omega
          have HX := Lib.hid hx'
          have GD := Lib.hid g'
          have HBB := Lib.hid hb'
          have HRV2 := Lib.hid hrv2
          have HZ3 := Lib.hid z3
          have HI := H
          clear hx hx' g' hsz hft hrv hrv' hrv2 hbd hle hn hn100 hn' hb' hrm hfb hzz hz H hfa z3
          go_wp2_with fail
          (with_reducible refine HSH.out.mono ?_)
          rintro e w3 ⟨rfl, hw3⟩
          subst hw3
          go_wp2_with fail
          (with_reducible refine (HRM.out _ HI.out.lw).mono ?_)
          rintro e w3 ⟨rfl, hf3⟩
          have HI3 := Lib.hid (HI.out.keep0 hf3)
          clear hf3 hc HI
          go_wp2_with fail
          (with_reducible refine (LW.append (sn := ⟨#[115]⟩) (rs := had) HI3.out.lw HBD.out.1 HBD.out.2.1 HBD.out.2.2.1 (by have := HS30.out; omega) HX.out).mono ?_)
          rintro e w4 ⟨rfl, S', hlw4, hf4, hn4⟩
          have hnx := HI3.out.next hlw4 hf4 hn4
          have HI4 : Hid (RoomM w w4 d L D' ⟨0, 1, en + (s.size + 8), false⟩ S' _ r had i) := Lib.hid ⟨hlw4, hnx.1, hnx.2, HI3.out.len⟩
          have hrm4 := fun W (hLW : LW w W d L D' ⟨0, 1, en + (s.size + 8), false⟩ S') => room_calls W L d ⟨0, 1, en + (s.size + 8), false⟩ D' S' hLW.lg hLW.dh HBB.out.2.1
          rw [HRV2.out] at hrm4
          have HRM4 := Lib.hid hrm4
          have HFT4 := Lib.hid (hFT4 S')
          clear hnx hlw4 hf4 hn4 HI3 hrm4 hFT4 HRM
          go_wp2_with fail
          (with_reducible refine (HRS.out _).mono ?_)
          rintro e w5 ⟨rfl, hf5⟩
          have HI5 := Lib.hid (HI4.out.keep0 hf5)
          clear hf5 HI4
          go_wp2_with fail
          (with_reducible refine (HFT4.out _ HI5.out.lw).mono ?_)
          rintro e w6 ⟨rfl, hf6⟩
          have HI6 := Lib.hid (HI5.out.keep0 hf6)
          clear hf6 HI5
          have HJ : Hid (∃ w7, RoomM w w7 d L D' ⟨0, 1, en + (s.size + 8), false⟩ S' u7 r had i) := Lib.hid ⟨_, HI6.out⟩
          cases fb
          · go_wp2_with fail
            (with_reducible refine (HRM4.out _ HI6.out.lw).mono ?_)
            rintro e w8 ⟨rfl, hf8⟩
            have HI8 := Lib.hid (HI6.out.keep0 hf8)
            clear hf8 HI6 HJ
            have hrow := HI8.out.row
            have hln := HI8.out.len
            go_wp2_with (at_builtin; refine wpList_sapp rfl _ _ 22 rfl 9 Try.underlying22 (.string ⟨#[]⟩) 1 16 infoString rfl (by decide) _ r had.length _ rfl (hrow.keep ((Fr.refl [] _).alloc _) (by simp)) ⟨w8.heap.size, 0, none⟩ 1 1 [.string s] rfl rfl (by exact RdV.new _ #[.string s] 9 rfl rfl) (by simp [Value.oneCell']) (by simp only [maxLen]; omega) (by omega) ?_)
            intro v' w9 r' h9 hf9 hn9
            have HI9 : Hid (RoomI w w9 d L D' ⟨0, 1, en + (s.size + 8), false⟩ S' v' r' (had ++ [s]) (i + 1)) := Lib.hid (HI8.out.push h9 hf9 hn9 GD.out rfl rfl)
            clear hrow hln h9 hf9 hn9
            go_wp2_with fail
            exact ⟨⟨i + 1, D', ⟨0, 1, en + (s.size + 8), false⟩, S', r', had ++ [s], by simp, by omega, by omega, HI9⟩, by simp only [intOf]; omega⟩
          · have z4 := HZ3.out rfl
            go_wp2_with fail
            (with_reducible refine (HRM4.out _ HI6.out.lw).mono ?_)
            rintro e w7 ⟨rfl, hf7⟩
            have HI7 := Lib.hid (HI6.out.keep0 hf7)
            clear hf7 HI6 HJ
            go_wp2_with fail
            (with_reducible refine (HRM4.out _ HI7.out.lw).mono ?_)
            rintro e w8 ⟨rfl, hf8⟩
            have HI8 := Lib.hid (HI7.out.keep0 hf8)
            clear hf8 HI7
            have hrow := HI8.out.row
            have hln := HI8.out.len
            go_wp2_with (at_builtin; refine wpList_sapp rfl _ _ 22 rfl 9 Try.underlying22 (.string ⟨#[]⟩) 1 16 infoString rfl (by decide) _ r had.length _ rfl (hrow.keep ((Fr.refl [] _).alloc _) (by simp)) ⟨w8.heap.size, 0, none⟩ 1 1 [.string s] rfl rfl (by exact RdV.new _ #[.string s] 9 rfl rfl) (by simp [Value.oneCell']) (by simp only [maxLen]; omega) (by omega) ?_)
            intro v' w9 r' h9 hf9 hn9
            have HI9 : Hid (RoomI w w9 d L D' ⟨0, 1, en + (s.size + 8), false⟩ S' v' r' (had ++ [s]) (i + 1)) := Lib.hid (HI8.out.push h9 hf9 hn9 GD.out rfl rfl)
            clear hrow hln h9 hf9 hn9
            go_wp2_with fail
            exact ⟨⟨i + 1, D', ⟨0, 1, en + (s.size + 8), false⟩, S', r', had ++ [s], by simp, by omega, by omega, HI9⟩, by simp only [intOf]; omega⟩
      · have hi20' : i = 20 := by omega
        have hc4 : ¬ ((i : Int) < 20) := by omega
        obtain ⟨B, cb, rfl, -, -, hrb, hab⟩ := H.out.row.reads
        have hbd := H.out.gd.bounds (by omega)
        have hfd := H.out.gd.found
        have hop := H.out.gd.opened
        have hep := H.out.ep
        have hhf := H.out.hf
        have hlb := H.out.gd.is.lb
        obtain ⟨half, ep, en, bad⟩ := l
        simp only at hep hhf hlb
        subst hep hhf hlb
        obtain ⟨D', hx', g'⟩ := hop.snap (s := ⟨#[116]⟩) (by show 1 + 1 < 128; omega) (by decide) (by decide)
        have hbo := hop.bounds (by omega)
        have hbg := g'.bounds (by omega)
        have hrv := room_val g'
        have HOP := Lib.hid (open_found (w := wr) H.out.lw.dh hbd.2.2.2 hbd.2.2.1 hfd)
        have HX := Lib.hid hx'
        have HBO := Lib.hid hbo
        have HBG := Lib.hid hbg
        have HRV := Lib.hid (show LSt.room D' ⟨1 - 0, 1 + 1, 11, false⟩ = 89 from hrv)
        have HHL := Lib.hid (show had.length ≤ 20 from Nat.le_trans H.out.len hi20)
        have HRB := Lib.hid hrb
        have HAB := Lib.hid (show ∀ ad, B = some ad → ad.block ∈ r from hab)
        clear hx' g' hop hfd hbd hbo hbg hrv hrb hab hc4
        go_wp2_with fail
        (with_reducible refine HOP.out.mono ?_)
        rintro e w3 ⟨L2, A2, c2, S', rfl, -, hra, hd3, hf3, hn3, hL2, hL3, hA3⟩
        have HLW3 := Lib.hid (H.out.lw.reopen hd3 hf3 hn3)
        have HRA := Lib.hid hra
        have HRB3 := Lib.hid (HRB.out.keep hf3 (fun ad ha hm => (H.out.nr _ (HAB.out ad ha)).2 (.tail _ hm)))
        clear hra hd3 hf3 hn3 hL2 hL3 hA3 HOP HRB
        go_wp2_with fail
        have HLW4 := Lib.hid (HLW3.out.keep0 ((Fr.refl [] w3).alloc (.cells #[.int .u64 1, .string ⟨#[115]⟩, .slice A2 had.length c2] 37)))
        have HSM := Lib.hid (Same03_calls (w3.alloc (.cells #[.int .u64 1, .string ⟨#[115]⟩, .slice A2 had.length c2] 37)) A2 B c2 cb had had (HRA.out.keep ((Fr.refl [] w3).alloc _) (by simp)) (HRB3.out.keep ((Fr.refl [] w3).alloc _) (by simp)) (by have := HHL.out; simp only [maxLen]; omega) (by have := HHL.out; simp only [maxLen]; omega))
        (with_reducible refine HSM.out.mono ?_)
        rintro e w5 ⟨rfl, hf5⟩
        have HLW5 := Lib.hid (HLW4.out.keep0 hf5)
        have hsame : sameB had had = true := decide_eq_true rfl
        rw [hsame]
        clear hf5 HSM HLW4 HLW3 HRA HRB3 hsame
        go_wp2_with fail
        (with_reducible refine (LW.snap HLW5.out HBO.out.1 (by show 1 + 1 < 18446744073709551616; omega) HBO.out.2.2.1 (by decide) HX.out).mono ?_)
        rintro e w6 ⟨rfl, S6, h6, -, -⟩
        have HLW6 := Lib.hid h6
        have hrm6 := room_calls w6 L d ⟨1 - 0, 1 + 1, 11, false⟩ D' S6 h6.lg h6.dh HBG.out.2.1
        rw [HRV.out] at hrm6
        have HRM6 := Lib.hid hrm6
        clear h6 hrm6 HLW5 HX
        go_wp2_with fail
        (with_reducible refine HRM6.out.mono ?_)
        rintro e w7 ⟨rfl, hf7⟩
        have HLW7 := Lib.hid (HLW6.out.keep0 hf7)
        clear hf7 HRM6 HLW6
        go_wp2_with fail
        (with_reducible refine (RSize_calls w7 3 (Bd.of_i64 (by omega) (by omega))).mono ?_)
        rintro e w8 ⟨rfl, rfl⟩
        rw [show fsize 3 = 11 from rfl]
        go_wp2_with fail
        (with_reducible refine (epoch_calls _ L d _ HLW7.out.lg).mono ?_)
        rintro e w8 ⟨rfl, rfl⟩
        rw [show ((((1 + 1 : Nat)) : Nat) : Int) = (2 : Int) from rfl]
        go_wp2_with fail
        go_ret
        exact ⟨rfl, HLW7.out.fr⟩
    · have hc4 : ¬ ((i : Int) < (l0.length : Int)) := by omega
      obtain ⟨B, cb, rfl, -, -, hrb, hab⟩ := H.out.row.reads
      have hbd := H.out.gd.bounds (by omega)
      have hfd := H.out.gd.found
      have hop := H.out.gd.opened
      have hep := H.out.ep
      have hhf := H.out.hf
      have hlb := H.out.gd.is.lb
      obtain ⟨half, ep, en, bad⟩ := l
      simp only at hep hhf hlb
      subst hep hhf hlb
      obtain ⟨D', hx', g'⟩ := hop.snap (s := ⟨#[116]⟩) (by show 1 + 1 < 128; omega) (by decide) (by decide)
      have hbo := hop.bounds (by omega)
      have hbg := g'.bounds (by omega)
      have hrv := room_val g'
      have HOP := Lib.hid (open_found (w := wr) H.out.lw.dh hbd.2.2.2 hbd.2.2.1 hfd)
      have HX := Lib.hid hx'
      have HBO := Lib.hid hbo
      have HBG := Lib.hid hbg
      have HRV := Lib.hid (show LSt.room D' ⟨1 - 0, 1 + 1, 11, false⟩ = 89 from hrv)
      have HHL := Lib.hid (show had.length ≤ 20 from Nat.le_trans H.out.len hi20)
      have HRB := Lib.hid hrb
      have HAB := Lib.hid (show ∀ ad, B = some ad → ad.block ∈ r from hab)
      clear hx' g' hop hfd hbd hbo hbg hrv hrb hab hc4
      go_wp2_with fail
      (with_reducible refine HOP.out.mono ?_)
      rintro e w3 ⟨L2, A2, c2, S', rfl, -, hra, hd3, hf3, hn3, hL2, hL3, hA3⟩
      have HLW3 := Lib.hid (H.out.lw.reopen hd3 hf3 hn3)
      have HRA := Lib.hid hra
      have HRB3 := Lib.hid (HRB.out.keep hf3 (fun ad ha hm => (H.out.nr _ (HAB.out ad ha)).2 (.tail _ hm)))
      clear hra hd3 hf3 hn3 hL2 hL3 hA3 HOP HRB
      go_wp2_with fail
      have HLW4 := Lib.hid (HLW3.out.keep0 ((Fr.refl [] w3).alloc (.cells #[.int .u64 1, .string ⟨#[115]⟩, .slice A2 had.length c2] 37)))
      have HSM := Lib.hid (Same03_calls (w3.alloc (.cells #[.int .u64 1, .string ⟨#[115]⟩, .slice A2 had.length c2] 37)) A2 B c2 cb had had (HRA.out.keep ((Fr.refl [] w3).alloc _) (by simp)) (HRB3.out.keep ((Fr.refl [] w3).alloc _) (by simp)) (by have := HHL.out; simp only [maxLen]; omega) (by have := HHL.out; simp only [maxLen]; omega))
      (with_reducible refine HSM.out.mono ?_)
      rintro e w5 ⟨rfl, hf5⟩
      have HLW5 := Lib.hid (HLW4.out.keep0 hf5)
      have hsame : sameB had had = true := decide_eq_true rfl
      rw [hsame]
      clear hf5 HSM HLW4 HLW3 HRA HRB3 hsame
      go_wp2_with fail
      (with_reducible refine (LW.snap HLW5.out HBO.out.1 (by show 1 + 1 < 18446744073709551616; omega) HBO.out.2.2.1 (by decide) HX.out).mono ?_)
      rintro e w6 ⟨rfl, S6, h6, -, -⟩
      have HLW6 := Lib.hid h6
      have hrm6 := room_calls w6 L d ⟨1 - 0, 1 + 1, 11, false⟩ D' S6 h6.lg h6.dh HBG.out.2.1
      rw [HRV.out] at hrm6
      have HRM6 := Lib.hid hrm6
      clear h6 hrm6 HLW5 HX
      go_wp2_with fail
      (with_reducible refine HRM6.out.mono ?_)
      rintro e w7 ⟨rfl, hf7⟩
      have HLW7 := Lib.hid (HLW6.out.keep0 hf7)
      clear hf7 HRM6 HLW6
      go_wp2_with fail
      (with_reducible refine (RSize_calls w7 3 (Bd.of_i64 (by omega) (by omega))).mono ?_)
      rintro e w8 ⟨rfl, rfl⟩
      rw [show fsize 3 = 11 from rfl]
      go_wp2_with fail
      (with_reducible refine (epoch_calls _ L d _ HLW7.out.lg).mono ?_)
      rintro e w8 ⟨rfl, rfl⟩
      rw [show ((((1 + 1 : Nat)) : Nat) : Int) = (2 : Int) from rfl]
      go_wp2_with fail
      go_ret
      exact ⟨rfl, HLW7.out.fr⟩
end Go.Proofs.Ytembnjpflllpbaa
