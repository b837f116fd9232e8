/- The law HalvesAgain: for any texts, any snapshot and any number the Go function returns true (its walk). -/
import Derived.Test.YtembnjpflllpbaaHAwake2
import Derived.Test.YtembnjpflllpbaaMask
namespace Go.Proofs.Ytembnjpflllpbaa
open Go.RowKit
set_option linter.unusedVariables false
set_option linter.unusedSimpArgs false

/-- A disk that was opened once more: the log in memory goes on. -/
theorem LW.reopened {w0 w w' : World} {d L : Nat} {D D' : DSt} {l : LSt} {S S' : List Nat} (h : LW w0 w d L D l S) (hd : DH w' d D' S') (hf : Fr S w w') (hn : ∀ k, k ∈ S' → k ∈ S ∨ w.heap.size ≤ k) : LW w0 w' d L D' l S' := by
  refine ⟨hd, h.lg.keep hf h.ne, fun hm => ?_, fun k hk => ?_, h.fr.trans hf (fun k hk => .inr (h.new k (.tail _ hk)))⟩
  · rcases hn _ hm with h' | h'
    · exact h.ne h'
    · have := h.lt L (.head _); omega
  · rcases List.mem_cons.1 hk with rfl | hk
    · exact h.new _ (.head _)
    · rcases hn k hk with h' | h'
      · exact h.new k (.tail _ h')
      · exact Nat.le_trans h.fr.size h'
theorem Good.appAny {D : DSt} {l : LSt} {sn : ByteArray} {rs : List ByteArray} {m : Nat} (h : Good D l sn rs m) (s : ByteArray) :
    ∃ D' l' rs' c, appS D l s = ((D', l'), c) ∧ Good D' l' sn rs' m ∧ l'.ep = l.ep := by
  rcases app_cases h.is s with ⟨-, h1⟩ | ⟨-, -, h1⟩ | ⟨h1, h2, -⟩
  · exact ⟨D, l, rs, _, h1, h, rfl⟩
  · exact ⟨D, l, rs, _, h1, h, rfl⟩
  · obtain ⟨D', a, g⟩ := h.app h1 (by rw [← h.n]; exact h2)
    exact ⟨D', _, _, _, a, g, rfl⟩
/-- A disk that is formatted anew. -/
theorem LW.reformat {w0 w : World} {d L : Nat} {D : DSt} {l : LSt} {S : List Nat} {sn : ByteArray} {rs : List ByteArray} {m : Nat} (h : LW w0 w d L D l S) (g : Good D l sn rs m) (hm : m ≤ 131072) (hep : l.ep + 1 < 128) {s : ByteArray} (hs : s.size < 128) (hfit : s.size + 10 ≤ m / 2) :
    Calls Try.prog 9 #[.pointer (some ⟨d, 0, none⟩), .string s] w fun e w' => ∃ Ly D' S', e = .returned (.tuple #[.pointer (some ⟨Ly, 0, none⟩), .int .i64 0]) ∧ LW w0 w' d Ly D' ⟨0, l.ep + 1, s.size + 10, false⟩ S' ∧ Good D' ⟨0, l.ep + 1, s.size + 10, false⟩ s [] m ∧ LG w' L d l ∧ L ∉ S' := by
  have hb := g.bounds hm
  have hh := headS_small (n := l.ep + 1) (s := s) hep hs
  have hn := g.n
  obtain ⟨f1, f2, f3, f4⟩ := fmt_is (D := D) g.is.cl g.left (ep := l.ep + 1) (s := s) (by omega) (by omega) (by omega) (by omega) (by rw [hn]; omega)
  rw [hh] at f4
  refine (HFormat_calls w d D S h.dh hb.2.2.2 hb.2.2.1 s (by omega) (l.ep + 1) (by rw [g.is.newest]) (by omega)).mono ?_
  rintro e w' (⟨h1, -⟩ | ⟨-, h1, -⟩ | ⟨-, -, Ly, S', rfl, k1, k2, k3, k4, k5, k6⟩)
  · rw [fitsS_iff.2 ⟨⟨headS_pos _ _, by omega⟩, by rw [hn]; omega⟩] at h1
    cases h1
  · exact absurd f1 h1
  · rw [hh] at k1
    refine ⟨Ly, _, S', rfl, ⟨k2, k1, k6, fun k hk => ?_, h.fr.trans k3 (fun k hk => .inr (h.new k (.tail _ hk)))⟩, ⟨f4, f2, by rw [f3]; exact g.sz⟩, h.lg.keep k3 h.ne, fun hm => ?_⟩
    · rcases List.mem_cons.1 hk with rfl | hk
      · exact Nat.le_trans h.fr.size k5
      · rcases k4 k hk with h' | h'
        · exact h.new k (.tail _ h')
        · exact Nat.le_trans h.fr.size h'
    · rcases k4 _ hm with h' | h'
      · exact h.ne h'
      · have := h.lt L (.head _); omega
/-- The state at the loops' heads. -/
def AgI (w wr : World) (d L : Nat) (m : Nat) : Prop := ∃ sn rs D l S, Good D l sn rs 400 ∧ l.ep ≤ m ∧ LW w wr d L D l S
theorem AgI.keep0 {w wr W : World} {d L m : Nat} (h : AgI w wr d L m) (hf : Fr [] wr W) : AgI w W d L m := by
  obtain ⟨sn, rs, D, l, S, g, he, hl⟩ := h
  exact ⟨sn, rs, D, l, S, g, he, hl.keep0 hf⟩
theorem ag_snap {w wr : World} {d L m : Nat} (h : AgI w wr d L m) (hm : m + 1 < 128) :
    Calls Try.prog 17 #[.pointer (some ⟨L, 0, none⟩), .string ⟨#[111, 108, 100, 101, 114]⟩] wr fun e w' => e = .returned (.int .i64 0) ∧ AgI w w' d L (m + 1) := by
  obtain ⟨sn, rs, D, l, S, g, he, hl⟩ := h
  have hb := g.bounds (by omega)
  obtain ⟨D', hx, g'⟩ := g.snap (s := ⟨#[111, 108, 100, 101, 114]⟩) (by omega) (by decide) (by decide)
  refine (LW.snap hl hb.1 (by omega) hb.2.2.1 (by decide) hx).mono ?_
  rintro e w' ⟨rfl, S', h', -, -⟩
  exact ⟨rfl, _, _, D', _, S', g', by show l.ep + 1 ≤ m + 1; omega, h'⟩
theorem ag_app {w wr : World} {d L m : Nat} (h : AgI w wr d L m) (s : ByteArray) (hs : s.size ≤ 1000) :
    Calls Try.prog 12 #[.pointer (some ⟨L, 0, none⟩), .string s] wr fun e w' => ∃ c : Int, e = .returned (.int .i64 c) ∧ AgI w w' d L m := by
  obtain ⟨sn, rs, D, l, S, g, he, hl⟩ := h
  have hb := g.bounds (by omega)
  obtain ⟨D', l', rs', c, hx, g', hep⟩ := g.appAny s
  refine (LW.append (sn := sn) (rs := rs) hl hb.1 hb.2.1 hb.2.2.1 (by omega) hx).mono ?_
  rintro e w' ⟨rfl, S', h', -, -⟩
  exact ⟨c, rfl, _, _, D', _, S', g', by show l'.ep ≤ m; omega, h'⟩
set_option maxHeartbeats 4000000 in
set_option maxRecDepth 100000 in
theorem HalvesAgain_walk (w : World) (A : Option Addr) (cap : Nat) (l0 : List ByteArray) (hr : RdV w A (l0.map .string)) (hsz : ∀ x, x ∈ l0 → x.size ≤ maxLen) (hl : l0.length ≤ maxLen) (sn0 : ByteArray) (hsn0 : sn0.size ≤ 140737488351232) (q : Int) (hq : Bd .i64 q) :
    Calls Try.prog 4 #[.slice A l0.length cap, .string sn0, .int .i64 q] w fun e w' => e = .returned (.bool true) ∧ Fr [] w w' := by
  unfold maxLen at hl
  have hnew := fun W => HNew W 400 (mi := 400) rfl (by omega) (by omega)
  have h3 : (headS 1 ⟨#[111, 108, 100]⟩).size = 5 := headS_small (by omega) (by decide)
  have hfm := fun w1 h d S hd hn => LW.format (w0 := w) (w := w1) h (d := d) (m := 400) (S := S) hd hn (s := ⟨#[111, 108, 100]⟩) (by decide) (.inr (by rw [h3]; decide))
  rw [h3] at hfm
  have hqm := i64_and3 q
  obtain ⟨qm, hqq, hq4⟩ : ∃ qm : Nat, q % 4 = (qm : Int) ∧ qm ≤ 3 := ⟨(q % 4).toNat, by omega, by omega⟩
  rw [hqq] at hqm
  have h30 := shortB_size sn0 30
  have hsh := fun W => short05_calls sn0 30 30 rfl W (by omega) (by decide)
  generalize shortB sn0 30 = sn at *
  have HNW := Lib.hid hnew
  have HFM := Lib.hid hfm
  have HR := Lib.hid hr
  have HSZ := Lib.hid hsz
  have HSH := Lib.hid hsh
  have H30 := Lib.hid h30
  clear hnew hfm h3 hr hsz hqq hq hsn0 hsh h30
  go_enter Try.func4, Try.ntmps4
  go_wp2_with fail
  (with_reducible refine (awake05_calls _).mono ?_)
  rintro e w0 ⟨rfl, hf0⟩
  go_wp2_with fail
  (with_reducible refine (HNW.out _).mono ?_)
  rintro e w1 ⟨d, rfl, S0, hd, hf1, hn1⟩
  have HD := Lib.hid hd
  have HF1 := Lib.hid (hf0.then hf1)
  have HN1 := Lib.hid (show ∀ k, k ∈ S0 → w.heap.size ≤ k from fun k hk => (hn1 k hk).elim (fun h => by cases h) (fun h => Nat.le_trans hf0.size h))
  clear hd hf0 hf1 hn1 HNW
  go_wp2_with fail
  (with_reducible refine (HFM.out w1 HF1.out d S0 HD.out HN1.out).mono ?_)
  rintro e w2 ⟨L, D0, S1, rfl, hw0, hi0, hl0, hz0, -⟩
  have HI := Lib.hid (show AgI w w2 d L 1 from ⟨_, _, D0, _, S1, ⟨hi0, hl0, hz0⟩, Nat.le_refl _, hw0⟩)
  clear hi0 hl0 hz0 hw0 HFM HD HN1 HF1
  go_wp2_with fail
  go_loopw [11] (fun v11 wr => ∃ (i : Nat), v11 = .int .i64 i ∧ i ≤ qm ∧ Hid (AgI w wr d L (1 + i))) (fun v11 _ => qm - (intOf v11).toNat)
  case atStart => exact ⟨0, rfl, Nat.zero_le _, HI⟩
  case round =>
    clear HI
    obtain ⟨i, rfl, hi, H⟩ := hrel
    by_cases hlt : i < qm
    · have hlt2 : (i : Int) < (qm : Int) := by omega
      go_wp2_with fail
      (with_reducible refine (ag_snap H.out (by omega)).mono ?_)
      rintro e w3 ⟨rfl, h3⟩
      have H3 := Lib.hid (show AgI w w3 d L (1 + (i + 1)) from h3)
      clear h3 H
      go_wp2_with fail
      exact ⟨⟨i + 1, by simp, by omega, H3⟩, by simp only [intOf]; omega⟩
    · have hlt2 : ¬ (i : Int) < (qm : Int) := by omega
      have HI2 : Hid (AgI w wr d L 4) := Lib.hid (by obtain ⟨a, b, c, dd, e, f, g, h⟩ := H.out; exact ⟨a, b, c, dd, e, f, by omega, h⟩)
      clear H
      go_wp2_with fail
      go_loopw [12] (fun v12 wq => ∃ (i : Nat), v12 = .int .i64 i ∧ i ≤ l0.length ∧ i ≤ 4 ∧ Hid (AgI w wq d L 4)) (fun v12 _ => 4 - (intOf v12).toNat)
      case atStart => exact ⟨0, rfl, Nat.zero_le _, Nat.zero_le _, HI2⟩
      case round =>
        clear HI2
        obtain ⟨k, rfl, hk, hk4, H⟩ := hrel
        by_cases hlk : k < l0.length
        · by_cases h4 : k < 4
          · obtain ⟨ad, rfl, hc0⟩ := HR.out k (.string l0[k]) (by simp [hlk])
            have hfr : Fr [] w wr := by obtain ⟨_, _, _, _, _, _, _, h⟩ := H.out; exact h.fr
            have hc : wr.cell? (ad.add k) = some (.string l0[k]) := hfr.cell' hc0 (by simp)
            have hxs := HSZ.out l0[k] (List.getElem_mem hlk)
            unfold maxLen at hxs
            generalize l0[k] = x at hc hxs
            have h30 := shortB_size x 30
            have hsh := short05_calls x 30 30 rfl wr hxs (by decide)
            generalize shortB x 30 = s at *
            have HSX := Lib.hid hsh
            have HS30 := Lib.hid h30
            clear hsh hxs hc0 hfr h30
            go_wp2_with fail
            (with_reducible refine HSX.out.mono ?_)
            rintro e w3 ⟨rfl, hw3⟩
            subst hw3
            go_wp2_with fail
            (with_reducible refine (ag_app H.out s (by have := HS30.out; omega)).mono ?_)
            rintro e w3 ⟨c, rfl, h3⟩
            have H3 := Lib.hid h3
            clear h3 H hc
            go_wp2_with fail
            exact ⟨⟨k + 1, by simp, by omega, by omega, H3⟩, by simp only [intOf]; omega⟩
          · have hc4 : ¬ ((k : Int) < 4) := by omega
            obtain ⟨osn, ors, D, l, S, hg, hep, hlw⟩ := H.out
            have hs30 := H30.out
            have hre := LW.reformat hlw hg (by omega) (by omega) (s := sn) (by omega) (by omega)
            have HLW := Lib.hid hlw
            have HRE := Lib.hid hre
            have HEP := Lib.hid hep
            obtain ⟨ep1, hep1⟩ : ∃ ep1 : Nat, l.ep + 1 = ep1 := ⟨_, rfl⟩
            rw [hep1] at hre
            have HRE := Lib.hid hre
            have HE1 := Lib.hid hep1
            clear hre hep hlw hg hs30 hep1 H
            go_wp2_with fail
            (with_reducible refine (HSH.out _).mono ?_)
            rintro e w3 ⟨rfl, hw3⟩
            subst hw3
            go_wp2_with fail
            (with_reducible refine HRE.out.mono ?_)
            rintro e w4 ⟨Ly, D4, S4, rfl, h4, g4, x4, n4⟩
            have hb4 := g4.bounds (by omega)
            have HOP := Lib.hid (open_found h4.dh hb4.2.2.2 hb4.2.2.1 g4.found)
            have H4 := Lib.hid h4
            have G4 := Lib.hid g4
            have HX4 := Lib.hid (And.intro x4 n4)
            clear hb4 h4 g4 x4 n4 HRE HLW
            go_wp2_with fail
            (with_reducible refine HOP.out.mono ?_)
            rintro e w5 ⟨Lz, A2, c2, S5, rfl, hz5, -, hd5, hf5, hn5, hL5, hL5', -⟩
            have hy5 := H4.out.reopened hd5 hf5 hn5
            have hx5 := HX4.out.1.keep hf5 HX4.out.2
            have hfw5 := hy5.fr
            have hlz : LW w w5 d Lz (tailS D4).1 ⟨0, ep1, sn.size + 10, false⟩ S5 := ⟨hd5, hz5, hL5', fun k hk => by
              rcases List.mem_cons.1 hk with rfl | hk
              · exact Nat.le_trans H4.out.fr.size hL5
              · exact hy5.new k (.tail _ hk), hfw5⟩
            have HY5 := Lib.hid hy5
            have HX5 := Lib.hid hx5
            have HLZ5 := Lib.hid hlz
            clear hy5 hx5 hfw5 hlz hz5 hd5 hf5 hn5 hL5 hL5' HOP H4 HX4
            go_wp2_with fail
            have HF6 := Lib.hid (heap_alloc_new w5 (.cells #[.int .u64 ep1, .string sn, .slice A2 0 c2] 37))
            have HY6 := Lib.hid (HY5.out.keep0 ((Fr.refl [] w5).alloc (.cells #[.int .u64 ep1, .string sn, .slice A2 0 c2] 37)))
            have HX6 := Lib.hid (HX5.out.keep ((Fr.refl [] w5).alloc (.cells #[.int .u64 ep1, .string sn, .slice A2 0 c2] 37)) (by simp))
            have HLZ6 := Lib.hid (HLZ5.out.keep0 ((Fr.refl [] w5).alloc (.cells #[.int .u64 ep1, .string sn, .slice A2 0 c2] 37)))
            generalize w5.alloc (.cells #[.int .u64 ep1, .string sn, .slice A2 0 c2] 37) = w6 at *
            generalize w5.heap.size = X at *
            clear HY5 HX5 HLZ5
            have HEY := Lib.hid (epoch_calls w6 Ly d _ HY6.out.lg)
            have HEX := Lib.hid (epoch_calls w6 L d _ HX6.out)
            have HEZ := Lib.hid (epoch_calls w6 Lz d _ HLZ6.out.lg)
            have hen : sn.size + 10 ≤ 1000000 := by have := H30.out; omega
            have HRY := Lib.hid (room_calls w6 Ly d _ _ S5 HY6.out.lg HY6.out.dh hen)
            have hwk : IntKind.u64.wrap ((l.ep : Int) + 1) = (ep1 : Int) := by
              have h1 := HE1.out
              have h2 := HEP.out
              rw [IntKind.wrap_u64]
              omega
            have g5 := G4.out.opened
            obtain ⟨D7, hx7, g7⟩ := g5.app (s := ⟨#[111, 110]⟩) (by decide) (by show sn.size + 10 + (2 + 8) ≤ 400 / 2; have := H30.out; omega)
            have hb5 := g5.bounds (by omega)
            have hb7 := g7.bounds (by omega)
            have HX7 := Lib.hid hx7
            have HG7 := Lib.hid g7
            have HB5 := Lib.hid hb5
            have HB7 := Lib.hid hb7
            obtain ⟨rm, hrm⟩ : ∃ rm, LSt.room (tailS D4).1 ⟨0, ep1, sn.size + 10, false⟩ = rm := ⟨_, rfl⟩
            have HRM := Lib.hid hrm
            have hry := HRY.out
            rw [hrm] at hry
            have HRY2 := Lib.hid hry
            clear g5 hx7 g7 hb5 hb7 hry hrm hen HRY HX6
            obtain ⟨f0, f1, f2⟩ := fd_cells HF6.out
            go_wp2_with fail
            (with_reducible refine HEY.out.mono ?_)
            rintro e w7 ⟨rfl, rfl⟩
            go_wp2_with fail
            (with_reducible refine HEX.out.mono ?_)
            rintro e w7 ⟨rfl, rfl⟩
            go_wp2_with fail
            (with_reducible refine HEZ.out.mono ?_)
            rintro e w7 ⟨rfl, rfl⟩
            go_wp2_with fail
            (with_reducible refine HEY.out.mono ?_)
            rintro e w7 ⟨rfl, rfl⟩
            go_wp2_with fail
            have hrz := room_calls w6 Lz d _ _ S5 HLZ6.out.lg HLZ6.out.dh HB5.out.2.1
            rw [HRM.out] at hrz
            clear HRY2
            (with_reducible refine hrz.mono ?_)
            rintro e w8 ⟨rfl, hf8⟩
            have HY8 := Lib.hid (HY6.out.keep0 hf8)
            have HLZ8 := Lib.hid (HLZ6.out.keep0 hf8)
            have hry := room_calls w8 Ly d _ _ S5 HY8.out.lg HY8.out.dh HB5.out.2.1
            rw [HRM.out] at hry
            clear hrz hf8 HY6 HLZ6 f0 f1 f2 HF6 HEY HEX HEZ
            go_wp2_with fail
            (with_reducible refine hry.mono ?_)
            rintro e w9 ⟨rfl, hf9⟩
            have HLZ9 := Lib.hid (HLZ8.out.keep0 hf9)
            clear hry hf9 HY8 HLZ8
            go_wp2_with fail
            (with_reducible refine (LW.append (sn := sn) (rs := []) HLZ9.out HB5.out.1 HB5.out.2.1 HB5.out.2.2.1 (by decide) HX7.out).mono ?_)
            rintro e w10 ⟨rfl, S10, h10, -, -⟩
            have HLZ10 := Lib.hid h10
            clear h10 HLZ9 HX7
            go_wp2_with fail
            (with_reducible refine (open_found HLZ10.out.dh HB7.out.2.2.2 HB7.out.2.2.1 HG7.out.found).mono ?_)
            rintro e w11 ⟨L2, A3, c3, S11, rfl, -, hrd, -, hf11, -, -, -, -⟩
            obtain ⟨ad3, rfl, e0⟩ := hrd 0 (.string ⟨#[111, 110]⟩) rfl
            have HF11 := Lib.hid (HLZ10.out.fr.trans hf11 (fun k hk => .inr (HLZ10.out.new k (.tail _ hk))))
            simp only [List.nil_append, List.length_cons, List.length_nil, Nat.zero_add]
            have e0 : w11.cell? ad3 = some (.string ⟨#[111, 110]⟩) := e0
            have e1 : ∀ o, (w11.alloc o).cell? ad3 = some (.string ⟨#[111, 110]⟩) := fun o => ((Fr.refl [] w11).alloc o).cell' e0 (by simp)
            have e2 : ∀ o, (w11.alloc o).cell? (ad3.add 0) = some (.string ⟨#[111, 110]⟩) := e1
            clear e0 hrd hf11 HLZ10
            go_wp2_with fail
            go_ret
            exact ⟨rfl, HF11.out.alloc _⟩
        · have hc4 : ¬ ((k : Int) < (l0.length : Int)) := by omega
          obtain ⟨osn, ors, D, l, S, hg, hep, hlw⟩ := H.out
          have hs30 := H30.out
          have hre := LW.reformat hlw hg (by omega) (by omega) (s := sn) (by omega) (by omega)
          have HLW := Lib.hid hlw
          have HRE := Lib.hid hre
          have HEP := Lib.hid hep
          obtain ⟨ep1, hep1⟩ : ∃ ep1 : Nat, l.ep + 1 = ep1 := ⟨_, rfl⟩
          rw [hep1] at hre
          have HRE := Lib.hid hre
          have HE1 := Lib.hid hep1
          clear hre hep hlw hg hs30 hep1 H
          go_wp2_with fail
          (with_reducible refine (HSH.out _).mono ?_)
          rintro e w3 ⟨rfl, hw3⟩
          subst hw3
          go_wp2_with fail
          (with_reducible refine HRE.out.mono ?_)
          rintro e w4 ⟨Ly, D4, S4, rfl, h4, g4, x4, n4⟩
          have hb4 := g4.bounds (by omega)
          have HOP := Lib.hid (open_found h4.dh hb4.2.2.2 hb4.2.2.1 g4.found)
          have H4 := Lib.hid h4
          have G4 := Lib.hid g4
          have HX4 := Lib.hid (And.intro x4 n4)
          clear hb4 h4 g4 x4 n4 HRE HLW
          go_wp2_with fail
          (with_reducible refine HOP.out.mono ?_)
          rintro e w5 ⟨Lz, A2, c2, S5, rfl, hz5, -, hd5, hf5, hn5, hL5, hL5', -⟩
          have hy5 := H4.out.reopened hd5 hf5 hn5
          have hx5 := HX4.out.1.keep hf5 HX4.out.2
          have hfw5 := hy5.fr
          have hlz : LW w w5 d Lz (tailS D4).1 ⟨0, ep1, sn.size + 10, false⟩ S5 := ⟨hd5, hz5, hL5', fun k hk => by
            rcases List.mem_cons.1 hk with rfl | hk
            · exact Nat.le_trans H4.out.fr.size hL5
            · exact hy5.new k (.tail _ hk), hfw5⟩
          have HY5 := Lib.hid hy5
          have HX5 := Lib.hid hx5
          have HLZ5 := Lib.hid hlz
          clear hy5 hx5 hfw5 hlz hz5 hd5 hf5 hn5 hL5 hL5' HOP H4 HX4
          go_wp2_with fail
          have HF6 := Lib.hid (heap_alloc_new w5 (.cells #[.int .u64 ep1, .string sn, .slice A2 0 c2] 37))
          have HY6 := Lib.hid (HY5.out.keep0 ((Fr.refl [] w5).alloc (.cells #[.int .u64 ep1, .string sn, .slice A2 0 c2] 37)))
          have HX6 := Lib.hid (HX5.out.keep ((Fr.refl [] w5).alloc (.cells #[.int .u64 ep1, .string sn, .slice A2 0 c2] 37)) (by simp))
          have HLZ6 := Lib.hid (HLZ5.out.keep0 ((Fr.refl [] w5).alloc (.cells #[.int .u64 ep1, .string sn, .slice A2 0 c2] 37)))
          generalize w5.alloc (.cells #[.int .u64 ep1, .string sn, .slice A2 0 c2] 37) = w6 at *
          generalize w5.heap.size = X at *
          clear HY5 HX5 HLZ5
          have HEY := Lib.hid (epoch_calls w6 Ly d _ HY6.out.lg)
          have HEX := Lib.hid (epoch_calls w6 L d _ HX6.out)
          have HEZ := Lib.hid (epoch_calls w6 Lz d _ HLZ6.out.lg)
          have hen : sn.size + 10 ≤ 1000000 := by have := H30.out; omega
          have HRY := Lib.hid (room_calls w6 Ly d _ _ S5 HY6.out.lg HY6.out.dh hen)
          have hwk : IntKind.u64.wrap ((l.ep : Int) + 1) = (ep1 : Int) := by
            have h1 := HE1.out
            have h2 := HEP.out
            rw [IntKind.wrap_u64]
            omega
          have g5 := G4.out.opened
          obtain ⟨D7, hx7, g7⟩ := g5.app (s := ⟨#[111, 110]⟩) (by decide) (by show sn.size + 10 + (2 + 8) ≤ 400 / 2; have := H30.out; omega)
          have hb5 := g5.bounds (by omega)
          have hb7 := g7.bounds (by omega)
          have HX7 := Lib.hid hx7
          have HG7 := Lib.hid g7
          have HB5 := Lib.hid hb5
          have HB7 := Lib.hid hb7
          obtain ⟨rm, hrm⟩ : ∃ rm, LSt.room (tailS D4).1 ⟨0, ep1, sn.size + 10, false⟩ = rm := ⟨_, rfl⟩
          have HRM := Lib.hid hrm
          have hry := HRY.out
          rw [hrm] at hry
          have HRY2 := Lib.hid hry
          clear g5 hx7 g7 hb5 hb7 hry hrm hen HRY HX6
          obtain ⟨f0, f1, f2⟩ := fd_cells HF6.out
          go_wp2_with fail
          (with_reducible refine HEY.out.mono ?_)
          rintro e w7 ⟨rfl, rfl⟩
          go_wp2_with fail
          (with_reducible refine HEX.out.mono ?_)
          rintro e w7 ⟨rfl, rfl⟩
          go_wp2_with fail
          (with_reducible refine HEZ.out.mono ?_)
          rintro e w7 ⟨rfl, rfl⟩
          go_wp2_with fail
          (with_reducible refine HEY.out.mono ?_)
          rintro e w7 ⟨rfl, rfl⟩
          go_wp2_with fail
          have hrz := room_calls w6 Lz d _ _ S5 HLZ6.out.lg HLZ6.out.dh HB5.out.2.1
          rw [HRM.out] at hrz
          clear HRY2
          (with_reducible refine hrz.mono ?_)
          rintro e w8 ⟨rfl, hf8⟩
          have HY8 := Lib.hid (HY6.out.keep0 hf8)
          have HLZ8 := Lib.hid (HLZ6.out.keep0 hf8)
          have hry := room_calls w8 Ly d _ _ S5 HY8.out.lg HY8.out.dh HB5.out.2.1
          rw [HRM.out] at hry
          clear hrz hf8 HY6 HLZ6 f0 f1 f2 HF6 HEY HEX HEZ
          go_wp2_with fail
          (with_reducible refine hry.mono ?_)
          rintro e w9 ⟨rfl, hf9⟩
          have HLZ9 := Lib.hid (HLZ8.out.keep0 hf9)
          clear hry hf9 HY8 HLZ8
          go_wp2_with fail
          (with_reducible refine (LW.append (sn := sn) (rs := []) HLZ9.out HB5.out.1 HB5.out.2.1 HB5.out.2.2.1 (by decide) HX7.out).mono ?_)
          rintro e w10 ⟨rfl, S10, h10, -, -⟩
          have HLZ10 := Lib.hid h10
          clear h10 HLZ9 HX7
          go_wp2_with fail
          (with_reducible refine (open_found HLZ10.out.dh HB7.out.2.2.2 HB7.out.2.2.1 HG7.out.found).mono ?_)
          rintro e w11 ⟨L2, A3, c3, S11, rfl, -, hrd, -, hf11, -, -, -, -⟩
          obtain ⟨ad3, rfl, e0⟩ := hrd 0 (.string ⟨#[111, 110]⟩) rfl
          have HF11 := Lib.hid (HLZ10.out.fr.trans hf11 (fun k hk => .inr (HLZ10.out.new k (.tail _ hk))))
          simp only [List.nil_append, List.length_cons, List.length_nil, Nat.zero_add]
          have e0 : w11.cell? ad3 = some (.string ⟨#[111, 110]⟩) := e0
          have e1 : ∀ o, (w11.alloc o).cell? ad3 = some (.string ⟨#[111, 110]⟩) := fun o => ((Fr.refl [] w11).alloc o).cell' e0 (by simp)
          have e2 : ∀ o, (w11.alloc o).cell? (ad3.add 0) = some (.string ⟨#[111, 110]⟩) := e1
          clear e0 hrd hf11 HLZ10
          go_wp2_with fail
          go_ret
          exact ⟨rfl, HF11.out.alloc _⟩
end Go.Proofs.Ytembnjpflllpbaa
