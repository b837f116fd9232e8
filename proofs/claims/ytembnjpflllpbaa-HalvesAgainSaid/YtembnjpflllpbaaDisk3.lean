/- Contracts of the disk: drop, the inner function of Crash. -/
import Derived.Test.YtembnjpflllpbaaDisk2
import Derived.Test.YtembnjpflllpbaaClear
import Derived.Deep.RegionLaw
namespace Go.Proofs.Ytembnjpflllpbaa
open Go.RowKit
set_option linter.unusedVariables false
set_option linter.unusedSimpArgs false

theorem DK.putS {w w1 : World} {b ps pn : Nat} {v : Value} {r : List Nat} {st nw : ByteArray} {wl : List (Nat × ByteArray)} {left : Int} {bad : Bool} (h : DK w b ps pn v r st nw wl left bad) {off : Nat} {s : ByteArray} (hfit : off + s.size ≤ st.size) (hB : BB 5 w1 ps (ovB st off s)) (hf : Fr [ps] w w1) : DK w1 b ps pn v r (ovB st off s) nw wl left bad := by
  have hsz := ovB_size hfit
  refine ⟨?_, h.wait.keep hf (fun k hk => by simp; rintro rfl; exact h.nr.2.1 hk), hB, h.hn.keep hf (by simp; exact fun e => h.ne3 e.symm), by rw [hsz]; exact h.size, by rw [hsz]; exact h.big, h.most, fun x hx => by rw [hsz]; exact h.fit x hx, h.left0, h.left1, h.ne1, h.ne2, h.ne3, h.nr⟩
  rw [hsz]
  exact (hf.block b (lt_of_heap h.blk) (by simp; exact h.ne1)).trans h.blk
theorem DK.cutW {w w1 : World} {b ps pn : Nat} {A : Option Addr} {n cap : Nat} {r : List Nat} {st nw : ByteArray} {wl : List (Nat × ByteArray)} {left : Int} {bad : Bool} (h : DK w b ps pn (.slice A n cap) r st nw wl left bad) {xs : List Value} (hx : SRow 69 2 w1 (.slice A n cap) r wl.length xs) (hf : Fr r w w1) :
    DK (w1.setCell ⟨b, 2, none⟩ (.slice A 0 cap)) b ps pn (.slice A 0 cap) r st nw [] left bad ∧ Fr (b :: r) w (w1.setCell ⟨b, 2, none⟩ (.slice A 0 cap)) := by
  have hb1 := (hf.block b (lt_of_heap h.blk) h.nr.1).trans h.blk
  have hfB : Fr [b] w1 (w1.setCell ⟨b, 2, none⟩ (.slice A 0 cap)) := (Fr.refl _ _).setCell (.inl (by simp)) _
  have hfC : Fr (b :: r) w (w1.setCell ⟨b, 2, none⟩ (.slice A 0 cap)) := (hf.mono (fun k hk _ => by simp [hk])).setCell (.inl (by simp)) _
  refine ⟨⟨?_, ?_, h.hs.keep hfC ?_, h.hn.keep hfC ?_, h.size, h.big, by simp, by simp, h.left0, h.left1, h.ne1, h.ne2, h.ne3, h.nr⟩, hfC⟩
  · simp [World.setCell, Array.getElem?_modify, hb1]
  · exact (hx.none).keep hfB (fun k hk => by simp; rintro rfl; exact h.nr.1 hk)
  · simp; exact ⟨fun e => h.ne1 e.symm, h.nr.2.1⟩
  · simp; exact ⟨fun e => h.ne2 e.symm, h.nr.2.2⟩

set_option maxHeartbeats 1000000 in
set_option maxRecDepth 100000 in
theorem drop_calls (w : World) (b ps pn : Nat) (v : Value) (r : List Nat) (st nw : ByteArray) (wl : List (Nat × ByteArray)) (left : Int) (bad : Bool) (h : DK w b ps pn v r st nw wl left bad) (n : Nat) {ni : Int} (hni : ni = n) (hn : n ≤ st.size) :
    Calls Try.prog 34 #[.pointer (some ⟨b, 0, none⟩), .int .i64 ni] w fun e w' => e = .returned (.tuple #[]) ∧ ∃ v', DK w' b ps pn v' r (ovB st 0 (nw.extract 0 n)) nw [] left bad ∧ Fr (b :: ps :: r) w w' := by
  subst hni
  obtain ⟨A, cap, rfl, -, -, -, -⟩ := h.wait.reads
  have hcut : (nw.extract 0 n).size = n := by have := h.size; rw [ByteArray.size_extract]; omega
  have HH := Lib.hid h
  have c0 : w.cell? ⟨b, 0, none⟩ = some (.slice (some ⟨ps, 0, none⟩) st.size st.size) := by rw [Lib.cell_of_heap h.blk]; rfl
  have c1 : w.cell? ⟨b, 1, none⟩ = some (.slice (some ⟨pn, 0, none⟩) st.size st.size) := by rw [Lib.cell_of_heap h.blk]; rfl
  have hbig := h.big
  clear h
  go_enter Try.func34, Try.ntmps34
  go_wp2_with fail
  go_region_law (refine step_copyR rfl _ _ 51 51 rfl 5 Try.underlying51 sizeU8 _ _ _ _ _ _ (nw.extract 0 n) hcut.symm rfl rfl (HH.out.hn.read 0 n) 5 ps 0 st HH.out.hs (by omega) (by omega) (fun _ => rfl) ?_; intro w1 hB1 hf1)
  all_goals
    have hf1' : Fr [ps] w w1 := ((Fr.refl [ps] w).drew).trans hf1 (fun k hk => .inl hk)
    have h1 := HH.out.putS (by omega) hB1 hf1'
    clear hB1 hf1 c0 c1
    have HH1 := Lib.hid h1
    have c2 : w1.cell? ⟨b, 2, none⟩ = some (.slice A wl.length cap) := by rw [Lib.cell_of_heap h1.blk]; rfl
    clear h1
    obtain ⟨w2, xs', hrun, h2, hf2⟩ := run_clearRow (P := Try.prog) w1 52 69 0 Try.underlying52 (.agg #[.int .i64 0, .string ⟨#[]⟩]) 2 24 infoWrite rfl (by simp [Value.cells, Value.oneCell']) (by decide) _ _ _ _ HH1.out.wait
    have hb2 := (hf2.block b (lt_of_heap HH1.out.blk) HH1.out.nr.1).trans HH1.out.blk
    have c2' : w2.cell? ⟨b, 2, none⟩ = some (.slice A wl.length cap) := by rw [Lib.cell_of_heap hb2]; rfl
    have z2 := Lib.frozen_of_heap hb2 2
    obtain ⟨hD, hF⟩ := HH1.out.cutW h2 hf2
    have hF2 : Fr (b :: ps :: r) w (w2.setCell ⟨b, 2, none⟩ (.slice A 0 cap)) := (hf1'.mono (fun k hk _ => by simp at hk; simp [hk])).trans hF (fun k hk => .inl (by simp at hk ⊢; rcases hk with h | h <;> simp [h]))
    have HD := Lib.hid hD
    have hcap := Lib.hid h2
    clear hD hF hb2 h2 hf2 HH1 hf1' HH
    cases A with
    | none =>
      have hc0 : cap = 0 := by
        rcases hcap.out.1.2 with ⟨h, _⟩ | ⟨g, c, cur, h, _⟩
        · injection h
        · injection h with h; cases h
      have hl0 : wl.length = 0 := by
        rcases hcap.out.1.2 with ⟨h, h'⟩ | ⟨g, c, cur, h, _⟩
        · exact h'
        · injection h with h; cases h
      subst hc0
      rw [hl0] at c2 c2' hrun
      clear hcap hl0
      go_wp2
      go_end0
      exact ⟨rfl, _, HD.out, hF2⟩
    | some ad =>
      obtain ⟨hcw, hcm⟩ : wl.length ≤ cap ∧ cap ≤ maxLen := by
        rcases hcap.out.1.2 with ⟨h, _⟩ | ⟨g, c, cur, h, _, _, h3, h4, _⟩
        · injection h with h; cases h
        · injection h with h5 h6 h7; subst h7; exact ⟨h3, h4⟩
      clear hcap
      unfold maxLen at hcm
      go_wp2
      go_end0
      exact ⟨rfl, _, HD.out, hF2⟩

end Go.Proofs.Ytembnjpflllpbaa
