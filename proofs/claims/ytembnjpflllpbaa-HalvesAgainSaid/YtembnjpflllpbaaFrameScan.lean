/- The contract of frame.Scan. -/
import Derived.Test.YtembnjpflllpbaaFrameIter
import Derived.Maps.OwnIn
namespace Go.Proofs.Ytembnjpflllpbaa
open Go.RowKit Go.Shelf
set_option linter.unusedVariables false
set_option linter.unusedSimpArgs false
attribute [local go_sem] Oper.semAt_some

/-- Between two rounds of Scan: the texts so far, and the last one's end. -/
def ScanI (w0 : World) (bo be bb : Nat) (pre : List (ByteArray × Nat)) (W : World) : Prop :=
  ∃ v, Boxed W bo 22 v ∧ Boxed W be 3 (.int .i64 (lastOf pre : Int)) ∧ W.ownsRow w0.heap.size 9 1 v pre.length ((pre.map (·.1)).map .string) ∧ Below w0.heap.size w0 W ∧ (w0.heap.size ≤ bo ∧ w0.heap.size ≤ be ∧ bo ≠ be ∧ bb ≠ bo ∧ bb ≠ be) ∧ bb < W.heap.size ∧ some bb ≠ v.ownBlock

theorem ScanI.from {w0 : World} {bo be bb B : Nat} (hB : w0.heap.size ≤ B) : OwnFrom B (ScanI w0 bo be bb) := by
  rintro pre X Y row ⟨v, h1, h2, h3, h4, h5, h6, h7⟩ hg hr
  have hne : ∀ b cs t fz, X.heap[b]? = some (.cells cs t fz) → some b ≠ row := fun b cs t fz hb e => by
    obtain ⟨_, o, ho, hc⟩ := hr b e.symm
    rw [hb] at ho
    cases ho
    cases hc
  refine ⟨v, h1.kept hg (hne _ _ _ _ h1), h2.kept hg (hne _ _ _ _ h2), h3.kept hg ?_, h4.trans ?_, h5, Nat.lt_of_lt_of_le h6 hg.size, h7⟩
  · rcases h3.2 with ⟨rfl, _⟩ | ⟨g, cap, cur, rfl, _, hgb, _⟩
    · exact .inl rfl
    · exact .inr (fun e => hne g _ _ _ hgb (by simpa [Value.ownBlock] using e))
  · exact (Below.refl _ X).grown hg h4.size (fun k e => Nat.le_trans hB (hr k e).1)

/-- One round of Scan. -/
theorem ScanI.step {w0 W w1 : World} {bo be bb B : Nat} {pre : List (ByteArray × Nat)} {x : ByteArray × Nat} {v : Value} {g' cap' : Nat}
    (h1 : Boxed W bo 22 v) (h2 : Boxed W be 3 (.int .i64 (lastOf pre : Int))) (h3 : W.ownsRow w0.heap.size 9 1 v pre.length ((pre.map (·.1)).map .string)) (h4 : Below w0.heap.size w0 W)
    (h5 : w0.heap.size ≤ bo ∧ w0.heap.size ≤ be ∧ bo ≠ be ∧ bb ≠ bo ∧ bb ≠ be) (h6 : bb < W.heap.size) (h7 : some bb ≠ v.ownBlock)
    (hown' : w1.ownsRow w0.heap.size 9 1 (.slice (some ⟨g', 0, none⟩) (pre.length + 1) cap') (pre.length + 1) ((pre.map (·.1)).map .string ++ [.string x.1]))
    (hgrow : (W.alloc (.cells #[.string x.1] 9)).grownBy w1 v.ownBlock)
    (hob : (Value.slice (some ⟨g', 0, none⟩) (pre.length + 1) cap').ownBlock = v.ownBlock ∨ (Value.slice (some ⟨g', 0, none⟩) (pre.length + 1) cap').ownBlock = some (W.alloc (.cells #[.string x.1] 9)).heap.size) :
    KeepsFrom B W ((w1.setCell ⟨bo, 0, none⟩ (.slice (some ⟨g', 0, none⟩) (pre.length + 1) cap')).setCell ⟨be, 0, none⟩ (.int .i64 (x.2 : Int))) ∧ KpB bb W ((w1.setCell ⟨bo, 0, none⟩ (.slice (some ⟨g', 0, none⟩) (pre.length + 1) cap')).setCell ⟨be, 0, none⟩ (.int .i64 (x.2 : Int))) ∧ ScanI w0 bo be bb (pre ++ [x]) ((w1.setCell ⟨bo, 0, none⟩ (.slice (some ⟨g', 0, none⟩) (pre.length + 1) cap')).setCell ⟨be, 0, none⟩ (.int .i64 (x.2 : Int))) := by
  obtain ⟨q1, q2, q3, q4, q5⟩ := h5
  obtain ⟨hv1, hv2, hr2, hk2, hb2⟩ := h1.appended (by decide) h3 h4.size q1 hown' hgrow
  have hE1 : Boxed w1 be 3 (.int .i64 (lastOf pre : Int)) := (h2.alloc _).kept hgrow (h2.not_row (by decide) h3)
  generalize hvv : (Value.slice (some ⟨g', 0, none⟩) (pre.length + 1) cap') = v' at *
  have hE2 : Boxed (w1.setCell ⟨bo, 0, none⟩ v') be 3 (.int .i64 (lastOf pre : Int)) := hE1.kept (grownBy_setCell' w1 bo v') (by simp; exact fun e => q3 e.symm)
  have hg2 := grownBy_setCell' (w1.setCell ⟨bo, 0, none⟩ v') be (.int .i64 (x.2 : Int))
  have hsz1 := hgrow.size
  simp only [World.size_alloc] at hsz1
  have hF : Fr (bo :: be :: v.ownBlock.toList) W ((w1.setCell ⟨bo, 0, none⟩ v').setCell ⟨be, 0, none⟩ (.int .i64 (x.2 : Int))) :=
    ((((Fr.refl _ W).alloc _).trans (Fr.of_grownBy hgrow) (fun k hk => .inl (by simp; exact .inr (.inr (by simpa using hk))))).setCell (.inl (by simp)) _).setCell (.inl (by simp)) _
  refine ⟨(hk2.trans (KeepsOthers.setCell _ _ _)).from _, KpB.of_fr hF ?_, v', hv2.kept hg2 (by simp; exact q3), ?_, ?_, ?_, ⟨q1, q2, q3, q4, q5⟩, Nat.lt_of_lt_of_le h6 hF.size, ?_⟩
  · simp only [List.mem_cons, not_or]
    refine ⟨q4, q5, fun e => h7 ?_⟩
    cases hb : v.ownBlock with
    | none => rw [hb] at e; cases e
    | some z => rw [hb] at e; simp at e; rw [e]
  · rw [lastOf_snoc]
    exact hE2.set _
  · rw [List.length_append, List.map_append, List.map_append]
    exact hr2.kept hg2 (.inr (fun e => hE2.not_row (by decide) hr2 e.symm))
  · exact h4.trans (hb2.trans ((Below.refl _ _).setCell (p := ⟨be, 0, none⟩) q2 _))
  · rcases hob with e | e
    · rw [e]; exact h7
    · rw [e]
      intro e2
      injection e2 with e2
      simp at e2
      omega

set_option maxHeartbeats 2000000 in
set_option maxRecDepth 100000 in
theorem Scan_in (n : Nat) (hn : 3 ≤ n) (w : World) (s : ByteArray) (hs : s.size ≤ 1000000) :
    CallsIn Fence.wide n Try.prog 49 #[.string s] w fun e w' => ∃ v, e = .returned (.tuple #[v, .int .i64 (endOf s : Int)]) ∧ w'.ownsRow w.heap.size 9 1 v (textsB s).length ((textsB s).map .string) ∧ Below w.heap.size w w' := by
  have h1 : 1 ≤ n := by omega
  obtain ⟨i0, hi, hz0, hz1, hz2⟩ := info_parts infoString
  refine callsIn_of_wp_marks Try.func49 rfl trivial ?_ rfl
  simp only [Try.ntmps49, List.size_toArray, List.length_cons, List.length_nil, Nat.reduceAdd, Nat.reduceSub, Array.replicate_succ, Array.replicate_zero, List.push_toArray, List.append_toArray, List.nil_append, List.cons_append]
  gi_wp2_with fail
  refine ⟨trivial, (callsIn_wide.2 (records_calls _ _)).mono ?_⟩
  rintro e w1 ⟨rfl, rfl⟩
  have hB0 : Below w.heap.size w (((w.alloc (.cells #[.slice none 0 0] 22)).alloc (.cells #[.int .i64 0] 3)).alloc (.cells #[.string s] 9)) := (((Below.refl _ w).alloc (Nat.le_refl _) _).alloc (by simp) _).alloc (by simp; omega) _
  have hI0 : ScanI w w.heap.size (w.heap.size + 1) (w.heap.size + 1 + 1) [] (((w.alloc (.cells #[.slice none 0 0] 22)).alloc (.cells #[.int .i64 0] 3)).alloc (.cells #[.string s] 9)) := by
    have b1 := Boxed.new w 22 (.slice none 0 0)
    have b2 := Boxed.new (w.alloc (.cells #[.slice none 0 0] 22)) 3 (.int .i64 0)
    rw [World.size_alloc] at b2
    exact ⟨_, (b1.alloc _).alloc _, b2.alloc _, World.ownsRow_nil _ _ _ _, hB0, ⟨Nat.le_refl _, by omega, by omega, by omega, by omega⟩, by simp, by simp [Value.ownBlock]⟩
  have b3 := Boxed.new ((w.alloc (.cells #[.slice none 0 0] 22)).alloc (.cells #[.int .i64 0] 3)) 9 (.string s)
  have hsz : (((w.alloc (.cells #[.slice none 0 0] 22)).alloc (.cells #[.int .i64 0] 3)).alloc (.cells #[.string s] 9)).heap.size = w.heap.size + 3 := by simp
  rw [World.size_alloc, World.size_alloc] at b3
  simp only [World.size_alloc]
  generalize ((w.alloc (.cells #[.slice none 0 0] 22)).alloc (.cells #[.int .i64 0] 3)).alloc (.cells #[.string s] 9) = W0 at hB0 hI0 b3 hsz ⊢
  have HI0 := Lib.hid hI0
  have HB0 := Lib.hid hB0
  have HSZ := Lib.hid hsz
  have HB3 := Lib.hid b3
  clear hI0 hB0 hsz b3
  gi_wp2_with fail
  refine wpIn_rangeFunc_ownG rfl h1 (gf := 79) (lb := #[.pointer (some ⟨w.heap.size + 1 + 1, 0, none⟩)]) rfl trivial (enters_of Try.func79 (by kernel_rfl) rfl)
    (records_stops (n - 1) (by omega) (w.heap.size + 1 + 1) s hs W0 HB3.out.cell (by have := HSZ.out; omega)) KpB.trans KpB.put (Below.refl _ _) (fun _ => rfl)
    (ScanI w w.heap.size (w.heap.size + 1) (w.heap.size + 1 + 1)) (fun _ _ _ => False) (ScanI.from HB0.out.size) (fun _ _ _ _ _ hs _ _ => hs) HI0.out
    (fun x => { tmps := #[.string s, undef, .slice none 0 0, .int .i64 0, .pointer (some ⟨w.heap.size, 0, none⟩), .pointer (some ⟨w.heap.size + 1, 0, none⟩), .string x.1, .int .i64 (x.2 : Int), .string s, .func (.func 79) #[] #[.pointer (some ⟨w.heap.size + 1 + 1, 0, none⟩)], .string x.1, .int .i64 (x.2 : Int), undef, undef, undef, undef, undef, undef, undef], defers := [] }) ?assign ?body ?done ?stop
  case assign =>
    intro l x W K hK
    gi_wp2
    exact hK
  case body =>
    rintro l pre x W ⟨v, h1, h2, h3, h4, h5, h6, h7⟩ hlt
    have hc := h1.cell
    have hpm : pre.length + 1 ≤ maxLen := by simp only [maxLen]; omega
    have hpb : (pre.length + 1) * 16 ≤ 140737488355328 := by omega
    gi_wp2_with (gi_at_builtin; refine wpListIn_append_own_at _ rfl _ _ 22 rfl w.heap.size 9 i0 (.string ⟨#[]⟩) 1 16 Try.underlying22 hi hz0 hz1 hz2 rfl (by decide) _ _ _ rfl (h3.alloc _) ⟨W.heap.size, 0, none⟩ 1 1 [.string x.1] rfl rfl (cell_one_new _ _ _) (by simp [Value.oneCell']) hpm hpb (by have := h4.size; simp; omega) ?_; intro v' w1 hown' hgrow _ hob; obtain ⟨g', cap', rfl⟩ := ownsRow_succ hown'; obtain ⟨hv1, hv2, hr2, hk2, hb2⟩ := h1.appended (by decide) h3 h4.size h5.1 hown' hgrow; have hc1 := hv1.cell; have hf1 := hv1.frozen; have hE1 : Boxed w1 (w.heap.size + 1) 3 (.int .i64 (lastOf pre : Int)) := (h2.alloc _).kept hgrow (h2.not_row (by decide) h3); have hc2 := hE1.cell; have hf2 := hE1.frozen)
    exact ScanI.step h1 h2 h3 h4 h5 h6 h7 hown' hgrow hob
  case done =>
    rintro D ys W hD rfl ⟨v, h1, h2, h3, h4, h5, h6, h7⟩ hK
    have hc := h1.cell
    have hc2 := h2.cell
    obtain ⟨A, cap, rfl⟩ : ∃ A cap, v = .slice A (scanAt s 0).length cap := by
      rcases h3.2 with ⟨rfl, h⟩ | ⟨g, cap, cur, rfl, _⟩
      · exact ⟨none, 0, by rw [h]⟩
      · exact ⟨_, _, rfl⟩
    have HH := Lib.hid (And.intro h3 h4)
    have HK := Lib.hid hK
    clear h3 h4 h5 h6 h7 h1 h2 hK
    gi_wp2_with fail
    gi_region
    all_goals
      gi_wp2_with fail
      refine ⟨by simp, .inl ⟨_, _, rfl, run_takeDeferred HK.out, ?_⟩⟩
      have hrow : W.drew.ownsRow w.heap.size 9 1 (.slice A (scanAt s 0).length cap) (scanAt s 0).length (((scanAt s 0).map (·.1)).map .string) := HH.out.1
      have hbel : Below w.heap.size w W.drew := HH.out.2.drew
      have hD' : w.heap.size ≤ D := Nat.le_trans HB0.out.size hD
      exact ⟨_, results_tmp2 rfl _ _ _, _, rfl, by unfold textsB; rw [List.length_map]; exact ownsRow_putObj hrow _ HK.out rfl, hbel.trans (belowK_b (w := w) (Nat.le_refl _) W.drew D _ _ hD' HK.out rfl rfl)⟩
  case stop =>
    rintro D c pre W _ _ h _
    exact h.elim

theorem Scan_calls (w : World) (s : ByteArray) (hs : s.size ≤ 1000000) :
    Calls Try.prog 49 #[.string s] w fun e w' => ∃ A cap r, e = .returned (.tuple #[.slice A (textsB s).length cap, .int .i64 (endOf s : Int)]) ∧ SRow 9 1 w' (.slice A (textsB s).length cap) r (textsB s).length ((textsB s).map .string) ∧ Fr [] w w' ∧ (∀ k, k ∈ r → w.heap.size ≤ k) := by
  refine (callsIn_wide.1 (Scan_in 3 (Nat.le_refl _) w s hs)).mono ?_
  rintro e w' ⟨v, rfl, h1, h2⟩
  have hs : SRow 9 1 w' v v.ownBlock.toList (textsB s).length ((textsB s).map .string) := ⟨⟨h1.1, h1.2.imp id (fun ⟨g, cap, cur, a, b, c⟩ => ⟨g, cap, cur, a, Nat.zero_le _, c⟩)⟩, rfl⟩
  obtain ⟨A, cap, rfl, _⟩ := hs.reads
  refine ⟨A, cap, _, rfl, hs, Fr.of_below h2, fun k hk => ?_⟩
  exact (h1.lt k (by simpa using hk)).1

end Go.Proofs.Ytembnjpflllpbaa
