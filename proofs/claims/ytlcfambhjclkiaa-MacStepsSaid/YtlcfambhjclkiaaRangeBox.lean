/- A law for a range over a function whose iterator keeps its place in a variable of its own (a box that it writes between the rounds); the body is never left by a jump. -/
import Derived.Test.YtlcfambhjclkiaaShaSeq
namespace Go.Proofs.Ytlcfambhjclkiaa
open Go.RowKit Go.Shelf
set_option linter.unusedVariables false
set_option linter.unusedSimpArgs false
attribute [local go_sem] Oper.semAt_some

/-- How a round's body ends: it goes on, and keeps what others need. -/
def BoxPost (B : Nat) (Kp : World → World → Prop) (R : World → Prop) (W : World) : Exit → Act → World → Prop
  | .normal, _, W' => KeepsFrom B W W' ∧ Kp W W' ∧ R W'
  | _, _, _ => False

section
variable {F : Fence} {n : Nat} {P : Program}
theorem range_box {α : Type} {g : Operand} {ps : Array Tmp} {assign body : Code} {Q : Exit → Act → World → Prop} {a : Act} {w : World} (hro : F.round = none) (h1 : 1 ≤ n) {gf : Nat} {lb : Array Value}
    (hg : a.eval g = .func (.func gf) #[] lb) (hFg : F.fn gf) (eg : ∀ args w, (callFunc gf args).run P w = .ok (.enter gf args) w) {encs : α → Array Value} (hps : ∀ x, (encs x).size = ps.size)
    {Kp : World → World → Prop} (hKt : ∀ {A B C : World}, Kp A B → Kp B C → Kp A C) (hKb : ∀ (W : World) (l : Nat) (o o' : Obj), W.heap[l]? = some o → o.isCells = false → Kp W (W.putObj l o'))
    {Bn : Nat} (hBn : Bn < w.heap.size) {P0 : World → Prop} (hP0 : ∀ W o, P0 W → P0 (W.alloc o)) (h0P : P0 w) {S : List α} {N : Nat}
    (hseq : ∀ (l : Nat) (J : List α → World → Prop) (W : World), AbidesFrom W.heap.size J → (∀ pre W1 v, J pre W1 → J pre (W1.setCell ⟨Bn, 0, none⟩ v)) →
      (∀ pre x W1, J pre W1 → pre.length < N → YieldAt F (n - 1 - 1) P l (encs x) W1 fun e W' => e = .returned (.bool true) ∧ J (pre ++ [x]) W' ∧ Kp W1 W') → P0 W → J [] W →
      CallsIn F (n - 1) P gf (#[.func (.yield l) #[] #[]] ++ lb) W fun e W' => (∃ v, e = .returned v) ∧ J S W')
    (I : List α → World → Prop) (hI : OwnFrom w.heap.size I) (hIB : ∀ pre W v, I pre W → I pre (W.setCell ⟨Bn, 0, none⟩ v)) (h0 : I [] w) (Ax : α → Act → World → Prop) (hAx : ∀ x a', OwnFrom w.heap.size (fun (_ : Unit) W => Ax x a' W))
    (hassign : ∀ (l : Nat) (pre : List α) (x : α) (W : World) (K : Act → World → Prop), I pre W → (∀ a' W', KeepsFrom w.heap.size W W' → Kp W W' → I pre W' → Ax x a' W' → K a' W') →
      assign.wpIn (F.inRound l) (n - 1 - 1) P (Exit.then K (fun _ _ _ => False)) { tmps := (ps.zip (encs x)).foldl (fun t (p, v) => t.setIfInBounds p v) a.tmps, defers := [] } W)
    (hbody : ∀ (l : Nat) (pre : List α) (x : α) (a' : Act) (W : World), I pre W → Ax x a' W → pre.length < N → body.wpIn (F.inRound l) (n - 1 - 1) P (BoxPost w.heap.size Kp (I (pre ++ [x])) W) a' W)
    (hdone : ∀ (D : Nat) (W : World), w.heap.size ≤ D → I S W → W.heap[D]? = some (.deferred (some [])) → Q .normal { a with defers := { target := .collected D, args := #[] } :: a.defers } W) :
    (Code.rangeFunc g ps assign body).wpIn F n P Q a w := by
  refine wpIn_rangeFunc ?_
  intro fn hfn
  rw [hro]
  obtain ⟨rec, hrec⟩ : ∃ rec : LoopState → Option Code → Loop, rec = fun st pe => { state := st, pending := pe, fn, tmps := a.tmps, params := ps, assign, body, defers := w.heap.size } := ⟨_, rfl⟩
  obtain ⟨V, hV⟩ : ∃ V, (w.alloc (.deferred (some []))).alloc (.loop (rec .ready none)) = V := ⟨_, rfl⟩
  have hVl : V.heap[w.heap.size + 1]? = some (.loop (rec .ready none)) := by
    rw [← hV]
    have h := World.alloc_heap_new (w.alloc (.deferred (some []))) (.loop (rec .ready none))
    rwa [World.size_alloc] at h
  have hVd : V.heap[w.heap.size]? = some (.deferred (some [])) := by
    rw [← hV]
    exact (Below.heap_alloc _ _ _ (by simp)).trans (World.alloc_heap_new w _)
  have hVs : V.heap.size = w.heap.size + 2 := by rw [← hV]; simp
  -- the caller's word, with the two blocks of book-keeping
  let J : List α → World → Prop := fun pre W => I pre W ∧ W.heap[w.heap.size + 1]? = some (.loop (rec .ready none)) ∧ W.heap[w.heap.size]? = some (.deferred (some []))
  have hJ : AbidesFrom V.heap.size J := by
    rintro s A B row ⟨hi, hl, hd⟩ hgb hr
    have hr' : ∀ r, row = some r → w.heap.size ≤ r ∧ ∃ o : Obj, A.heap[r]? = some o ∧ o.isCells = false := fun r e => by
      obtain ⟨hB, o, ho, hw⟩ := hr r e
      exact ⟨by omega, o, ho, Obj.not_cells_of_walk hw⟩
    exact ⟨hI s A B row hi hgb hr', (grownBy_keeps hgb (fun r e => (hr r e).2) hl rfl).trans hl, (grownBy_keeps hgb (fun r e => (hr r e).2) hd rfl).trans hd⟩
  have hJB : ∀ pre W1 v, J pre W1 → J pre (W1.setCell ⟨Bn, 0, none⟩ v) := by
    rintro pre W1 v ⟨hi, hl, hd⟩
    exact ⟨hIB pre W1 v hi, (Below.heap_setCell _ _ _ _ (by show _ ≠ Bn; omega)).trans hl, (Below.heap_setCell _ _ _ _ (by show _ ≠ Bn; omega)).trans hd⟩
  have hJ0 : J [] V := ⟨by rw [← hV]; exact hI.alloc _ (hI.alloc _ h0), hVl, hVd⟩
  have hround : ∀ pre x W1, J pre W1 → pre.length < N → YieldAt F (n - 1 - 1) P (w.heap.size + 1) (encs x) W1 fun e W' => e = .returned (.bool true) ∧ J (pre ++ [x]) W' ∧ Kp W1 W' := by
    rintro pre x W1 ⟨hi, hl, hd⟩ hlen
    have hy := run_yield (P := P) (args := encs x) hl (by rw [hrec]; exact hps x)
    rw [hrec] at hy
    refine ⟨fn, _, assign, body, hy, roundIn_of_wpIn hfn (hassign _ pre x W1 _ hi ?_)⟩
    intro a' Wa hka hkpa hia haxa
    have hla := hka.same _ _ (by omega) hl rfl
    have hda := hka.same _ _ (Nat.le_refl _) hd rfl
    have hlt : w.heap.size + 1 < Wa.heap.size := (Array.getElem?_eq_some_iff.1 hla).1
    refine ⟨_, run_beginRound hla (by rw [hrec]), ?_⟩
    have hlb : (Wa.putObj (w.heap.size + 1) (.loop { rec .ready none with state := .busy })).heap[w.heap.size + 1]? = some (.loop { rec .ready none with state := .busy }) := World.putObj_heap_same hlt
    have hdb : (Wa.putObj (w.heap.size + 1) (.loop { rec .ready none with state := .busy })).heap[w.heap.size]? = some (.deferred (some [])) := (World.putObj_heap_other (by omega)).trans hda
    refine wpIn_mono (hbody _ pre x a' _ (hI.putObj _ hia (by omega) hla rfl) ((hAx x a').putObj (s := ()) _ haxa (by omega) hla rfl) hlen) ?_
    rintro e ae We hp
    cases e with
    | normal =>
      obtain ⟨hke, hkpe, hie⟩ := hp
      have hle := hke.same _ _ (by omega) hlb rfl
      have hde := hke.same _ _ (Nat.le_refl _) hdb rfl
      have hend := run_endRound (P := P) none hle
      rw [hrec] at hend
      have hkp := hKt hkpa (hKt (hKb Wa _ _ (.loop { rec .ready none with state := .busy }) hla rfl) hkpe)
      refine ⟨_, _, hend, rfl, ⟨hI.putObj _ hie (by omega) hle rfl, ?_, (World.putObj_heap_other (by omega)).trans hde⟩, hKt hkp (hKb We _ _ _ hle rfl)⟩
      rw [hrec]
      exact World.putObj_heap_same (Array.getElem?_eq_some_iff.1 hle).1
    | ret => exact hp.elim
    | exit id => exact hp.elim
    | goto t => exact hp.elim
    | panic ch => exact hp.elim
    | outgrown => exact hp.elim
  refine ⟨w.heap.size + 1, [{ target := .collected w.heap.size, args := #[] }], V, { target := .fn (.func gf) lb, args := #[.func (.yield (w.heap.size + 1)) #[] #[]] }, V, gf, #[.func (.yield (w.heap.size + 1)) #[] #[]] ++ lb, V, ?_, ?_, ?_, ?_, fun _ => h1, ?_⟩
  · rw [← hV, hrec]
    exact run_enterLoop_outer _ _ _ _ _
  · simp only [resolve, hg]
    simp [go_sem]
  · intro f' hf'
    simp [Target.leads] at hf'
    subst hf'
    exact hFg
  · simp [invoke, go_sem, eg]
  · refine (hseq (w.heap.size + 1) J V hJ hJB hround (by rw [← hV]; exact hP0 _ _ (hP0 _ _ h0P)) hJ0).mono ?_
    rintro e W2 ⟨⟨v, rfl⟩, hi, hl, hd⟩
    have hend := run_endLoop (P := P) hl (by rw [hrec]; simp)
    rw [hrec] at hend
    exact ⟨none, _, hend, hdone _ _ (Nat.le_refl _) (hI.putObj _ hi (by omega) hl rfl) ((World.putObj_heap_other (by omega)).trans hd)⟩
end

end Go.Proofs.Ytlcfambhjclkiaa
