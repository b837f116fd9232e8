/- The contract of Snap of a log. -/
import Derived.Test.YtembnjpflllpbaaMild3
import Derived.Test.YtembnjpflllpbaaHDisk
import Derived.Shelf.Strings.Builder1
import Derived.Shelf.Strings.Builder2
import Derived.Shelf.Strings.BuilderF
import Derived.Shelf.Strings.Prefix
import Derived.Shelf.Bits.Mul64
import Derived.Shelf.Strings.Repeat
import Derived.Test.YtembnjpflllpbaaProg
import Derived.Test.YtembnjpflllpbaaFrame
import Derived.Test.YtembnjpflllpbaaPackW2
import Derived.Test.YtembnjpflllpbaaEvPut
import Derived.Test.YtembnjpflllpbaaPackPure5
import Derived.Test.YtembnjpflllpbaaFramePure2
import Derived.Test.YtembnjpflllpbaaFrameScan
import Derived.Test.YtembnjpflllpbaaPackR2
import Derived.Test.YtembnjpflllpbaaSRow1
/- Steps of the walk by 'wp_region_mild' that read slots of unknown values and yield one. -/
namespace Go.Proofs.Ytembnjpflllpbaa
open Go.RowKit
set_option linter.unusedVariables false
set_option linter.unusedSimpArgs false

section
variable {P : Program} {ops : Array Oper} {w0 : World} {Q : Act → List Free → Prop} {k : Nat} {o : Oper} {rest : List Oper} {a : Act} {env : List Free}
theorem mild_free1 {φ : Value → World → Prop} {e : Free} (hst : ∀ v W W', φ v W → Fr [] W W' → φ v W') (hF : (env.filter fun e => rds ops o e) = [e]) (h1 : ∀ W, Fr [] w0 W → ∀ u, e.fact u W → ∀ K : Value → World → Prop, (∀ u W', Fr [] W W' → φ u W' → K u W') → mildAt P ops o (a.put e.dst u) W K)
    (h2 : mildL P ops w0 Q (k + 1) rest (a.put o.dst undef) (⟨k, o.dst, φ⟩ :: env)) : mildL P ops w0 Q k (o :: rest) a env :=
  .inr ⟨φ, hst, fun W hW => by rw [hF]; exact fun u hu => h1 W hW u hu _ fun u W' hf hu => ⟨hf, hu⟩, h2⟩
theorem mild_free2 {φ : Value → World → Prop} {e e' : Free} (hst : ∀ v W W', φ v W → Fr [] W W' → φ v W') (hF : (env.filter fun e => rds ops o e) = [e, e']) (h1 : ∀ W, Fr [] w0 W → ∀ u, e.fact u W → ∀ u', e'.fact u' W → ∀ K : Value → World → Prop, (∀ u W', Fr [] W W' → φ u W' → K u W') → mildAt P ops o ((a.put e.dst u).put e'.dst u') W K)
    (h2 : mildL P ops w0 Q (k + 1) rest (a.put o.dst undef) (⟨k, o.dst, φ⟩ :: env)) : mildL P ops w0 Q k (o :: rest) a env :=
  .inr ⟨φ, hst, fun W hW => by rw [hF]; exact fun u hu u' hu' => h1 W hW u hu u' hu' _ fun u W' hf hu => ⟨hf, hu⟩, h2⟩
theorem mild_free3 {φ : Value → World → Prop} {e e' e'' : Free} (hst : ∀ v W W', φ v W → Fr [] W W' → φ v W') (hF : (env.filter fun e => rds ops o e) = [e, e', e'']) (h1 : ∀ W, Fr [] w0 W → ∀ u, e.fact u W → ∀ u', e'.fact u' W → ∀ u'', e''.fact u'' W → ∀ K : Value → World → Prop, (∀ u W', Fr [] W W' → φ u W' → K u W') → mildAt P ops o (((a.put e.dst u).put e'.dst u').put e''.dst u'') W K)
    (h2 : mildL P ops w0 Q (k + 1) rest (a.put o.dst undef) (⟨k, o.dst, φ⟩ :: env)) : mildL P ops w0 Q k (o :: rest) a env :=
  .inr ⟨φ, hst, fun W hW => by rw [hF]; exact fun u hu u' hu' u'' hu'' => h1 W hW u hu u' hu' u'' hu'' _ fun u W' hf hu => ⟨hf, hu⟩, h2⟩
theorem mild_call_free {f : FuncId} {args : Array Value} {W : World} {φ K : Value → World → Prop} (h : Calls P f args W fun e w' => ∃ v, e = .returned v ∧ φ v w' ∧ Fr [] W w') (hK : ∀ u W', Fr [] W W' → φ u W' → K u W') :
    Calls P f args W fun e w' => ∃ v, e = .returned v ∧ K v w' := h.mono fun _ _ ⟨v, he, hv, hf⟩ => ⟨v, he, hK v _ hf hv⟩
end
end Go.Proofs.Ytembnjpflllpbaa

/- What a function value does of a disk, and the contract of halves.steps: all of them, up to the first one that fails. -/
namespace Go.Proofs.Ytembnjpflllpbaa
open Go.RowKit
set_option linter.unusedVariables false
set_option linter.unusedSimpArgs false

abbrev FnX := FuncId × Array Value × Array Value
def fnV (x : FnX) : Value := .func (.func x.1) x.2.1 x.2.2
/-- Its call enters the function. -/
def Enters (x : FnX) : Prop := ∀ W : World, (callFunc x.1 (x.2.1 ++ x.2.2)).run Try.prog W = .ok (.enter x.1 (x.2.1 ++ x.2.2)) W
/-- A function value, called in any world in which the blocks F still lie, does g of the disk d. -/
def Does (m d : Nat) (F : List Nat) (W0 : World) (g : DSt → DSt × Int) (x : FnX) : Prop :=
  Enters x ∧ (∀ k, k ∈ F → k < W0.heap.size) ∧ ∀ (W : World) (D : DSt) (S : List Nat), (∀ k, k ∈ F → W.heap[k]? = W0.heap[k]?) → DH W d D S → (∀ k, k ∈ F → k ∉ S) → D.wl.length ≤ m →
    Calls Try.prog x.1 (x.2.1 ++ x.2.2) W fun e W' => e = .returned (.int .i64 (g D).2) ∧ DPost W d (g D).1 S W'
theorem Does.keep {m d : Nat} {F T : List Nat} {W0 W1 : World} {g : DSt → DSt × Int} {x : FnX} (h : Does m d F W0 g x) (hf : Fr T W0 W1) (hT : ∀ k, k ∈ F → k ∉ T) : Does m d F W1 g x :=
  ⟨h.1, fun k hk => Nat.lt_of_lt_of_le (h.2.1 k hk) hf.size, fun W D S h1 h3 h4 h5 => h.2.2 W D S (fun k hk => (h1 k hk).trans (hf.block k (h.2.1 k hk) (hT k hk))) h3 h4 h5⟩
theorem Does.more {m d : Nat} {F F' : List Nat} {W0 : World} {g : DSt → DSt × Int} {x : FnX} (h : Does m d F W0 g x) (hF : ∀ k, k ∈ F → k ∈ F') (hl : ∀ k, k ∈ F' → k < W0.heap.size) : Does m d F' W0 g x :=
  ⟨h.1, hl, fun W D S h1 h3 h4 h5 => h.2.2 W D S (fun k hk => h1 k (hF k hk)) h3 (fun k hk => h4 k (hF k hk)) h5⟩
/-- Steps, up to the first one that fails. -/
def seqS : List (DSt → DSt × Int) → DSt → DSt × Int
  | [], D => (D, 0)
  | g :: gs, D => if (g D).2 = 0 then seqS gs (g D).1 else g D
/-- A step lets at most so many writes more wait. -/
def Slow (m : Nat) (g : DSt → DSt × Int) : Prop := ∀ D, (g D).1.wl.length ≤ D.wl.length + m
theorem wrS_slow (k : Int) (s : ByteArray) : Slow 1 (fun D => wrS D k s) := by
  intro D
  simp only [wrS]
  split
  · split
    · simp
    · simp
  · simp
theorem syS_slow : Slow 0 syS := by
  intro D
  simp only [syS]
  split
  · simp
  · split <;> simp
theorem seqS_slow {m : Nat} : ∀ (gs : List (DSt → DSt × Int)), (∀ g, g ∈ gs → Slow m g) → Slow (gs.length * m) (seqS gs)
  | [], _, D => by simp [seqS]
  | g :: gs, h, D => by
    have h1 := h g (by simp) D
    have h2 := seqS_slow gs (fun x hx => h x (by simp [hx])) (g D).1
    simp only [seqS]
    split
    · simp only [List.length_cons, Nat.add_mul, Nat.one_mul]; omega
    · simp only [List.length_cons, Nat.add_mul, Nat.one_mul]; omega
/-- The state ahead of the step i, if all ahead of it went well. -/
def preS (gs : List (DSt → DSt × Int)) (D : DSt) : Nat → DSt
  | 0 => D
  | i + 1 => ((gs.getD i (fun D => (D, 0))) (preS gs D i)).1
theorem preS_cons (g : DSt → DSt × Int) (gs : List (DSt → DSt × Int)) (D : DSt) : ∀ i, preS (g :: gs) D (i + 1) = preS gs (g D).1 i
  | 0 => rfl
  | i + 1 => by
    show ((List.getD (g :: gs) (i + 1) _) (preS (g :: gs) D (i + 1))).1 = ((List.getD gs i _) (preS gs (g D).1 i)).1
    rw [preS_cons g gs D i]
    rfl
def allOk (gs : List (DSt → DSt × Int)) (D : DSt) (i : Nat) : Prop := ∀ j, j < i → ((gs.getD j (fun D => (D, 0))) (preS gs D j)).2 = 0
theorem seqS_ok : ∀ (gs : List (DSt → DSt × Int)) (D : DSt), allOk gs D gs.length → seqS gs D = (preS gs D gs.length, 0)
  | [], D, _ => rfl
  | g :: gs, D, h => by
    have h0 : (g D).2 = 0 := h 0 (by simp)
    have h1 : allOk gs (g D).1 gs.length := fun j hj => by
      have := h (j + 1) (by simpa using hj)
      rw [preS_cons] at this
      exact this
    rw [seqS, if_pos h0, seqS_ok gs _ h1, List.length_cons, preS_cons]
theorem seqS_bad : ∀ (gs : List (DSt → DSt × Int)) (D : DSt) (i : Nat), i < gs.length → allOk gs D i → ((gs.getD i (fun D => (D, 0))) (preS gs D i)).2 ≠ 0 → seqS gs D = (gs.getD i (fun D => (D, 0))) (preS gs D i)
  | g :: gs, D, 0, _, _, h => by
    have h0 : (g D).2 ≠ 0 := h
    rw [seqS, if_neg h0]
    rfl
  | g :: gs, D, i + 1, hi, h, hb => by
    have h0 : (g D).2 = 0 := h 0 (by omega)
    have h1 : allOk gs (g D).1 i := fun j hj => by
      have := h (j + 1) (by omega)
      rw [preS_cons] at this
      exact this
    rw [preS_cons] at hb ⊢
    rw [seqS, if_pos h0]
    exact seqS_bad gs _ i (by simpa using hi) h1 hb
set_option maxHeartbeats 2000000 in
set_option maxRecDepth 100000 in
theorem steps_calls (m : Nat) (w : World) (d b : Nat) (F : List Nat) (D : DSt) (S : List Nat) (cap : Nat) (xs : List FnX) (gs : List (DSt → DSt × Int)) (hlen : xs.length = gs.length) (hb : w.heap[b]? = some (.cells (xs.map fnV).toArray 65 (0, 0)))
    (hd : DH w d D S) (hbs : b ∉ S) (hS : ∀ k, k ∈ F → k ∉ S) (hx : ∀ i (hi : i < xs.length) (hi' : i < gs.length), Does m d F w gs[i] xs[i]) (hl : gs.length ≤ 8) (hsl : ∀ g, g ∈ gs → Slow 3 g) (hw : D.wl.length + 24 ≤ m) :
    Calls Try.prog 27 #[.slice (some ⟨b, 0, none⟩) xs.length cap] w fun e w' => e = .returned (.int .i64 (seqS gs D).2) ∧ DPost w d (seqS gs D).1 S w' := by
  have hbl := lt_of_heap hb
  have hpre : ∀ i, i ≤ gs.length → (preS gs D i).wl.length ≤ D.wl.length + i * 3 := by
    intro i
    induction i with
    | zero => intro _; simp [preS]
    | succ i ih =>
      intro hi
      have h1 := ih (by omega)
      have h2 := hsl (gs.getD i (fun D => (D, 0))) (by rw [List.getD_eq_getElem?_getD, List.getElem?_eq_getElem (by omega : i < gs.length)]; exact List.getElem_mem _) (preS gs D i)
      simp only [preS]
      omega
  have hcall : ∀ (i : Nat) (hi : i < xs.length) (W : World), DPost w d (preS gs D i) S W → Calls Try.prog xs[i].1 (xs[i].2.1 ++ xs[i].2.2) W fun e W' => e = .returned (.int .i64 ((gs.getD i (fun D => (D, 0))) (preS gs D i)).2) ∧ DPost w d ((gs.getD i (fun D => (D, 0))) (preS gs D i)).1 S W' := by
    intro i hi W hW
    obtain ⟨S', h1, h2, h3⟩ := id hW
    have hi' : i < gs.length := by omega
    have hg : gs.getD i (fun D => (D, 0)) = gs[i] := by rw [List.getD_eq_getElem?_getD, List.getElem?_eq_getElem hi']; rfl
    rw [hg]
    have h4 := hpre i (by omega)
    have hx' := hx i hi hi'
    refine (hx'.2.2 W _ S' (fun k hk => h2.block k (hx'.2.1 k hk) (hS k hk)) h1 (fun k hk hm => ?_) (by omega)).mono ?_
    · rcases h3 k hm with h | h
      · exact hS k hk h
      · have := hx'.2.1 k hk
        omega
    · rintro e W' ⟨rfl, S2, g1, g2, g3⟩
      refine ⟨rfl, S2, g1, h2.trans g2 h3, fun k hk => ?_⟩
      rcases g3 k hk with h | h
      · exact h3 k h
      · exact .inr (Nat.le_trans h2.size h)
  have hen : ∀ (i : Nat) (hi : i < xs.length), Enters xs[i] := fun i hi => (hx i hi (by omega)).1
  have hok := seqS_ok gs D
  have hbad := seqS_bad gs D
  have hlm : xs.length ≤ 8 := by omega
  have HC := Lib.hid hcall
  have HEN := Lib.hid hen
  have HO := Lib.hid hok
  have HB := Lib.hid hbad
  have HL := Lib.hid hlen
  have HBK := Lib.hid hb
  have HBS := Lib.hid hbs
  have HD := Lib.hid hd
  clear hcall hen hok hbad hlen hb hbs hd hS hx hsl hpre hbl hw hl
  go_enter Try.func27, Try.ntmps27
  go_wp2_with fail
  go_loopw [8] (fun v8 wr => ∃ (i : Nat), v8 = .int .i64 i ∧ i ≤ xs.length ∧ Hid (allOk gs D i ∧ DPost w d (preS gs D i) S wr)) (fun v8 _ => xs.length - (intOf v8).toNat)
  case atStart => exact ⟨0, rfl, Nat.zero_le _, Lib.hid ⟨fun j hj => absurd hj (by omega), DPost.same HD.out⟩⟩
  case round =>
    obtain ⟨i, rfl, hin, H⟩ := hrel
    by_cases hlt : i < xs.length
    · have hc : wr.cell? ⟨b, i, none⟩ = some (.func (.func xs[i].1) xs[i].2.1 xs[i].2.2) := by
        obtain ⟨S', h1, h2, h3⟩ := H.out.2
        rw [Lib.cell_of_heap (blk_keep HBK.out h2 HBS.out)]
        simp [hlt, fnV]
      have hca := HC.out i hlt wr H.out.2
      have hent := HEN.out i hlt wr
      have HG := Lib.hid (show ∀ c : Int, ((gs.getD i (fun D => (D, 0))) (preS gs D i)).2 = c → (c = 0 → allOk gs D (i + 1)) from fun c hc h0 j hj => by
        by_cases hji : j < i
        · exact H.out.1 j hji
        · obtain rfl : j = i := by omega
          rw [hc, h0])
      have HE := Lib.hid (HB.out i (by have := HL.out; omega) H.out.1)
      have hp : preS gs D (i + 1) = ((gs.getD i (fun D => (D, 0))) (preS gs D i)).1 := rfl
      have HP := Lib.hid hp
      clear H hp
      generalize (gs.getD i (fun D => (D, 0))) (preS gs D i) = y at *
      obtain ⟨D1, c⟩ := y
      simp only at hca
      generalize xs[i] = x at *
      obtain ⟨f, first, fcap⟩ := x
      simp only at hca hc hent
      have HCA := Lib.hid hca
      clear hca
      go_wp2_with fail
      (with_reducible refine HCA.out.mono ?_)
      rintro e w2 ⟨rfl, hP⟩
      have HPP := Lib.hid hP
      clear hP HCA hent hc
      by_cases h0 : c = 0
      · subst h0
        have HG1 := Lib.hid (HG.out 0 rfl rfl)
        clear HG HE
        go_wp2_with fail
        exact ⟨⟨i + 1, by simp, by omega, Lib.hid ⟨HG1.out, by rw [HP.out]; exact HPP.out⟩⟩, by simp only [intOf]; omega⟩
      · have hb1 : (c == 0) = false := beq_eq_false_iff_ne.2 h0
        have hb2 : (c != 0) = true := bne_iff_ne.2 h0
        have HE1 := Lib.hid (HE.out h0)
        clear HG HE h0
        go_wp2_with fail
        go_ret
        rw [HE1.out]
        exact ⟨rfl, HPP.out⟩
    · have hi : i = xs.length := by omega
      have HE1 := Lib.hid (HO.out (by rw [← HL.out, ← hi]; exact H.out.1))
      have HH := Lib.hid (show DPost w d (preS gs D gs.length) S wr from by rw [← HL.out, ← hi]; exact H.out.2)
      subst hi
      clear H hin
      go_wp2_with fail
      go_ret
      rw [HE1.out]
      exact ⟨rfl, HH.out⟩
end Go.Proofs.Ytembnjpflllpbaa

/- Contracts of the library's functions at this program, laid by the kit's shelf (its plain mode), cut to what is used. -/
namespace Go.Proofs
open Go.Shelf
def Try.lays105_ren : Go.Shelf.Ren := ⟨fun | 105 => 43 | 212 => 59 | 99 => 60 | 165 => 61 | 166 => 62 | 170 => 63 | 169 => 56 | 263 => 72 | 264 => 73 | 206 => 74 | 240 => 75 | 241 => 76 | 276 => 81 | 277 => 82 | n => n, fun | 9 => 9 | 3 => 3 | 4 => 4 | 20 => 20 | 0 => 0 | 46 => 99 | 109 => 100 | 5 => 5 | 72 => 76 | 76 => 105 | 51 => 120 | 146 => 121 | 53 => 35 | 148 => 123 | 70 => 74 | 37 => 51 | 75 => 104 | 127 => 119 | 164 => 129 | 80 => 83 | n => n, fun | n => n⟩
theorem Try.lays105 : Go.Proofs.Lays.n105 Try.prog Try.lays105_ren := {
  mixed := by kernel_rfl
  f99 := Try.func60.trans (congrArg some (by kernel_rfl))
  f105 := Try.func43.trans (congrArg some (by kernel_rfl))
  f165 := Try.func61.trans (congrArg some (by kernel_rfl))
  f166 := Try.func62.trans (congrArg some (by kernel_rfl))
  f169 := Try.func56.trans (congrArg some (by kernel_rfl))
  f170 := Try.func63.trans (congrArg some (by kernel_rfl))
  f206 := Try.func74.trans (congrArg some (by kernel_rfl))
  f212 := Try.func59.trans (congrArg some (by kernel_rfl))
  f240 := Try.func75.trans (congrArg some (by kernel_rfl))
  f241 := Try.func76.trans (congrArg some (by kernel_rfl))
  f263 := Try.func72.trans (congrArg some (by kernel_rfl))
  f264 := Try.func73.trans (congrArg some (by kernel_rfl))
  f276 := Try.func81.trans (congrArg some (by kernel_rfl))
  f277 := Try.func82.trans (congrArg some (by kernel_rfl))
  t0 := Try.underlying0
  a0 := Try.isAgg0
  z0 := Try.sizeOf0
  v0 := Try.zeroValue0
  t3 := Try.underlying3
  a3 := Try.isAgg3
  z3 := Try.sizeOf3
  v3 := Try.zeroValue3
  t4 := Try.underlying4
  a4 := Try.isAgg4
  z4 := Try.sizeOf4
  v4 := Try.zeroValue4
  t5 := Try.underlying5
  a5 := Try.isAgg5
  z5 := Try.sizeOf5
  v5 := Try.zeroValue5
  t9 := Try.underlying9
  a9 := Try.isAgg9
  z9 := Try.sizeOf9
  v9 := Try.zeroValue9
  t20 := Try.underlying20
  a20 := Try.isAgg20
  z20 := Try.sizeOf20
  v20 := Try.zeroValue20
  t37 := Try.underlying51
  a37 := Try.isAgg51
  z37 := Try.sizeOf51
  v37 := Try.zeroValue51
  t46 := Try.underlying99
  a46 := Try.isAgg99
  z46 := Try.sizeOf99
  v46 := Try.zeroValue99
  t51 := Try.underlying120
  a51 := Try.isAgg120
  z51 := Try.sizeOf120
  v51 := Try.zeroValue120
  t53 := Try.underlying35
  a53 := Try.isAgg35
  z53 := Try.sizeOf35
  v53 := Try.zeroValue35
  t70 := Try.underlying74
  a70 := Try.isAgg74
  z70 := Try.sizeOf74
  v70 := Try.zeroValue74
  t72 := Try.underlying76
  a72 := Try.isAgg76
  z72 := Try.sizeOf76
  v72 := Try.zeroValue76
  t75 := Try.underlying104
  a75 := Try.isAgg104
  z75 := Try.sizeOf104
  v75 := Try.zeroValue104
  t76 := Try.underlying105
  a76 := Try.isAgg105
  z76 := Try.sizeOf105
  v76 := Try.zeroValue105
  t109 := Try.underlying100
  a109 := Try.isAgg100
  z109 := Try.sizeOf100
  v109 := Try.zeroValue100
  t127 := Try.underlying119
  a127 := Try.isAgg119
  z127 := Try.sizeOf119
  v127 := Try.zeroValue119
  t146 := Try.underlying121
  a146 := Try.isAgg121
  z146 := Try.sizeOf121
  v146 := Try.zeroValue121
  t148 := Try.underlying123
  a148 := Try.isAgg123
  z148 := Try.sizeOf123
  v148 := Try.zeroValue123
  t164 := Try.underlying129
  a164 := Try.isAgg129
  z164 := Try.sizeOf129
  v164 := Try.zeroValue129 }
theorem Try.Builder_Extra_105 : Builder.Extra Try.prog Try.lays105_ren := {
  sizeBuilder := by kernel_rfl
  liesBuilder := by kernel_rfl
  t5 := Try.underlying5
  a5 := Try.isAgg5
  z5 := Try.sizeOf5
  v5 := Try.zeroValue5
  infoByte := by kernel_rfl
  cellsByte := by kernel_rfl
  sizeByte := by kernel_rfl
  neB5 := by decide }
open Go.RowKit Go.Lib in
theorem Try.strings_Repeat (s : ByteArray) (c : Nat) (w : World) (hc : c ≤ 9223372036854775807) (hlen : s.size * c ≤ 140737488355328) :
    Calls Try.prog 43 #[.string s, .int .i64 c] w fun e w' => e = .returned (.string ⟨(Lib.repeatL s.data.toList c).toArray⟩) ∧ Below w.heap.size w w' := Any.strings_Repeat Try.lays105 Try.Builder_Extra_105 s c w hc hlen
end Go.Proofs

/- The contracts of halves.wipe and halves.put: function values that write and sync. -/
namespace Go.Proofs.Ytembnjpflllpbaa
open Go.RowKit
set_option linter.unusedVariables false
set_option linter.unusedSimpArgs false
attribute [local go_sem] mildAt mildUpon

theorem repeat_zeros (n : Nat) (w : World) {ni : Int} (hni : ni = n) (hn : n ≤ 131072) :
    Calls Try.prog 43 #[.string ⟨#[0]⟩, .int .i64 ni] w fun e w' => e = .returned (.string (zerosB n)) ∧ Fr [] w w' := by
  subst hni
  refine (Try.strings_Repeat ⟨#[0]⟩ n w (by omega) (by show 1 * n ≤ _; omega)).mono ?_
  rintro e w' ⟨rfl, hb⟩
  have e : ∀ n, Lib.repeatL [(0 : UInt8)] n = List.replicate n (0 : UInt8) := by
    intro n
    induction n with
    | zero => rfl
    | succ n ih => rw [Lib.repeatL, ih, List.replicate_succ]; rfl
  refine ⟨?_, Fr.of_below hb⟩
  have e2 : (⟨(Lib.repeatL [(0 : UInt8)] n).toArray⟩ : ByteArray) = zerosB n := by
    apply ByteArray.ext
    show (Lib.repeatL [(0 : UInt8)] n).toArray = Array.replicate n 0
    rw [e, List.toArray_replicate]
  exact congrArg (fun s => Ending.returned (.string s)) e2
/-- A text is written, and synced. -/
def putS (at' : Int) (s : ByteArray) : DSt → DSt × Int := seqS [fun D => wrS D at' s, syS]
theorem putS_slow (at' : Int) (s : ByteArray) : Slow 2 (putS at' s) := seqS_slow (m := 1) [fun D => wrS D at' s, syS] (fun g hg => by
  simp only [List.mem_cons, List.not_mem_nil, or_false] at hg
  rcases hg with rfl | rfl
  · exact wrS_slow at' s
  · exact fun D => Nat.le_trans (syS_slow D) (by omega))
/-- The three boxes that a closure holds. -/
structure Box3 (d : Nat) (W0 : World) (at' : Int) (v : Value) (T : TypeId) (x y z : Nat) : Prop where
  hx : W0.heap[x]? = some (.cells #[.pointer (some ⟨d, 0, none⟩)] 24 (0, 0))
  hy : W0.heap[y]? = some (.cells #[.int .i64 at'] 3 (0, 0))
  hz : W0.heap[z]? = some (.cells #[v] T (0, 0))
theorem Box3.in {d : Nat} {W0 W : World} {at' : Int} {v : Value} {T : TypeId} {x y z : Nat} (h : Box3 d W0 at' v T x y z) (hW : ∀ k, k ∈ [x, y, z] → W.heap[k]? = W0.heap[k]?) : Box3 d W at' v T x y z :=
  ⟨(hW x (by simp)).trans h.hx, (hW y (by simp)).trans h.hy, (hW z (by simp)).trans h.hz⟩
theorem Box3.lt {d : Nat} {W0 : World} {at' : Int} {v : Value} {T : TypeId} {x y z : Nat} (h : Box3 d W0 at' v T x y z) : ∀ k, k ∈ [x, y, z] → k < W0.heap.size := by
  intro k hk
  simp only [List.mem_cons, List.not_mem_nil, or_false] at hk
  rcases hk with rfl | rfl | rfl
  · exact lt_of_heap h.hx
  · exact lt_of_heap h.hy
  · exact lt_of_heap h.hz
theorem Box3.keep {d : Nat} {W0 W : World} {at' : Int} {v : Value} {T : TypeId} {x y z : Nat} (h : Box3 d W0 at' v T x y z) (hf : Fr [] W0 W) : Box3 d W at' v T x y z := h.in (fun k hk => hf.block k (h.lt k hk) (by simp))
theorem Box3.cells {d : Nat} {W0 : World} {at' : Int} {v : Value} {T : TypeId} {x y z : Nat} (h : Box3 d W0 at' v T x y z) : W0.cell? ⟨x, 0, none⟩ = some (.pointer (some ⟨d, 0, none⟩)) ∧ W0.cell? ⟨y, 0, none⟩ = some (.int .i64 at') ∧ W0.cell? ⟨z, 0, none⟩ = some v :=
  ⟨by rw [Lib.cell_of_heap h.hx]; rfl, by rw [Lib.cell_of_heap h.hy]; rfl, by rw [Lib.cell_of_heap h.hz]; rfl⟩
theorem enters_sync (d : Nat) : Enters (44, #[.pointer (some ⟨d, 0, none⟩)], #[]) := fun _ => rfl
theorem sync_does (m d : Nat) (F : List Nat) (W0 : World) (hF : ∀ k, k ∈ F → k < W0.heap.size) : Does m d F W0 syS (44, #[.pointer (some ⟨d, 0, none⟩)], #[]) :=
  ⟨enters_sync d, hF, fun W D S _ h3 _ _ => HSync W d D S h3⟩
theorem DPost.pre {w w1 w2 : World} {d : Nat} {D' : DSt} {S : List Nat} (hf : Fr [] w w1) (h : DPost w1 d D' S w2) : DPost w d D' S w2 := by
  obtain ⟨S', g1, g2, g3⟩ := h
  exact ⟨S', g1, ((Fr.refl S w).then hf).trans g2 (fun k hk => .inl hk), fun k hk => (g3 k hk).imp id (Nat.le_trans hf.size)⟩
set_option maxHeartbeats 2000000 in
set_option maxRecDepth 100000 in
theorem wipe11_does (d : Nat) (W0 : World) (a b : Int) (ha : 0 ≤ a) (hab : a ≤ b) (hb : b ≤ a + 131072) (hb2 : b ≤ 1000000000) (x y z : Nat) (h : Box3 d W0 a (.int .i64 b) 3 x y z) :
    Does 1000 d [x, y, z] W0 (fun D => wrS D a (zerosB (b - a).toNat)) (41, #[], #[.pointer (some ⟨x, 0, none⟩), .pointer (some ⟨y, 0, none⟩), .pointer (some ⟨z, 0, none⟩)]) := by
  refine ⟨fun _ => rfl, h.lt, fun w D S h2 h3 h4 h5 => ?_⟩
  have hB := h.in h2
  clear h h2
  show Calls Try.prog 41 #[.pointer (some ⟨x, 0, none⟩), .pointer (some ⟨y, 0, none⟩), .pointer (some ⟨z, 0, none⟩)] w fun e W' => e = .returned (.int .i64 (wrS D a (zerosB (b - a).toNat)).2) ∧ DPost w d (wrS D a (zerosB (b - a).toNat)).1 S W'
  have hrp := fun W => repeat_zeros (b - a).toNat W (ni := b - a) (by omega) (by omega)
  have hwr := fun W hd => HWrite W d D S hd a (Bd.of_i64 (by omega) (by omega)) (zerosB (b - a).toNat) (by rw [zerosB_size]; omega) (by omega)
  generalize zerosB (b - a).toNat = Z at *
  generalize wrS D a Z = q at *
  obtain ⟨D', c⟩ := q
  simp only at hwr ⊢
  obtain ⟨T, hT⟩ : ∃ T, b - a = T := ⟨_, rfl⟩
  have wk : IntKind.i64.wrap T = T := by rw [IntKind.wrap_i64]; omega
  rw [hT] at hrp
  have HRP := Lib.hid hrp
  have HWR := Lib.hid hwr
  have HBX := Lib.hid hB
  have HD := Lib.hid h3
  clear hrp hwr hB h3 h4 h5 ha hab hb hb2
  go_enter Try.func41, Try.ntmps41
  go_wp2_with fail
  refine wp_region_mild 6 (by kernel_rfl) (by kernel_rfl) ?_
  simp only [List.take_succ_cons, List.take_zero, List.drop_succ_cons, List.drop_zero, List.take_nil, List.drop_nil]
  repeat (first
    | (apply mild_det0; (· rfl); (· intro W hW K hK; go_simp; with_reducible exact mild_call (HRP.out W) hK); simp only [Act.put, List.setIfInBounds_toArray, List.set_cons_succ, List.set_cons_zero, Nat.reduceAdd])
    | ((apply mild_det0; (· rfl); (· intro W hW K hK; have hW' : Fr [] w W := ⟨hW.os, hW.tape, hW.output, hW.size, hW.block⟩; obtain ⟨d0, d1, d2⟩ := (HBX.out.keep hW').cells; go_simp; exact hK _ (Fr.refl _ _))); simp only [Act.put, List.setIfInBounds_toArray, List.set_cons_succ, List.set_cons_zero, Nat.reduceAdd])
    | (apply mild_det0; (· rfl); (· intro W hW K hK; go_simp; exact hK _ (Fr.refl _ _)); simp only [Act.put, List.setIfInBounds_toArray, List.set_cons_succ, List.set_cons_zero, Nat.reduceAdd])
    | (apply mild_slice; (· rfl); (· intro W hW K hK; go_simp; exact hK _ _ ((Fr.refl _ _).alloc _) ⟨_, rfl, heap_alloc_new _ _⟩); simp only [Act.put, List.setIfInBounds_toArray, List.set_cons_succ, List.set_cons_zero, Nat.reduceAdd]))
  refine mild_nil ?_
  intro W2 hW2
  have HF2 : Hid (Fr [] w W2) := Lib.hid ⟨hW2.os, hW2.tape, hW2.output, hW2.size, hW2.block⟩
  clear hW2
  simp only [subAll]
  (try simp only [Act.put, List.setIfInBounds_toArray, List.set_cons_succ, List.set_cons_zero])
  go_wp2_with fail
  (with_reducible refine (HWR.out _ (HD.out.keep0 HF2.out)).mono ?_)
  rintro e w3 ⟨rfl, hP⟩
  have HP := Lib.hid (DPost.pre HF2.out hP)
  clear hP
  go_wp2_with fail
  go_ret
  exact ⟨rfl, HP.out⟩
set_option maxHeartbeats 2000000 in
set_option maxRecDepth 100000 in
theorem put11_does (d : Nat) (W0 : World) (a : Int) (ha : 0 ≤ a) (hb2 : a ≤ 1000000000) (s : ByteArray) (hs : s.size ≤ 1000000000) (x y z : Nat) (h : Box3 d W0 a (.string s) 9 x y z) :
    Does 1000 d [x, y, z] W0 (fun D => wrS D a (wrapB s)) (46, #[], #[.pointer (some ⟨x, 0, none⟩), .pointer (some ⟨y, 0, none⟩), .pointer (some ⟨z, 0, none⟩)]) := by
  refine ⟨fun _ => rfl, h.lt, fun w D S h2 h3 h4 h5 => ?_⟩
  have hB := h.in h2
  clear h h2
  show Calls Try.prog 46 #[.pointer (some ⟨x, 0, none⟩), .pointer (some ⟨y, 0, none⟩), .pointer (some ⟨z, 0, none⟩)] w fun e W' => e = .returned (.int .i64 (wrS D a (wrapB s)).2) ∧ DPost w d (wrS D a (wrapB s)).1 S W'
  have hrp := fun W => Wrap_calls W s (by omega)
  have hsz := wrapB_le s
  have hwr := fun W hd => HWrite W d D S hd a (Bd.of_i64 (by omega) (by omega)) (wrapB s) (by omega) (by omega)
  generalize wrapB s = Z at *
  generalize wrS D a Z = q at *
  obtain ⟨D', c⟩ := q
  simp only at hwr ⊢
  have HRP := Lib.hid hrp
  have HWR := Lib.hid hwr
  have HBX := Lib.hid hB
  have HD := Lib.hid h3
  clear hrp hwr hB h3 h4 h5 ha hb2 hs hsz
  go_enter Try.func46, Try.ntmps46
  go_wp2_with fail
  refine wp_region_mild 4 (by kernel_rfl) (by kernel_rfl) ?_
  simp only [List.take_succ_cons, List.take_zero, List.drop_succ_cons, List.drop_zero, List.take_nil, List.drop_nil]
  repeat (first
    | (apply mild_det0; (· rfl); (· intro W hW K hK; go_simp; with_reducible exact mild_call (HRP.out W) hK); simp only [Act.put, List.setIfInBounds_toArray, List.set_cons_succ, List.set_cons_zero, Nat.reduceAdd])
    | ((apply mild_det0; (· rfl); (· intro W hW K hK; have hW' : Fr [] w W := ⟨hW.os, hW.tape, hW.output, hW.size, hW.block⟩; obtain ⟨d0, d1, d2⟩ := (HBX.out.keep hW').cells; go_simp; exact hK _ (Fr.refl _ _))); simp only [Act.put, List.setIfInBounds_toArray, List.set_cons_succ, List.set_cons_zero, Nat.reduceAdd])
    | (apply mild_det0; (· rfl); (· intro W hW K hK; go_simp; exact hK _ (Fr.refl _ _)); simp only [Act.put, List.setIfInBounds_toArray, List.set_cons_succ, List.set_cons_zero, Nat.reduceAdd])
    | (apply mild_slice; (· rfl); (· intro W hW K hK; go_simp; exact hK _ _ ((Fr.refl _ _).alloc _) ⟨_, rfl, heap_alloc_new _ _⟩); simp only [Act.put, List.setIfInBounds_toArray, List.set_cons_succ, List.set_cons_zero, Nat.reduceAdd]))
  refine mild_nil ?_
  intro W2 hW2
  have HF2 : Hid (Fr [] w W2) := Lib.hid ⟨hW2.os, hW2.tape, hW2.output, hW2.size, hW2.block⟩
  clear hW2
  simp only [subAll]
  (try simp only [Act.put, List.setIfInBounds_toArray, List.set_cons_succ, List.set_cons_zero])
  go_wp2_with fail
  (with_reducible refine (HWR.out _ (HD.out.keep0 HF2.out)).mono ?_)
  rintro e w3 ⟨rfl, hP⟩
  have HP := Lib.hid (DPost.pre HF2.out hP)
  clear hP
  go_wp2_with fail
  go_ret
  exact ⟨rfl, HP.out⟩
set_option maxHeartbeats 2000000 in
set_option maxRecDepth 100000 in
theorem wipe1_does (d : Nat) (W0 : World) (a b : Int) (ha : 0 ≤ a) (hab : a ≤ b) (hb : b ≤ a + 131072) (hb2 : b ≤ 1000000000) (x y z : Nat) (h : Box3 d W0 a (.int .i64 b) 3 x y z) :
    Does 900 d [x, y, z] W0 (putS a (zerosB (b - a).toNat)) (40, #[], #[.pointer (some ⟨x, 0, none⟩), .pointer (some ⟨y, 0, none⟩), .pointer (some ⟨z, 0, none⟩)]) := by
  refine ⟨fun _ => rfl, h.lt, fun w D S h2 h3 h4 h5 => ?_⟩
  have hB := h.in h2
  show Calls Try.prog 40 #[.pointer (some ⟨x, 0, none⟩), .pointer (some ⟨y, 0, none⟩), .pointer (some ⟨z, 0, none⟩)] w fun e W' => e = .returned (.int .i64 (putS a (zerosB (b - a).toNat) D).2) ∧ DPost w d (putS a (zerosB (b - a).toNat) D).1 S W'
  have hmf : ∀ (fn : Fn) (first cap : Array Value) (w : World), (Instr.makeFunc fn first cap).run Try.prog w = .ok (.func fn first cap) w := fun _ _ _ _ => rfl
  obtain ⟨d0, d1, d2⟩ := hB.cells
  have hst : Calls Try.prog 27 #[.slice (some ⟨w.heap.size, 0, none⟩) 2 2] (w.alloc (.cells #[.func (.func 41) #[] #[.pointer (some ⟨x, 0, none⟩), .pointer (some ⟨y, 0, none⟩), .pointer (some ⟨z, 0, none⟩)], .func (.func 44) #[.pointer (some ⟨d, 0, none⟩)] #[]] 65)) fun e W' => e = .returned (.int .i64 (putS a (zerosB (b - a).toNat) D).2) ∧ DPost w d (putS a (zerosB (b - a).toNat) D).1 S W' := by
    have hf := (Fr.refl [] w).alloc (.cells #[.func (.func 41) #[] #[.pointer (some ⟨x, 0, none⟩), .pointer (some ⟨y, 0, none⟩), .pointer (some ⟨z, 0, none⟩)], .func (.func 44) #[.pointer (some ⟨d, 0, none⟩)] #[]] 65)
    have hbk := hB.keep hf
    refine (steps_calls 1000 _ d w.heap.size [x, y, z] D S 2 [(41, #[], #[.pointer (some ⟨x, 0, none⟩), .pointer (some ⟨y, 0, none⟩), .pointer (some ⟨z, 0, none⟩)]), (44, #[.pointer (some ⟨d, 0, none⟩)], #[])] [fun D => wrS D a (zerosB (b - a).toNat), syS] rfl (heap_alloc_new w _) (h3.keep0 hf) (fun hm => by have := h3.lt _ hm; omega) h4 ?_ (by simp) ?_ (by omega)).mono ?_
    · intro i hi hi'
      match i, hi with
      | 0, _ => exact wipe11_does d _ a b ha hab hb hb2 x y z hbk
      | 1, _ => exact sync_does 1000 d _ _ hbk.lt
    · intro g hg
      simp only [List.mem_cons, List.not_mem_nil, or_false] at hg
      rcases hg with rfl | rfl
      · exact fun D => Nat.le_trans (wrS_slow _ _ D) (by omega)
      · exact fun D => Nat.le_trans (syS_slow D) (by omega)
    · rintro e w' ⟨rfl, hP⟩
      exact ⟨rfl, hP.pre hf⟩
  have HST := Lib.hid hst
  clear hst hB h2 h3 h4 h5
  go_enter Try.func40, Try.ntmps40
  go_wp2_with fail
  (with_reducible refine HST.out.mono ?_)
  rintro e w3 ⟨rfl, hP⟩
  have HP := Lib.hid hP
  clear hP HST
  go_wp2_with fail
  go_ret
  exact ⟨rfl, HP.out⟩
set_option maxHeartbeats 2000000 in
set_option maxRecDepth 100000 in
theorem put1_does (d : Nat) (W0 : World) (a : Int) (ha : 0 ≤ a) (hb2 : a ≤ 1000000000) (s : ByteArray) (hs : s.size ≤ 1000000000) (x y z : Nat) (h : Box3 d W0 a (.string s) 9 x y z) :
    Does 900 d [x, y, z] W0 (putS a (wrapB s)) (45, #[], #[.pointer (some ⟨x, 0, none⟩), .pointer (some ⟨y, 0, none⟩), .pointer (some ⟨z, 0, none⟩)]) := by
  refine ⟨fun _ => rfl, h.lt, fun w D S h2 h3 h4 h5 => ?_⟩
  have hB := h.in h2
  show Calls Try.prog 45 #[.pointer (some ⟨x, 0, none⟩), .pointer (some ⟨y, 0, none⟩), .pointer (some ⟨z, 0, none⟩)] w fun e W' => e = .returned (.int .i64 (putS a (wrapB s) D).2) ∧ DPost w d (putS a (wrapB s) D).1 S W'
  have hmf : ∀ (fn : Fn) (first cap : Array Value) (w : World), (Instr.makeFunc fn first cap).run Try.prog w = .ok (.func fn first cap) w := fun _ _ _ _ => rfl
  obtain ⟨d0, d1, d2⟩ := hB.cells
  have hst : Calls Try.prog 27 #[.slice (some ⟨w.heap.size, 0, none⟩) 2 2] (w.alloc (.cells #[.func (.func 46) #[] #[.pointer (some ⟨x, 0, none⟩), .pointer (some ⟨y, 0, none⟩), .pointer (some ⟨z, 0, none⟩)], .func (.func 44) #[.pointer (some ⟨d, 0, none⟩)] #[]] 65)) fun e W' => e = .returned (.int .i64 (putS a (wrapB s) D).2) ∧ DPost w d (putS a (wrapB s) D).1 S W' := by
    have hf := (Fr.refl [] w).alloc (.cells #[.func (.func 46) #[] #[.pointer (some ⟨x, 0, none⟩), .pointer (some ⟨y, 0, none⟩), .pointer (some ⟨z, 0, none⟩)], .func (.func 44) #[.pointer (some ⟨d, 0, none⟩)] #[]] 65)
    have hbk := hB.keep hf
    refine (steps_calls 1000 _ d w.heap.size [x, y, z] D S 2 [(46, #[], #[.pointer (some ⟨x, 0, none⟩), .pointer (some ⟨y, 0, none⟩), .pointer (some ⟨z, 0, none⟩)]), (44, #[.pointer (some ⟨d, 0, none⟩)], #[])] [fun D => wrS D a (wrapB s), syS] rfl (heap_alloc_new w _) (h3.keep0 hf) (fun hm => by have := h3.lt _ hm; omega) h4 ?_ (by simp) ?_ (by omega)).mono ?_
    · intro i hi hi'
      match i, hi with
      | 0, _ => exact put11_does d _ a ha hb2 s hs x y z hbk
      | 1, _ => exact sync_does 1000 d _ _ hbk.lt
    · intro g hg
      simp only [List.mem_cons, List.not_mem_nil, or_false] at hg
      rcases hg with rfl | rfl
      · exact fun D => Nat.le_trans (wrS_slow _ _ D) (by omega)
      · exact fun D => Nat.le_trans (syS_slow D) (by omega)
    · rintro e w' ⟨rfl, hP⟩
      exact ⟨rfl, hP.pre hf⟩
  have HST := Lib.hid hst
  clear hst hB h2 h3 h4 h5
  go_enter Try.func45, Try.ntmps45
  go_wp2_with fail
  (with_reducible refine HST.out.mono ?_)
  rintro e w3 ⟨rfl, hP⟩
  have HP := Lib.hid hP
  clear hP HST
  go_wp2_with fail
  go_ret
  exact ⟨rfl, HP.out⟩
/-- A function value that is new: what it does of the disk d; its own blocks are new. -/
def FnV (d B : Nat) (g : DSt → DSt × Int) (v : Value) (W : World) : Prop := ∃ x F, v = fnV x ∧ Does 900 d F W g x ∧ ∀ k, k ∈ F → B ≤ k
theorem FnV.stable {d B : Nat} {g : DSt → DSt × Int} (v : Value) (W W' : World) (h : FnV d B g v W) (hf : Fr [] W W') : FnV d B g v W' := by
  obtain ⟨x, F, hv, hd, hF⟩ := h
  exact ⟨x, F, hv, hd.keep hf (fun _ _ => by simp), hF⟩
theorem wipe_calls (w : World) (d : Nat) (a b : Int) (ha : 0 ≤ a) (hab : a ≤ b) (hb : b ≤ a + 131072) (hb2 : b ≤ 1000000000) (B : Nat) (hB : B ≤ w.heap.size) :
    Calls Try.prog 28 #[.pointer (some ⟨d, 0, none⟩), .int .i64 a, .int .i64 b] w fun e w' => ∃ v, e = .returned v ∧ FnV d B (putS a (zerosB (b - a).toNat)) v w' ∧ Fr [] w w' := by
  have hmf : ∀ (fn : Fn) (first cap : Array Value) (w : World), (Instr.makeFunc fn first cap).run Try.prog w = .ok (.func fn first cap) w := fun _ _ _ _ => rfl
  go_enter Try.func28, Try.ntmps28
  go_wp2_with fail
  go_ret
  refine ⟨_, rfl, ⟨(40, #[], #[.pointer (some ⟨w.heap.size, 0, none⟩), .pointer (some ⟨w.heap.size + 1, 0, none⟩), .pointer (some ⟨w.heap.size + 2, 0, none⟩)]), _, rfl, wipe1_does d _ a b ha hab hb hb2 _ _ _ ⟨?_, ?_, ?_⟩, fun k hk => ?_⟩, (((Fr.refl [] w).alloc _).alloc _).alloc _⟩
  · exact alloc_keep (alloc_keep (heap_alloc_new _ _))
  · refine alloc_keep ?_
    have := heap_alloc_new (w.alloc (.cells #[.pointer (some ⟨d, 0, none⟩)] 24)) (.cells #[.int .i64 a] 3)
    simpa using this
  · have := heap_alloc_new ((w.alloc (.cells #[.pointer (some ⟨d, 0, none⟩)] 24)).alloc (.cells #[.int .i64 a] 3)) (.cells #[.int .i64 b] 3)
    simpa using this
  · simp at hk; omega
theorem put_calls5 (w : World) (d : Nat) (a : Int) (ha : 0 ≤ a) (hb2 : a ≤ 1000000000) (s : ByteArray) (hs : s.size ≤ 1000000000) (B : Nat) (hB : B ≤ w.heap.size) :
    Calls Try.prog 29 #[.pointer (some ⟨d, 0, none⟩), .int .i64 a, .string s] w fun e w' => ∃ v, e = .returned v ∧ FnV d B (putS a (wrapB s)) v w' ∧ Fr [] w w' := by
  have hmf : ∀ (fn : Fn) (first cap : Array Value) (w : World), (Instr.makeFunc fn first cap).run Try.prog w = .ok (.func fn first cap) w := fun _ _ _ _ => rfl
  go_enter Try.func29, Try.ntmps29
  go_wp2_with fail
  go_ret
  refine ⟨_, rfl, ⟨(45, #[], #[.pointer (some ⟨w.heap.size, 0, none⟩), .pointer (some ⟨w.heap.size + 1, 0, none⟩), .pointer (some ⟨w.heap.size + 2, 0, none⟩)]), _, rfl, put1_does d _ a ha hb2 s hs _ _ _ ⟨?_, ?_, ?_⟩, fun k hk => ?_⟩, (((Fr.refl [] w).alloc _).alloc _).alloc _⟩
  · exact alloc_keep (alloc_keep (heap_alloc_new _ _))
  · refine alloc_keep ?_
    have := heap_alloc_new (w.alloc (.cells #[.pointer (some ⟨d, 0, none⟩)] 24)) (.cells #[.int .i64 a] 3)
    simpa using this
  · have := heap_alloc_new ((w.alloc (.cells #[.pointer (some ⟨d, 0, none⟩)] 24)).alloc (.cells #[.int .i64 a] 3)) (.cells #[.string s] 9)
    simpa using this
  · simp at hk; omega
end Go.Proofs.Ytembnjpflllpbaa

/- The contracts of halves.size, head and fits. -/
namespace Go.Proofs.Ytembnjpflllpbaa
open Go.RowKit
set_option linter.unusedVariables false
set_option linter.unusedSimpArgs false

def headS (n : Nat) (s : ByteArray) : ByteArray := numB n ++ txtB s
def fitsS (n room : Nat) : Bool := decide (1 ≤ n ∧ n ≤ 32768) && decide (n + 8 ≤ room)
theorem no_mem {p : Nat → Prop} : ∀ k, k ∈ ([] : List Nat) → p k := fun _ h => by cases h
theorem size5_calls (w : World) (d : Nat) (D : DSt) (S : List Nat) (h : DH w d D S) :
    Calls Try.prog 25 #[.pointer (some ⟨d, 0, none⟩)] w fun e w' => e = .returned (.int .i64 (D.st.size / 2 : Nat)) ∧ w = w' := by
  have hs := HSize w d D S h
  have hb := h.fit.2
  have HS := Lib.hid hs
  have hq : Int.tdiv (D.st.size : Int) 2 = ((D.st.size / 2 : Nat) : Int) := by
    rw [Int.tdiv_eq_ediv_of_nonneg (by omega)]
    omega
  clear hs h
  go_enter Try.func25, Try.ntmps25
  go_wp2_with fail
  (with_reducible refine HS.out.mono ?_)
  rintro e w1 ⟨rfl, rfl⟩
  go_wp2_with fail
  go_ret
  exact ⟨by first | rfl | (rw [hq]; done) | simp [hq], rfl⟩
theorem fits_calls (w : World) (s : ByteArray) (hs : s.size ≤ 1000000000) (room : Nat) {ri : Int} (hr : ri = room) :
    Calls Try.prog 26 #[.string s, .int .i64 ri] w fun e w' => e = .returned (.bool (fitsS s.size room)) ∧ w = w' := by
  subst hr
  have hf := FSize_calls w (s.size : Int) (Bd.of_i64 (by omega) (by omega))
  unfold fitsS
  by_cases h1 : 1 ≤ s.size ∧ s.size ≤ 32768
  · rw [fsize_in (by omega) (by omega)] at hf
    rw [decide_eq_true h1, Bool.true_and]
    by_cases h2 : s.size + 8 ≤ room
    · rw [decide_eq_true h2]
      have h3 : (s.size : Int) + 8 ≤ (room : Int) := by omega
      have HF := Lib.hid hf
      clear hf h2
      go_enter Try.func26, Try.ntmps26
      go_wp2_with fail
      (with_reducible refine HF.out.mono ?_)
      rintro e w1 ⟨rfl, rfl⟩
      go_wp2_with fail
      go_ret
      exact ⟨rfl, rfl⟩
    · rw [decide_eq_false h2]
      have h3 : ¬ ((s.size : Int) + 8 ≤ (room : Int)) := by omega
      have h4 : decide ((s.size : Int) + 8 ≤ (room : Int)) = false := decide_eq_false h3
      have HF := Lib.hid hf
      clear hf h2
      go_enter Try.func26, Try.ntmps26
      go_wp2_with fail
      (with_reducible refine HF.out.mono ?_)
      rintro e w1 ⟨rfl, rfl⟩
      go_wp2_with fail
      go_ret
      exact ⟨rfl, rfl⟩
  · rw [fsize_out (by omega)] at hf
    rw [decide_eq_false h1, Bool.false_and]
    have HF := Lib.hid hf
    clear hf h1
    go_enter Try.func26, Try.ntmps26
    go_wp2_with fail
    (with_reducible refine HF.out.mono ?_)
    rintro e w1 ⟨rfl, rfl⟩
    go_wp2_with fail
    go_ret
    exact ⟨rfl, rfl⟩
set_option maxHeartbeats 2000000 in
set_option maxRecDepth 100000 in
theorem head_calls (w : World) (n : Nat) {ni : Int} (hni : ni = n) (hn : n < 18446744073709551616) (s : ByteArray) (hs : s.size ≤ 1000000000) :
    Calls Try.prog 24 #[.int .u64 ni, .string s] w fun e w' => e = .returned (.string (headS n s)) ∧ Fr [] w w' := by
  subst hni
  have hnum : ∀ (w0 W : World) (b : Nat) (r : List Nat) (h : Bld 80 5 w0 b r ⟨#[]⟩) (q : Nat) (hW : Fr [] w0 W) (hq0 : w0.heap.size ≤ q) (hq : q < W.heap.size) (hr : RdV W (some ⟨q, 0, none⟩) ([(n : Int)].map (.int .u64))), _ := fun w0 W b r h q hW hq0 hq hr => put_num w0 W b r ⟨#[]⟩ [(n : Int)] h q hW hq0 hq hr (by simp; omega) (by simp [ByteArray.size]) (m := 1) rfl
  have hnl := numsB_size [(n : Int)] (by simp; omega)
  have htxt : ∀ (w0 w1 W : World) (b : Nat) (r : List Nat) (m : Nat) (hb : b < w0.heap.size) (hrl : ∀ k, k ∈ r → k < w0.heap.size) (h : NumDone w0 b r (⟨#[]⟩ ++ numsB [(n : Int)]) m w1) (q : Nat) (hW : Fr [] w1 W) (hq0 : w0.heap.size ≤ q) (hq : q < m ∨ w1.heap.size ≤ q) (hr : RdV W (some ⟨q, 0, none⟩) ([s].map .string)), _ := fun w0 w1 W b r m hb hrl h q hW hq0 hq hr => put_text w0 w1 W b r _ [s] m hb hrl h q hW hq0 hq hr (by simp only [nil_app, sizes, List.length_cons, List.length_nil] at hnl ⊢; omega) (m := 1) rfl
  have hrq : headS n s = ⟨#[]⟩ ++ numsB [(n : Int)] ++ txtsB [s] := by simp only [headS, nil_app, numsB, txtsB, app_nil, Int.toNat_natCast]
  rw [hrq]
  have HNUM := Lib.hid hnum
  have HTXT := Lib.hid htxt
  clear hrq hnl hnum htxt hn hs
  go_enter Try.func24, Try.ntmps24
  go_wp2_with fail
  have hb2 := BldN.make 80 5 (Fr.refl [] w) (n := w.heap.size) rfl
  have hF2 := hb2.fr
  have hbld := hb2.bld
  have hlt : w.heap.size < (w.alloc (.cells #[.pointer none, .slice none 0 0] 80)).heap.size := by simp
  have hsz : (w.alloc (.cells #[.pointer none, .slice none 0 0] 80)).heap.size = w.heap.size + 1 := by simp
  generalize w.alloc (.cells #[.pointer none, .slice none 0 0] 80) = W3 at *
  (with_reducible refine (HNUM.out W3 (W3.alloc (.cells #[.int .u64 n] 35)) w.heap.size [] hbld (w.heap.size + 1) ((Fr.refl _ _).alloc _) (by omega) (by simp; omega) (show RdV (W3.alloc (.cells #[.int .u64 n] 35)) (some ⟨w.heap.size + 1, 0, none⟩) ([(n : Int)].map (.int .u64)) from RdV.new W3 _ 35 hsz.symm rfl)).mono ?_)
  rintro e w4 ⟨rfl, -, hnd⟩
  have HND := Lib.hid hnd
  have HS4 := Lib.hid (show W3.heap.size ≤ w4.heap.size from by obtain ⟨r1, _, hf, _⟩ := hnd; exact hf.size)
  have HF2 := Lib.hid hF2
  have HSZ := Lib.hid hsz
  clear hnd hF2 hbld hb2 hlt HNUM
  go_wp2_with fail
  (with_reducible refine (HTXT.out W3 w4 (w4.alloc (.cells #[.string s] 9)) w.heap.size [] _ (by have := HSZ.out; omega) no_mem HND.out w4.heap.size ((Fr.refl _ _).alloc _) HS4.out (.inr (Nat.le_refl _)) (show RdV (w4.alloc (.cells #[.string s] 9)) (some ⟨w4.heap.size, 0, none⟩) ([s].map .string) from RdV.new w4 _ 9 rfl rfl)).mono ?_)
  rintro e w5 ⟨rfl, -, hx⟩
  have HX := Lib.hid hx
  clear hx HND HTXT
  go_wp2_with fail
  obtain ⟨r', g1, g2, g3⟩ := HX.out.out
  (with_reducible refine (Writer_String_calls _ bty_writer w.heap.size r' _ w5 g1).mono ?_)
  rintro e w6 ⟨rfl, -, g4⟩
  have HF := Lib.hid (HF2.out.trans (g2.trans g4 (S' := r') (fun k hk => (g3 k hk).elim (fun h => by cases h) (fun h => .inr h))) (fun k hk => by simp only [List.mem_cons, List.not_mem_nil, or_false] at hk; subst hk; exact .inr (Nat.le_refl _)))
  clear g1 g2 g3 g4 HX HF2
  go_wp2_with fail
  go_ret
  exact ⟨rfl, HF.out⟩
end Go.Proofs.Ytembnjpflllpbaa

/- What a half holds, and which is the newest, in plain Lean. -/
namespace Go.Proofs.Ytembnjpflllpbaa
open Go.RowKit
set_option linter.unusedVariables false
set_option linter.unusedSimpArgs false

/-- What a half holds: its epoch, its snapshot, its records, where they end; end 0: it is no log's. -/
structure Hd where
  ep : Nat
  sn : ByteArray
  rs : List ByteArray
  en : Nat
def noHd : Hd := ⟨0, ⟨#[]⟩, [], 0⟩
/-- Of the texts that a half begins with, and where they end. -/
def headR (l : List ByteArray) (en : Nat) : Hd :=
  match l with
  | [] => noHd
  | t :: ts => if pEnd (pText (pNum (some t) 18446744073709551615).2 32768).2 && decide ((pNum (some t) 18446744073709551615).1 ≠ 0) then ⟨(pNum (some t) 18446744073709551615).1, (pText (pNum (some t) 18446744073709551615).2 32768).1, ts, en⟩ else noHd
def lookB (s : ByteArray) : Hd := headR (textsB s) (endOf s)
def DSt.n (D : DSt) : Nat := D.st.size / 2
def DSt.now (D : DSt) : ByteArray := nowB D.st D.wl
def DSt.half (D : DSt) (h : Nat) : ByteArray := D.now.extract (h * D.n) (h * D.n + D.n)
/-- Is the second one taken? -/
def skipH (x best : Hd) : Bool := decide (x.en = 0) || (decide (0 < best.en) && decide (x.ep ≤ best.ep))
def stepH (h : Nat) (x : Hd) (b : Nat × Hd) : Nat × Hd := if skipH x b.2 then b else (h, x)
def newestS (D : DSt) : Nat × Hd := stepH 1 (lookB (D.half 1)) (stepH 0 (lookB (D.half 0)) (0, noHd))
theorem scan_facts (s : ByteArray) : ∀ (m a : Nat), s.size - a ≤ m → (scanAt s a).length ≤ s.size - a ∧ ∀ x, x ∈ scanAt s a → a + 9 ≤ x.2 ∧ x.2 ≤ s.size ∧ x.1.size ≤ s.size := by
  intro m
  induction m with
  | zero =>
    intro a ha
    have hn : nextB (s.extract a s.size) = none := by
      cases h : nextB (s.extract a s.size) with
      | none => rfl
      | some y =>
        have := nextB_le (t := y.1) (k := y.2) h
        rw [ByteArray.size_extract] at this
        omega
    rw [scanAt_none hn]
    exact ⟨Nat.zero_le _, fun x hx => by cases hx⟩
  | succ m ih =>
    intro a ha
    cases h : nextB (s.extract a s.size) with
    | none =>
      rw [scanAt_none h]
      exact ⟨Nat.zero_le _, fun x hx => by cases hx⟩
    | some y =>
      obtain ⟨t, k⟩ := y
      have h1 := nextB_le h
      rw [ByteArray.size_extract] at h1
      rw [scanAt_some h]
      obtain ⟨g1, g2⟩ := ih (a + k) (by omega)
      refine ⟨by rw [List.length_cons]; omega, fun x hx => ?_⟩
      rcases List.mem_cons.1 hx with rfl | hx
      · refine ⟨?_, ?_, ?_⟩
        · show a + 9 ≤ a + k; omega
        · show a + k ≤ s.size; omega
        · show t.size ≤ s.size; omega
      · have := g2 x hx
        omega
theorem lastOf_mem : ∀ (l : List (ByteArray × Nat)), l = [] ∧ lastOf l = 0 ∨ ∃ x, x ∈ l ∧ lastOf l = x.2 := by
  intro l
  rcases List.eq_nil_or_concat l with rfl | ⟨m, x, rfl⟩
  · exact .inl ⟨rfl, rfl⟩
  · exact .inr ⟨x, by simp, by rw [List.concat_eq_append, lastOf_snoc]⟩
theorem texts_facts (s : ByteArray) : (textsB s).length ≤ s.size ∧ (∀ t, t ∈ textsB s → t.size ≤ s.size) ∧ endOf s ≤ s.size ∧ (textsB s ≠ [] → 0 < endOf s) := by
  obtain ⟨h1, h2⟩ := scan_facts s _ 0 (Nat.le_refl _)
  refine ⟨by unfold textsB; rw [List.length_map]; omega, fun t ht => ?_, ?_, fun hne => ?_⟩
  · unfold textsB at ht
    obtain ⟨x, hx, rfl⟩ := List.mem_map.1 ht
    exact (h2 x hx).2.2
  · rcases lastOf_mem (scanAt s 0) with ⟨_, h⟩ | ⟨x, hx, h⟩
    · rw [endOf, h]; exact Nat.zero_le _
    · rw [endOf, h]; exact (h2 x hx).2.1
  · rcases lastOf_mem (scanAt s 0) with ⟨h0, _⟩ | ⟨x, hx, h⟩
    · exact absurd (by unfold textsB; rw [h0]; rfl) hne
    · rw [endOf, h]
      have := (h2 x hx).1
      omega
end Go.Proofs.Ytembnjpflllpbaa

/- The contract of halves.look: what a half of a disk that is not broken holds. -/
namespace Go.Proofs.Ytembnjpflllpbaa
open Go.RowKit
set_option linter.unusedVariables false
set_option linter.unusedSimpArgs false

/-- The value of what a half holds. -/
def heldV (A : Option Addr) (cap : Nat) (x : Hd) : Value := .agg #[.int .u64 x.ep, .string x.sn, .slice A x.rs.length cap, .int .i64 x.en]
def LookPost (w : World) (x : Hd) (e : Ending) (w' : World) : Prop := ∃ A cap, e = .returned (.tuple #[heldV A cap x, .int .i64 0]) ∧ RdV w' A (x.rs.map .string) ∧ (∀ ad, A = some ad → w.heap.size ≤ ad.block ∧ ad.block < w'.heap.size) ∧ Fr [] w w'
theorem infoHd : (Try.prog.info? 56).map (·.size) = some 4 := by kernel_rfl
theorem hd_cells {W : World} {R : Nat} {v0 v1 v2 v3 : Value} {T : TypeId} (h : W.heap[R]? = some (.cells #[v0, v1, v2, v3] T (0, 0))) :
    W.cell? ⟨R, 0, none⟩ = some v0 ∧ W.cell? ⟨R, 1, none⟩ = some v1 ∧ W.cell? ⟨R, 2, none⟩ = some v2 ∧ W.cell? ⟨R, 3, none⟩ = some v3 :=
  ⟨by rw [Lib.cell_of_heap h]; rfl, by rw [Lib.cell_of_heap h]; rfl, by rw [Lib.cell_of_heap h]; rfl, by rw [Lib.cell_of_heap h]; rfl⟩
theorem look_end {R : Ending → World → Prop} {tmps : Array Value} {W : World} {b : Nat} {x0 x1 x2 x3 y : Value} (hb : tmps.getD 4 undef = .pointer (some ⟨b, 0, none⟩)) (hy : tmps.getD 5 undef = y) (hc : W.heap[b]? = some (.cells #[x0, x1, x2, x3] 56 (0, 0))) (h : R (.returned (.tuple #[.agg #[x0, x1, x2, x3], y])) W) :
    bodyPost Try.prog Try.f35 R Exit.ret { tmps := tmps, defers := [] } W := by
  have hres : Try.f35.results = #[.cell 4 56, .tmp 5] := by kernel_rfl
  obtain ⟨d0, d1, d2, d3⟩ := hd_cells hc
  refine bodyPost_ret (v := .tuple #[.agg #[x0, x1, x2, x3], y]) ?_ rfl h
  rw [Array.getD_eq_getD_getElem?] at hb hy
  simp only [results, hres]
  go_simp
theorem setRow_fr' {S : List Nat} {a w : World} (b : Nat) (vs : Array Value) (h : Fr S a w) (hb : b ∈ S ∨ a.heap.size ≤ b) : Fr S a (w.setRow b vs) :=
  ⟨h.os, h.tape, h.output, by rw [setRow_size]; exact h.size, fun k hk hk2 => (setRow_other _ _ _ _ (fun e => by subst e; exact hb.elim hk2 (fun hb => by omega))).trans (h.block k hk hk2)⟩
set_option maxHeartbeats 4000000 in
set_option maxRecDepth 100000 in
theorem look_calls (w : World) (d : Nat) (D : DSt) (S : List Nat) (hd : DH w d D S) (hbad : D.bad = false) (h : Nat) {hi : Int} (hhi : hi = h) (h1 : h ≤ 1) :
    Calls Try.prog 35 #[.pointer (some ⟨d, 0, none⟩), .int .i64 hi] w (LookPost w (lookB (D.half h))) := by
  subst hhi
  have hb := hd.fit.2
  have hnw : D.now.size = D.st.size := nowB_size _ _ hd.fit.1
  have hn : D.n * 2 ≤ D.st.size := by unfold DSt.n; omega
  have hh : h * D.n + D.n ≤ D.st.size := by
    have : h * D.n ≤ 1 * D.n := Nat.mul_le_mul_right _ h1
    omega
  have hmul : IntKind.i64.wrap ((h : Int) * (D.n : Int)) = ((h * D.n : Nat) : Int) := by
    rw [show (h : Int) * (D.n : Int) = ((h * D.n : Nat) : Int) from by rw [Int.natCast_mul], IntKind.wrap_i64]
    omega
  have hsz := fun W hd => size5_calls W d D S hd
  have hrd := fun W hd => HRead W d D S hd ((h * D.n : Nat) : Int) (D.n : Int) (Bd.of_i64 (by omega) (by omega)) (Bd.of_i64 (by omega) (by omega))
  have hrs : rdS D ((h * D.n : Nat) : Int) (D.n : Int) = (D.half h, 0) := by
    rw [rdS, if_pos (show mayS D _ _ from ⟨by omega, by omega, by omega⟩), if_neg (by rw [hbad]; decide), Int.toNat_natCast, Int.toNat_natCast]
    rfl
  rw [hrs] at hrd
  simp only at hrd
  have hhs : (D.half h).size ≤ 131072 := by
    unfold DSt.half
    rw [ByteArray.size_extract, hnw]
    omega
  have hsc := fun W => Scan_calls W (D.half h) (by omega)
  obtain ⟨hlen, hle, hen, hen0⟩ := texts_facts (D.half h)
  unfold lookB
  have hsz : ∀ W, DH W d D S → Calls Try.prog 25 #[.pointer (some ⟨d, 0, none⟩)] W fun e w' => e = .returned (.int .i64 (D.n : Nat)) ∧ W = w' := hsz
  generalize D.half h = s at *
  generalize h * D.n = P at *
  generalize D.n = n at *
  generalize endOf s = en at *
  have HSZ := Lib.hid hsz
  have HRD := Lib.hid hrd
  have HSC := Lib.hid hsc
  have HD := Lib.hid hd
  have HLE := Lib.hid hle
  have HSS := Lib.hid hhs
  have HNN := Lib.hid hlen
  have HEN := Lib.hid hen
  clear hsz hrd hsc hd hle hlen hen hen0 hrs hhs hb hnw hn hh hbad
  go_enter Try.func35, Try.ntmps35
  go_wp2_with fail
  have hz0 := heap_alloc_new w (.cells #[.int .u64 0, .string ⟨#[]⟩, .slice none 0 0, .int .i64 0] 56)
  have hF0 : Fr [] w (w.alloc (.cells #[.int .u64 0, .string ⟨#[]⟩, .slice none 0 0, .int .i64 0] 56)) := (Fr.refl _ _).alloc _
  generalize w.alloc (.cells #[.int .u64 0, .string ⟨#[]⟩, .slice none 0 0, .int .i64 0] 56) = W0 at *
  generalize hZ : w.heap.size = Z at *
  have HZZ := Lib.hid hZ
  clear hZ
  (with_reducible refine (HSZ.out _ (HD.out.keep0 hF0)).mono ?_)
  rintro e w1 ⟨rfl, rfl⟩
  go_wp2_with fail
  (with_reducible refine (HSZ.out _ (HD.out.keep0 hF0)).mono ?_)
  rintro e w1 ⟨rfl, rfl⟩
  go_wp2_with fail
  (with_reducible refine (HRD.out _ (HD.out.keep0 hF0)).mono ?_)
  rintro e w1 ⟨rfl, rfl⟩
  go_wp2_with fail
  (with_reducible refine (HSC.out _).mono ?_)
  rintro e w2 ⟨A, cap, r, rfl, hrow, hf2, hnew⟩
  have hz2 := blk_keep hz0 hf2 (by simp)
  have hF2 := hF0.then hf2
  clear hf2 HSC HRD HSZ HD
  cases hts : textsB s with
  | nil =>
    rw [hts] at hrow
    have HZ2 := Lib.hid hz2
    have HF2 := Lib.hid hF2
    have HTS := Lib.hid hts
    clear hrow hnew hz2 hF2 hts HLE HNN HEN hz0 hF0
    simp only [List.length_nil]
    go_wp2_with (refine wpList_store_row rfl 56 _ _ rfl Z #[.int .u64 0, .string ⟨#[]⟩, .slice none 0 0, .int .i64 0] rfl rfl 56 _ HZ2.out infoHd rfl (by simp [Value.oneCell']) ?_)
    refine look_end (b := Z) rfl rfl (setRow_heap _ _ _ _ _ _ HZ2.out) ?_
    rw [HTS.out]
    exact ⟨none, 0, rfl, RdV.nil _ _, fun ad h => (by cases h), setRow_fr' _ _ HF2.out (.inr (by rw [HZZ.out]; exact Nat.le_refl _))⟩
  | cons t ts =>
    rw [hts] at hrow
    have htl : t.size ≤ s.size := HLE.out t (by rw [hts]; exact .head _)
    have hll : ts.length + 1 ≤ s.size := by have := HNN.out; rw [hts] at this; simpa using this
    obtain ⟨g, cap', hv, hcap, hrd, hr⟩ := hrow.reads0 (by simp)
    injection hv with hv1 hv2 hv3
    subst hv1 hv3
    subst hr
    have hg := hnew g (by simp)
    have HRD := Lib.hid hrd
    have HG := Lib.hid hg
    have HRDS := Lib.hid (show s.size ≤ 131072 from HSS.out)
    have HCAP := Lib.hid hcap
    have c0 : w2.cell? ⟨g, 0, none⟩ = some (.string t) := by
      obtain ⟨ad, ha, hc⟩ := hrd 0 (.string t) rfl
      injection ha with ha
      subst ha
      exact hc
    have hglt : g < w2.heap.size := World.block_lt_of_cell? w2 _ c0
    have hlen : (t :: ts).length = ts.length + 1 := rfl
    have HGW := Lib.hid (show w.heap.size ≤ g from Nat.le_trans hF0.size hg)
    have HGZ := Lib.hid (show g ≠ Z from by have := lt_of_heap hz0; omega)
    rw [hlen]
    have hpost : headR (textsB s) en = if pEnd (pText (pNum (some t) 18446744073709551615).2 32768).2 && decide ((pNum (some t) 18446744073709551615).1 ≠ 0) then ⟨(pNum (some t) 18446744073709551615).1, (pText (pNum (some t) 18446744073709551615).2 32768).1, ts, en⟩ else noHd := by rw [hts]; rfl
    have hs8 := HRDS.out
    have h0 := pNum_size (some t) 18446744073709551615
    have l0 := pNum_lt (some t) 18446744073709551615
    have hn0 := fun W b hr => R_Num_calls W b (some t) 18446744073709551615 (by decide) (by decide) hr (by simp only [Option.getD_some]; omega)
    rw [show (18446744073709551615 : Int).toNat = 18446744073709551615 from rfl] at hn0
    generalize pNum (some t) 18446744073709551615 = p0 at *
    obtain ⟨v0, st0⟩ := p0
    simp only [Option.getD_some] at h0 l0 hn0 hpost
    have ht1 := fun W b hr => R_Text_calls W b st0 32768 (by decide) (by decide) hr (by omega)
    generalize pText st0 32768 = p1 at *
    obtain ⟨x1, st1⟩ := p1
    simp only at ht1 hpost
    have he := fun W b hr => R_End_calls W b st1 hr
    generalize pEnd st1 = pe at *
    have HPOST := Lib.hid hpost
    have HN := Lib.hid hn0
    have HT := Lib.hid ht1
    have HE := Lib.hid he
    have HF2 := Lib.hid hF2
    have HZ2 := Lib.hid hz2
    have HLT := Lib.hid hglt
    have hl1 : ((ts.length : Int) + 1 == 0) = false := beq_eq_false_iff_ne.2 (by omega)
    have hcap2 : ts.length + 1 ≤ cap := hcap
    clear hpost hn0 ht1 he h0 hts hlen hz0 hF0 hrow hnew hF2 hz2 hrd hg HLE HNN HEN hs8 hcap hglt
    go_wp2_with fail
    (with_reducible refine (pack_Read_calls _ t).mono ?_)
    rintro e w3 ⟨b, rfl, hb3, hr3, hf3⟩
    have HB := Lib.hid (show Z ≠ b ∧ g ≠ b ∧ w.heap.size ≤ b from by
      have h1 := HF2.out.size
      have h2 := lt_of_heap HZ2.out
      have h3 := HLT.out
      omega)
    have HZ3 := Lib.hid (blk_keep HZ2.out hf3 (by simp))
    have HF3 := Lib.hid (HF2.out.then hf3)
    have HR3 := Lib.hid (HRD.out.keep hf3 (by simp))
    have HS3 := Lib.hid hf3.size
    clear HF2 HZ2 HRD hf3 hb3 c0
    go_wp2_with fail
    (with_reducible refine (HN.out _ _ hr3).mono ?_)
    rintro e w4 ⟨rfl, hr4, hf4⟩
    go_wp2_with fail
    (with_reducible refine (HT.out _ _ hr4).mono ?_)
    rintro e w5 ⟨rfl, hr5, hf5⟩
    have hf45 := hf4.trans hf5 (fun i hi => .inl hi)
    have HZ5 := Lib.hid (blk_keep HZ3.out hf45 (by simpa using HB.out.1))
    have HF5 := Lib.hid (HF3.out.trans hf45 (fun i hi => .inr (by simp at hi; have := HB.out.2.2; omega)))
    have HR5 := Lib.hid (HR3.out.keep hf45 (fun ad h => by cases h; simpa using HB.out.2.1))
    have HSL := Lib.hid hf45.size
    clear HZ3 HF3 HR3 hf4 hf5 hf45 hr3 hr4 HN HT
    go_wp2_with fail
    (with_reducible refine (HE.out _ _ hr5).mono ?_)
    rintro e w6 ⟨rfl, rfl⟩
    clear HE hr5
    cases pe
    · have HP := Lib.hid (show headR (textsB s) en = noHd from by rw [HPOST.out]; rfl)
      clear HPOST
      go_wp2_with (refine wpList_store_row rfl 56 _ _ rfl Z #[.int .u64 0, .string ⟨#[]⟩, .slice none 0 0, .int .i64 0] rfl rfl 56 _ HZ5.out infoHd rfl (by simp [Value.oneCell']) ?_)
      refine look_end (b := Z) rfl rfl (setRow_heap _ _ _ _ _ _ HZ5.out) ?_
      rw [HP.out]
      exact ⟨none, 0, rfl, RdV.nil _ _, fun ad h => (by cases h), setRow_fr' _ _ HF5.out (.inr (by rw [HZZ.out]; exact Nat.le_refl _))⟩
    · by_cases hv : v0 = 0
      · subst hv
        have HP := Lib.hid (show headR (textsB s) en = noHd from by rw [HPOST.out]; rfl)
        clear HPOST
        go_wp2_with (refine wpList_store_row rfl 56 _ _ rfl Z #[.int .u64 0, .string ⟨#[]⟩, .slice none 0 0, .int .i64 0] rfl rfl 56 _ HZ5.out infoHd rfl (by simp [Value.oneCell']) ?_)
        refine look_end (b := Z) rfl rfl (setRow_heap _ _ _ _ _ _ HZ5.out) ?_
        rw [HP.out]
        exact ⟨none, 0, rfl, RdV.nil _ _, fun ad h => (by cases h), setRow_fr' _ _ HF5.out (.inr (by rw [HZZ.out]; exact Nat.le_refl _))⟩
      · have hv1 : ((v0 : Int) == 0) = false := beq_eq_false_iff_ne.2 (by omega)
        have HP := Lib.hid (show headR (textsB s) en = ⟨v0, x1, ts, en⟩ from by rw [HPOST.out]; simp [hv])
        clear HPOST hv
        have HG2 := Lib.hid (show g < w5.heap.size from Nat.lt_of_lt_of_le HLT.out (by have := HS3.out; have := HSL.out; omega))
        by_cases hc1 : cap = 1
        · subst hc1
          go_wp2_with (refine wpList_store_row rfl 56 _ _ rfl Z #[.int .u64 v0, .string x1, .slice (some ⟨g, 0, none⟩) 0 0, .int .i64 en] rfl rfl 56 _ HZ5.out infoHd rfl (by simp [Value.oneCell']) ?_)
          refine look_end (b := Z) rfl rfl (setRow_heap _ _ _ _ _ _ HZ5.out) ?_
          rw [HP.out]
          have h0 : ts = [] := List.eq_nil_of_length_eq_zero (by omega)
          subst h0
          refine ⟨some ⟨g, 0, none⟩, 0, rfl, RdV.nil _ _, fun ad h => ?_, setRow_fr' _ _ HF5.out (.inr (by rw [HZZ.out]; exact Nat.le_refl _))⟩
          cases h
          exact ⟨HGW.out, by rw [setRow_size]; exact HG2.out⟩
        · have hc2 : ¬ cap - 1 = 0 := by omega
          have hc3 : (cap - 1 == 0) = false := beq_eq_false_iff_ne.2 hc2
          go_wp2_with (refine wpList_store_row rfl 56 _ _ rfl Z #[.int .u64 v0, .string x1, .slice (some ⟨g, 1, none⟩) ts.length (cap - 1), .int .i64 en] rfl rfl 56 _ HZ5.out infoHd rfl (by simp [Value.oneCell']) ?_)
          refine look_end (b := Z) rfl rfl (setRow_heap _ _ _ _ _ _ HZ5.out) ?_
          rw [HP.out]
          refine ⟨some ⟨g, 1, none⟩, cap - 1, rfl, fun j v hj => ?_, fun ad h => ?_, setRow_fr' _ _ HF5.out (.inr (by rw [HZZ.out]; exact Nat.le_refl _))⟩
          · rw [List.getElem?_map] at hj
            obtain ⟨ad, ha, hc⟩ := (HR5.out.keep (setRow_fr' (S := [Z]) Z #[.int .u64 v0, .string x1, .slice (some ⟨g, 1, none⟩) ts.length (cap - 1), .int .i64 en] (Fr.refl [Z] w5) (.inl (by simp))) (fun ad h => by cases h; simpa using HGZ.out)) (j + 1) v (by simpa using hj)
            cases ha
            refine ⟨_, rfl, ?_⟩
            rw [show (Addr.add ⟨g, 1, none⟩ j : Addr) = Addr.add ⟨g, 0, none⟩ (j + 1) from by unfold Addr.add; split <;> simp_all <;> omega]
            exact hc
          · cases h
            exact ⟨HGW.out, by rw [setRow_size]; exact HG2.out⟩
end Go.Proofs.Ytembnjpflllpbaa

/- The contract of halves.newest: the half of the greatest epoch, of a disk that is not broken. -/
namespace Go.Proofs.Ytembnjpflllpbaa
open Go.RowKit
set_option linter.unusedVariables false
set_option linter.unusedSimpArgs false

def bstS (D : DSt) : Nat → Nat × Hd
  | 0 => (0, noHd)
  | i + 1 => stepH i (lookB (D.half i)) (bstS D i)
theorem newestS_eq (D : DSt) : newestS D = bstS D 2 := rfl
/-- What a half holds lies in a block; its records are new since w. -/
def HeldAt (w wr : World) (Z : Nat) (x : Hd) : Prop := ∃ A cap, wr.heap[Z]? = some (.cells #[.int .u64 x.ep, .string x.sn, .slice A x.rs.length cap, .int .i64 x.en] 56 (0, 0)) ∧ RdV wr A (x.rs.map .string) ∧ (∀ ad, A = some ad → w.heap.size ≤ ad.block ∧ ad.block < wr.heap.size ∧ ad.block ≠ Z)
def NewestPost (w : World) (q : Nat × Hd) (e : Ending) (w' : World) : Prop := ∃ A cap, e = .returned (.tuple #[.int .i64 q.1, heldV A cap q.2, .int .i64 0]) ∧ RdV w' A (q.2.rs.map .string) ∧ (∀ ad, A = some ad → w.heap.size ≤ ad.block ∧ ad.block < w'.heap.size) ∧ Fr [] w w'
theorem newest_end {R : Ending → World → Prop} {tmps : Array Value} {W : World} {b : Nat} {x0 x1 x2 x3 y2 y4 : Value} (h2 : tmps.getD 2 undef = y2) (hb : tmps.getD 3 undef = .pointer (some ⟨b, 0, none⟩)) (h4 : tmps.getD 4 undef = y4) (hc : W.heap[b]? = some (.cells #[x0, x1, x2, x3] 56 (0, 0))) (h : R (.returned (.tuple #[y2, .agg #[x0, x1, x2, x3], y4])) W) :
    bodyPost Try.prog Try.f23 R Exit.ret { tmps := tmps, defers := [] } W := by
  have hres : Try.f23.results = #[.tmp 2, .cell 3 56, .tmp 4] := by kernel_rfl
  obtain ⟨d0, d1, d2, d3⟩ := hd_cells hc
  refine bodyPost_ret (v := .tuple #[y2, .agg #[x0, x1, x2, x3], y4]) ?_ rfl h
  rw [Array.getD_eq_getD_getElem?] at h2 hb h4
  simp only [results, hres]
  go_simp
theorem HeldAt.keep0 {w wr W : World} {Z : Nat} {x : Hd} (h : HeldAt w wr Z x) (hf : Fr [] wr W) : HeldAt w W Z x := by
  obtain ⟨A, cap, h1, h2, h3⟩ := h
  exact ⟨A, cap, blk_keep h1 hf (by simp), h2.keep hf (by simp), fun ad ha => ⟨(h3 ad ha).1, Nat.lt_of_lt_of_le (h3 ad ha).2.1 hf.size, (h3 ad ha).2.2⟩⟩
theorem st4_held {w W : World} {Z : Nat} {x : Hd} {A : Option Addr} {cap : Nat} {v0 v1 v2 v3 : Value} (hz : W.heap[Z]? = some (.cells #[v0, v1, v2, v3] 56 (0, 0))) (hr : RdV W A (x.rs.map .string)) (hn : ∀ ad, A = some ad → w.heap.size ≤ ad.block ∧ ad.block < W.heap.size ∧ ad.block ≠ Z) (hF : Fr [] w W) (hZ : w.heap.size ≤ Z) :
    HeldAt w ((((W.setCell ⟨Z, 0, none⟩ (.int .u64 x.ep)).setCell ⟨Z, 1, none⟩ (.string x.sn)).setCell ⟨Z, 2, none⟩ (.slice A x.rs.length cap)).setCell ⟨Z, 3, none⟩ (.int .i64 x.en)).drew Z x ∧
    Fr [] w ((((W.setCell ⟨Z, 0, none⟩ (.int .u64 x.ep)).setCell ⟨Z, 1, none⟩ (.string x.sn)).setCell ⟨Z, 2, none⟩ (.slice A x.rs.length cap)).setCell ⟨Z, 3, none⟩ (.int .i64 x.en)).drew := by
  have hf : Fr [Z] W ((((W.setCell ⟨Z, 0, none⟩ (.int .u64 x.ep)).setCell ⟨Z, 1, none⟩ (.string x.sn)).setCell ⟨Z, 2, none⟩ (.slice A x.rs.length cap)).setCell ⟨Z, 3, none⟩ (.int .i64 x.en)) := ((((Fr.refl [Z] W).setCell (.inl (by simp)) _).setCell (.inl (by simp)) _).setCell (.inl (by simp)) _).setCell (.inl (by simp)) _
  have h4 := blk_set 3 (.int .i64 x.en) (blk_set 2 (.slice A x.rs.length cap) (blk_set 1 (.string x.sn) (blk_set 0 (.int .u64 x.ep) hz)))
  exact ⟨⟨A, cap, h4, (hr.keep hf (fun ad h => by simpa using (hn ad h).2.2)).drew, fun ad h => ⟨(hn ad h).1, Nat.lt_of_lt_of_le (hn ad h).2.1 hf.size, (hn ad h).2.2⟩⟩, (hF.trans hf (fun k hk => by simp at hk; exact .inr (by omega))).drew⟩
set_option maxHeartbeats 4000000 in
set_option maxRecDepth 100000 in
theorem newest_calls (w : World) (d : Nat) (D : DSt) (S : List Nat) (hd : DH w d D S) (hbad : D.bad = false) :
    Calls Try.prog 23 #[.pointer (some ⟨d, 0, none⟩)] w (NewestPost w (newestS D)) := by
  rw [newestS_eq]
  have hlk := fun W hd h h1 => look_calls W d D S hd hbad h (hi := (h : Int)) rfl h1
  have HL := Lib.hid hlk
  have HD := Lib.hid hd
  clear hlk hd hbad
  go_enter Try.func23, Try.ntmps23
  go_wp2_with fail
  have hz0 := heap_alloc_new w (.cells #[.int .u64 0, .string ⟨#[]⟩, .slice none 0 0, .int .i64 0] 56)
  have hF0 : Fr [] w (w.alloc (.cells #[.int .u64 0, .string ⟨#[]⟩, .slice none 0 0, .int .i64 0] 56)) := (Fr.refl _ _).alloc _
  generalize w.alloc (.cells #[.int .u64 0, .string ⟨#[]⟩, .slice none 0 0, .int .i64 0] 56) = W0 at *
  generalize hZ : w.heap.size = Z at *
  have HZZ := Lib.hid hZ
  have HZ0 := Lib.hid hz0
  have HF0 := Lib.hid hF0
  clear hZ hz0 hF0
  go_step3
  go_wp2_with fail
  go_step3
  go_wp2_with fail
  go_loopw [2, 4, 8] (fun v2 v4 v8 wr => ∃ (i : Nat), v2 = .int .i64 (bstS D i).1 ∧ v4 = .int .i64 0 ∧ v8 = .int .i64 i ∧ i ≤ 2 ∧ Hid (HeldAt w wr Z (bstS D i).2 ∧ Fr [] w wr)) (fun _ _ v8 _ => 2 - (intOf v8).toNat)
  case atStart => exact ⟨0, rfl, rfl, rfl, Nat.zero_le _, Lib.hid ⟨⟨none, 0, HZ0.out, RdV.nil _ _, fun ad h => (by cases h)⟩, HF0.out⟩⟩
  case round =>
    obtain ⟨i, rfl, rfl, rfl, hin, H⟩ := hrel
    by_cases hlt : i < 2
    · have hst : bstS D (i + 1) = stepH i (lookB (D.half i)) (bstS D i) := rfl
      have hl := fun W hd => HL.out W hd i (by omega)
      have hil : (i : Int) < 2 := by omega
      unfold stepH skipH at hst
      obtain ⟨hh, hF⟩ := H.out
      clear H
      generalize lookB (D.half i) = x at *
      generalize bstS D i = b at *
      obtain ⟨bh, bep, bsn, brs, ben⟩ := b
      obtain ⟨xep, xsn, xrs, xen⟩ := x
      simp only at hst hh ⊢
      obtain ⟨A, cap, hz, hrd, hnw⟩ := hh
      simp only at hz hrd
      have HST := Lib.hid hst
      have HL2 := Lib.hid hl
      have HRD := Lib.hid hrd
      have HNW := Lib.hid hnw
      clear hst hl hrd hnw
      go_wp2_with fail
      (with_reducible refine (HL2.out _ (HD.out.keep0 hF)).mono ?_)
      rintro e w2 ⟨A2, cap2, rfl, hr2, hn2, hf2⟩
      have hz2 := blk_keep hz hf2 (by simp)
      have HS2 := Lib.hid (show wr.heap.size ≤ w2.heap.size ∧ w.heap.size ≤ wr.heap.size ∧ Z < wr.heap.size from ⟨hf2.size, hF.size, lt_of_heap hz⟩)
      have HR2 := Lib.hid hr2
      have HN2 := Lib.hid hn2
      have HH2 := Lib.hid (HeldAt.keep0 (w := w) (x := ⟨bep, bsn, brs, ben⟩) ⟨A, cap, hz, HRD.out, HNW.out⟩ hf2)
      have hF2 := hF.then hf2
      clear hz hF hf2 hr2 hn2 HRD HL2
      simp only [heldV]
      have dz0 := fun o => (hd_cells (alloc_keep (o := o) hz2)).1
      have dz1 := fun o => (hd_cells (alloc_keep (o := o) hz2)).2.1
      have dz2 := fun o => (hd_cells (alloc_keep (o := o) hz2)).2.2.1
      have dz3 := fun o => (hd_cells (alloc_keep (o := o) hz2)).2.2.2
      have HZ2 := Lib.hid hz2
      have HF2 := Lib.hid hF2
      clear hz2 hF2
      by_cases e0 : xen = 0
      · have f0 : ((xen : Int) == 0) = true := by rw [e0]; rfl
        have HS := Lib.hid (show bstS D (i + 1) = (bh, ⟨bep, bsn, brs, ben⟩) from by rw [HST.out, e0]; rfl)
        clear HST
        go_wp2_with fail
        exact ⟨⟨i + 1, by rw [HS.out], rfl, by simp, by omega, Lib.hid ⟨by rw [HS.out]; exact HH2.out.keep0 ((Fr.refl [] _).alloc _), HF2.out.alloc _⟩⟩, by simp only [intOf]; omega⟩
      · have f0 : ((xen : Int) == 0) = false := beq_eq_false_iff_ne.2 (by omega)
        by_cases e1 : 0 < ben
        · by_cases e2 : xep ≤ bep
          · have HS := Lib.hid (show bstS D (i + 1) = (bh, ⟨bep, bsn, brs, ben⟩) from by rw [HST.out, decide_eq_false e0, decide_eq_true e1, decide_eq_true e2]; rfl)
            clear HST
            go_wp2_with fail
            exact ⟨⟨i + 1, by rw [HS.out], rfl, by simp, by omega, Lib.hid ⟨by rw [HS.out]; exact HH2.out.keep0 ((Fr.refl [] _).alloc _), HF2.out.alloc _⟩⟩, by simp only [intOf]; omega⟩
          · have HS := Lib.hid (show bstS D (i + 1) = (i, ⟨xep, xsn, xrs, xen⟩) from by rw [HST.out, decide_eq_false e0, decide_eq_true e1, decide_eq_false e2]; rfl)
            clear HST
            go_wp2_with fail
            have HX3 := Lib.hid (heap_alloc_new w2 (.cells #[.int .u64 xep, .string xsn, .slice A2 xrs.length cap2, .int .i64 xen] 56))
            have HZ3 := Lib.hid (alloc_keep (o := (.cells #[.int .u64 xep, .string xsn, .slice A2 xrs.length cap2, .int .i64 xen] 56)) HZ2.out)
            have HF3 := Lib.hid (HF2.out.alloc (.cells #[.int .u64 xep, .string xsn, .slice A2 xrs.length cap2, .int .i64 xen] 56))
            have HR3 := Lib.hid (HR2.out.keep ((Fr.refl [] w2).alloc (.cells #[.int .u64 xep, .string xsn, .slice A2 xrs.length cap2, .int .i64 xen] 56)) (by simp))
            have HS3 := Lib.hid (show w2.heap.size ≤ (w2.alloc (.cells #[.int .u64 xep, .string xsn, .slice A2 xrs.length cap2, .int .i64 xen] 56)).heap.size from by simp)
            clear dz0 dz1 dz2 dz3
            generalize w2.alloc (.cells #[.int .u64 xep, .string xsn, .slice A2 xrs.length cap2, .int .i64 xen] 56) = w3 at *
            obtain ⟨c0, c1, c2, c3⟩ := hd_cells HX3.out
            obtain ⟨z0, z1, z2, z3⟩ := hd_cells HZ3.out
            have y0 := Lib.frozen_of_heap HZ3.out 0
            have y1 := Lib.frozen_of_heap HZ3.out 1
            have y2 := Lib.frozen_of_heap HZ3.out 2
            have y3 := Lib.frozen_of_heap HZ3.out 3
            go_region
            all_goals
              clear c0 c1 c2 c3 z0 z1 z2 z3 y0 y1 y2 y3
              go_wp2_with fail
              have hst4 := st4_held (w := w) (x := ⟨xep, xsn, xrs, xen⟩) (cap := cap2) HZ3.out HR3.out (fun ad h => ⟨Nat.le_trans HS2.out.2.1 (HN2.out ad h).1, Nat.lt_of_lt_of_le (HN2.out ad h).2 HS3.out, fun e => by have := (HN2.out ad h).1; have := HS2.out; omega⟩) HF3.out (by have := HZZ.out; omega)
              exact ⟨⟨i + 1, by rw [HS.out], rfl, by simp, by omega, Lib.hid ⟨by rw [HS.out]; exact hst4.1, hst4.2⟩⟩, by simp only [intOf]; omega⟩
        · have HS := Lib.hid (show bstS D (i + 1) = (i, ⟨xep, xsn, xrs, xen⟩) from by rw [HST.out, decide_eq_false e0, decide_eq_false e1]; rfl)
          clear HST
          go_wp2_with fail
          have HX3 := Lib.hid (heap_alloc_new w2 (.cells #[.int .u64 xep, .string xsn, .slice A2 xrs.length cap2, .int .i64 xen] 56))
          have HZ3 := Lib.hid (alloc_keep (o := (.cells #[.int .u64 xep, .string xsn, .slice A2 xrs.length cap2, .int .i64 xen] 56)) HZ2.out)
          have HF3 := Lib.hid (HF2.out.alloc (.cells #[.int .u64 xep, .string xsn, .slice A2 xrs.length cap2, .int .i64 xen] 56))
          have HR3 := Lib.hid (HR2.out.keep ((Fr.refl [] w2).alloc (.cells #[.int .u64 xep, .string xsn, .slice A2 xrs.length cap2, .int .i64 xen] 56)) (by simp))
          have HS3 := Lib.hid (show w2.heap.size ≤ (w2.alloc (.cells #[.int .u64 xep, .string xsn, .slice A2 xrs.length cap2, .int .i64 xen] 56)).heap.size from by simp)
          clear dz0 dz1 dz2 dz3
          generalize w2.alloc (.cells #[.int .u64 xep, .string xsn, .slice A2 xrs.length cap2, .int .i64 xen] 56) = w3 at *
          obtain ⟨c0, c1, c2, c3⟩ := hd_cells HX3.out
          obtain ⟨z0, z1, z2, z3⟩ := hd_cells HZ3.out
          have y0 := Lib.frozen_of_heap HZ3.out 0
          have y1 := Lib.frozen_of_heap HZ3.out 1
          have y2 := Lib.frozen_of_heap HZ3.out 2
          have y3 := Lib.frozen_of_heap HZ3.out 3
          go_region
          all_goals
            clear c0 c1 c2 c3 z0 z1 z2 z3 y0 y1 y2 y3
            go_wp2_with fail
            have hst4 := st4_held (w := w) (x := ⟨xep, xsn, xrs, xen⟩) (cap := cap2) HZ3.out HR3.out (fun ad h => ⟨Nat.le_trans HS2.out.2.1 (HN2.out ad h).1, Nat.lt_of_lt_of_le (HN2.out ad h).2 HS3.out, fun e => by have := (HN2.out ad h).1; have := HS2.out; omega⟩) HF3.out (by have := HZZ.out; omega)
            exact ⟨⟨i + 1, by rw [HS.out], rfl, by simp, by omega, Lib.hid ⟨by rw [HS.out]; exact hst4.1, hst4.2⟩⟩, by simp only [intOf]; omega⟩
    · have hi2 : i = 2 := by omega
      subst hi2
      obtain ⟨hh, hF⟩ := H.out
      have HF := Lib.hid hF
      clear H hF HL HD HZ0 HF0
      generalize bstS D 2 = b at *
      obtain ⟨bh, bep, bsn, brs, ben⟩ := b
      obtain ⟨A, cap, hz, hrd, hnw⟩ := hh
      simp only at hz hrd
      have HRD := Lib.hid hrd
      have HNW := Lib.hid hnw
      have HZ3 := Lib.hid hz
      clear hrd hnw hz
      go_wp2_with fail
      obtain ⟨z0, z1, z2, z3⟩ := hd_cells HZ3.out
      have y0 := Lib.frozen_of_heap HZ3.out 0
      have y1 := Lib.frozen_of_heap HZ3.out 1
      have y2 := Lib.frozen_of_heap HZ3.out 2
      have y3 := Lib.frozen_of_heap HZ3.out 3
      go_region
      all_goals
        clear z0 z1 z2 z3 y0 y1 y2 y3
        go_wp2_with fail
        have hst4 := st4_held (w := w) (x := ⟨bep, bsn, brs, ben⟩) (cap := cap) HZ3.out HRD.out HNW.out HF.out (by have := HZZ.out; omega)
        obtain ⟨A', cap', g1, g2, g3⟩ := hst4.1
        rw [Exit.noGoto_ret]
        exact newest_end (b := Z) rfl rfl rfl g1 ⟨A', cap', rfl, g2, fun ad h => ⟨(g3 ad h).1, (g3 ad h).2.1⟩, hst4.2⟩
end Go.Proofs.Ytembnjpflllpbaa

/- A log of chapter 5 in memory; its small methods; steps that new function values do. -/
namespace Go.Proofs.Ytembnjpflllpbaa
open Go.RowKit
set_option linter.unusedVariables false
set_option linter.unusedSimpArgs false
attribute [local go_sem] mildAt mildUpon

/-- A log's state: its half, its epoch, where it ends, broken. -/
structure LSt where
  half : Nat
  ep : Nat
  en : Nat
  bad : Bool
def LSt.cells (d : Nat) (l : LSt) : Array Value := #[.pointer (some ⟨d, 0, none⟩), .int .i64 l.half, .int .u64 l.ep, .int .i64 l.en, .bool l.bad]
def LG (w : World) (L d : Nat) (l : LSt) : Prop := w.heap[L]? = some (.cells (l.cells d) 60 (0, 0))
theorem lg_cells {W : World} {L d : Nat} {l : LSt} (h : LG W L d l) :
    W.cell? ⟨L, 0, none⟩ = some (.pointer (some ⟨d, 0, none⟩)) ∧ W.cell? ⟨L, 1, none⟩ = some (.int .i64 l.half) ∧ W.cell? ⟨L, 2, none⟩ = some (.int .u64 l.ep) ∧ W.cell? ⟨L, 3, none⟩ = some (.int .i64 l.en) ∧ W.cell? ⟨L, 4, none⟩ = some (.bool l.bad) :=
  ⟨by rw [Lib.cell_of_heap h]; rfl, by rw [Lib.cell_of_heap h]; rfl, by rw [Lib.cell_of_heap h]; rfl, by rw [Lib.cell_of_heap h]; rfl, by rw [Lib.cell_of_heap h]; rfl⟩
theorem LG.keep {w w' : World} {L d : Nat} {l : LSt} {T : List Nat} (h : LG w L d l) (hf : Fr T w w') (hL : L ∉ T) : LG w' L d l := blk_keep h hf hL
def LSt.room (D : DSt) (l : LSt) : Int := if l.bad then 0 else (D.n : Int) - l.en
def LSt.fits (D : DSt) (l : LSt) (n : Int) : Bool := decide (0 < fsize n) && decide (fsize n ≤ l.room D)
theorem sizeF_calls (w : World) (d : Nat) (D : DSt) (S : List Nat) (h : DH w d D S) :
    Calls Try.prog 25 #[.pointer (some ⟨d, 0, none⟩)] w fun e w' => e = .returned (.int .i64 (D.n : Nat)) ∧ Fr [] w w' :=
  (size5_calls w d D S h).mono fun e w' ⟨he, hw⟩ => ⟨he, hw ▸ Fr.refl _ _⟩
theorem Does.keep0 {m d : Nat} {F : List Nat} {W0 W1 : World} {g : DSt → DSt × Int} {x : FnX} (h : Does m d F W0 g x) (hf : Fr [] W0 W1) : Does m d F W1 g x := h.keep hf (fun _ _ => by simp)
theorem works_calls (w : World) (L d : Nat) (l : LSt) (h : LG w L d l) :
    Calls Try.prog 31 #[.pointer (some ⟨L, 0, none⟩)] w fun e w' => e = .returned (.bool (!l.bad)) ∧ w = w' := by
  obtain ⟨c0, c1, c2, c3, c4⟩ := lg_cells h
  obtain ⟨half, ep, en, bad⟩ := l
  simp only at c4 ⊢
  clear h c0 c1 c2 c3
  cases bad
  all_goals
    go_enter Try.func31, Try.ntmps31
    go_wp2_with fail
    go_ret
    exact ⟨rfl, rfl⟩
theorem works_nil (w : World) : Calls Try.prog 31 #[.pointer none] w fun e w' => e = .returned (.bool false) ∧ w = w' := by
  go_enter Try.func31, Try.ntmps31
  go_wp2_with fail
  go_ret
  exact ⟨rfl, rfl⟩
theorem epoch_calls (w : World) (L d : Nat) (l : LSt) (h : LG w L d l) :
    Calls Try.prog 18 #[.pointer (some ⟨L, 0, none⟩)] w fun e w' => e = .returned (.int .u64 l.ep) ∧ w = w' := by
  obtain ⟨c0, c1, c2, c3, c4⟩ := lg_cells h
  clear h
  go_enter Try.func18, Try.ntmps18
  go_wp2_with fail
  go_ret
  exact ⟨rfl, rfl⟩
theorem epoch_nil (w : World) : Calls Try.prog 18 #[.pointer none] w fun e w' => e = .returned (.int .u64 0) ∧ w = w' := by
  go_enter Try.func18, Try.ntmps18
  go_wp2_with fail
  go_ret
  exact ⟨rfl, rfl⟩
theorem broken_nil (w : World) : Calls Try.prog 19 #[.pointer none] w fun e w' => e = .returned (.bool false) ∧ w = w' := by
  go_enter Try.func19, Try.ntmps19
  go_wp2_with fail
  go_ret
  exact ⟨rfl, rfl⟩
theorem room_nil (w : World) : Calls Try.prog 11 #[.pointer none] w fun e w' => e = .returned (.int .i64 0) ∧ w = w' := by
  have HW := Lib.hid (works_nil w)
  go_enter Try.func11, Try.ntmps11
  go_wp2_with fail
  (with_reducible refine HW.out.mono ?_)
  rintro e w1 ⟨rfl, rfl⟩
  go_wp2_with fail
  go_ret
  exact ⟨rfl, rfl⟩
set_option maxHeartbeats 2000000 in
set_option maxRecDepth 100000 in
theorem room_calls (w : World) (L d : Nat) (l : LSt) (D : DSt) (S : List Nat) (h : LG w L d l) (hd : DH w d D S) (hen : l.en ≤ 1000000) :
    Calls Try.prog 11 #[.pointer (some ⟨L, 0, none⟩)] w fun e w' => e = .returned (.int .i64 (l.room D)) ∧ Fr [] w w' := by
  have hwk := works_calls w L d l h
  have hsz := fun W hd => sizeF_calls W d D S hd
  have hb := hd.fit.2
  unfold LSt.room
  have hn : D.n ≤ 131072 := by unfold DSt.n; omega
  generalize D.n = n at *
  obtain ⟨half, ep, en, bad⟩ := l
  simp only at hwk hen ⊢
  have HH := Lib.hid h
  have HD := Lib.hid hd
  clear h hd hb
  cases bad
  · rw [if_neg (by decide)]
    obtain ⟨r, hr⟩ : ∃ r, (n : Int) - (en : Int) = r := ⟨_, rfl⟩
    have wk : IntKind.i64.wrap r = r := by rw [IntKind.wrap_i64]; omega
    rw [hr]
    have HW := Lib.hid hwk
    have HSZ := Lib.hid hsz
    clear hwk hsz
    go_enter Try.func11, Try.ntmps11
    go_wp2_with fail
    (with_reducible refine HW.out.mono ?_)
    rintro e w1 ⟨rfl, rfl⟩
    go_wp2_with fail
    refine wp_region_mild 11 (by kernel_rfl) (by kernel_rfl) ?_
    simp only [List.take_succ_cons, List.take_zero, List.drop_succ_cons, List.drop_zero, List.take_nil, List.drop_nil]
    repeat (first
      | ((apply mild_det0; (· rfl); (· intro W hW K hK; have hW' : Fr [] w W := ⟨hW.os, hW.tape, hW.output, hW.size, hW.block⟩; have hdd := HD.out.keep0 hW'; go_simp; with_reducible exact mild_call (HSZ.out W hdd) hK)); simp only [Act.put, List.setIfInBounds_toArray, List.set_cons_succ, List.set_cons_zero, Nat.reduceAdd])
      | ((apply mild_det0; (· rfl); (· intro W hW K hK; have hW' : Fr [] w W := ⟨hW.os, hW.tape, hW.output, hW.size, hW.block⟩; obtain ⟨d0, d1, d2, d3, d4⟩ := lg_cells (HH.out.keep hW' (by simp)); go_simp; exact hK _ (Fr.refl _ _))); simp only [Act.put, List.setIfInBounds_toArray, List.set_cons_succ, List.set_cons_zero, Nat.reduceAdd])
      | (apply mild_det0; (· rfl); (· intro W hW K hK; go_simp; exact hK _ (Fr.refl _ _)); simp only [Act.put, List.setIfInBounds_toArray, List.set_cons_succ, List.set_cons_zero, Nat.reduceAdd])
      | (apply mild_slice; (· rfl); (· intro W hW K hK; go_simp; exact hK _ _ ((Fr.refl _ _).alloc _) ⟨_, rfl, heap_alloc_new _ _⟩); simp only [Act.put, List.setIfInBounds_toArray, List.set_cons_succ, List.set_cons_zero, Nat.reduceAdd]))
    refine mild_nil ?_
    intro W2 hW2
    have HF2 : Hid (Fr [] w W2) := Lib.hid ⟨hW2.os, hW2.tape, hW2.output, hW2.size, hW2.block⟩
    clear hW2
    simp only [subAll]
    (try simp only [Act.put, List.setIfInBounds_toArray, List.set_cons_succ, List.set_cons_zero])
    go_wp2_with fail
    go_ret
    exact ⟨rfl, HF2.out⟩
  · rw [if_pos rfl]
    have HW := Lib.hid hwk
    clear hwk hsz
    go_enter Try.func11, Try.ntmps11
    go_wp2_with fail
    (with_reducible refine HW.out.mono ?_)
    rintro e w1 ⟨rfl, rfl⟩
    go_wp2_with fail
    go_ret
    exact ⟨rfl, Fr.refl _ _⟩
theorem LSt.room_bd (D : DSt) (l : LSt) (hD : D.st.size ≤ 131072) (h : l.en ≤ 1000000) : -1000000 ≤ l.room D ∧ l.room D ≤ 131072 := by
  unfold LSt.room DSt.n
  split <;> omega
set_option maxHeartbeats 2000000 in
set_option maxRecDepth 100000 in
theorem lfits_calls (w : World) (L d : Nat) (l : LSt) (D : DSt) (S : List Nat) (h : LG w L d l) (hd : DH w d D S) (hen : l.en ≤ 1000000) (n : Int) (hn : Bd .i64 n) :
    Calls Try.prog 14 #[.pointer (some ⟨L, 0, none⟩), .int .i64 n] w fun e w' => e = .returned (.bool (l.fits D n)) ∧ Fr [] w w' := by
  have hr := room_calls w L d l D S h hd hen
  have hf := FSize_calls w n hn
  unfold LSt.fits
  generalize l.room D = r at *
  generalize fsize n = f at *
  have HR := Lib.hid hr
  have HF := Lib.hid hf
  clear hr hf h hd hen hn
  by_cases h1 : 0 < f
  · rw [decide_eq_true h1, Bool.true_and]
    go_enter Try.func14, Try.ntmps14
    go_wp2_with fail
    (with_reducible refine HF.out.mono ?_)
    rintro e w1 ⟨rfl, rfl⟩
    go_wp2_with fail
    (with_reducible refine HR.out.mono ?_)
    rintro e w1 ⟨rfl, hf1⟩
    have HF1 := Lib.hid hf1
    clear hf1
    go_wp2_with fail
    go_ret
    exact ⟨rfl, HF1.out⟩
  · have h2 : decide (0 < f) = false := decide_eq_false h1
    rw [h2, Bool.false_and]
    go_enter Try.func14, Try.ntmps14
    go_wp2_with fail
    (with_reducible refine HF.out.mono ?_)
    rintro e w1 ⟨rfl, rfl⟩
    go_wp2_with fail
    go_ret
    exact ⟨rfl, Fr.refl _ _⟩
theorem fits_nil (w : World) : Calls Try.prog 14 #[.pointer none, .int .i64 1] w fun e w' => e = .returned (.bool false) ∧ w = w' := by
  have HR := Lib.hid (room_nil w)
  have hf := FSize_calls w 1 (Bd.of_i64 (by omega) (by omega))
  rw [show fsize 1 = 9 from rfl] at hf
  have HF := Lib.hid hf
  clear hf
  go_enter Try.func14, Try.ntmps14
  go_wp2_with fail
  (with_reducible refine HF.out.mono ?_)
  rintro e w1 ⟨rfl, rfl⟩
  go_wp2_with fail
  (with_reducible refine HR.out.mono ?_)
  rintro e w1 ⟨rfl, rfl⟩
  go_wp2_with fail
  go_ret
  exact ⟨rfl, rfl⟩
/-- Steps of function values that are new. -/
theorem fn_one {d B : Nat} {g : DSt → DSt × Int} {v : Value} {W : World} (h : FnV d B g v W) : ∃ x F, v = fnV x ∧ Does 900 d F W g x ∧ ∀ k, k ∈ F → B ≤ k := h
theorem steps1 (w : World) (d B b : Nat) (D : DSt) (S : List Nat) {x1 : FnX} {F1 : List Nat} {g1 : DSt → DSt × Int} (h1 : Does 900 d F1 w g1 x1) (hF1 : ∀ k, k ∈ F1 → B ≤ k)
    (hb : w.heap[b]? = some (.cells #[.func (.func x1.1) x1.2.1 x1.2.2] 65 (0, 0))) (hB : B ≤ b) (hd : DH w d D S) (hS : ∀ k, k ∈ S → k < B) (s1 : Slow 3 g1) (hw : D.wl.length ≤ 800) :
    Calls Try.prog 27 #[.slice (some ⟨b, 0, none⟩) 1 1] w fun e w' => e = .returned (.int .i64 (seqS [g1] D).2) ∧ DPost w d (seqS [g1] D).1 S w' := by
  refine steps_calls 900 w d b F1 D S 1 [x1] [g1] rfl hb hd (fun h => by have := hS b h; omega) (fun k hk hm => by have := hS k hm; have := hF1 k hk; omega) (fun i hi hi' => ?_) (by simp) (fun g hg => ?_) (by omega)
  · match i, hi with
    | 0, _ => exact h1
  · simp only [List.mem_cons, List.not_mem_nil, or_false] at hg
    rcases hg with rfl
    exact s1
theorem steps2 (w : World) (d B b : Nat) (D : DSt) (S : List Nat) {x1 x2 : FnX} {F1 F2 : List Nat} {g1 g2 : DSt → DSt × Int} (h1 : Does 900 d F1 w g1 x1) (hF1 : ∀ k, k ∈ F1 → B ≤ k) (h2 : Does 900 d F2 w g2 x2) (hF2 : ∀ k, k ∈ F2 → B ≤ k)
    (hb : w.heap[b]? = some (.cells #[.func (.func x1.1) x1.2.1 x1.2.2, .func (.func x2.1) x2.2.1 x2.2.2] 65 (0, 0))) (hB : B ≤ b) (hd : DH w d D S) (hS : ∀ k, k ∈ S → k < B) (s1 : Slow 3 g1) (s2 : Slow 3 g2) (hw : D.wl.length ≤ 800) :
    Calls Try.prog 27 #[.slice (some ⟨b, 0, none⟩) 2 2] w fun e w' => e = .returned (.int .i64 (seqS [g1, g2] D).2) ∧ DPost w d (seqS [g1, g2] D).1 S w' := by
  have hl : ∀ k, k ∈ F1 ++ F2 → k < w.heap.size := fun k hk => (List.mem_append.1 hk).elim (h1.2.1 k) (h2.2.1 k)
  refine steps_calls 900 w d b (F1 ++ F2) D S 2 [x1, x2] [g1, g2] rfl hb hd (fun h => by have := hS b h; omega) (fun k hk hm => ?_) (fun i hi hi' => ?_) (by simp) (fun g hg => ?_) (by omega)
  · have := hS k hm
    rcases List.mem_append.1 hk with h | h
    · have := hF1 k h; omega
    · have := hF2 k h; omega
  · match i, hi with
    | 0, _ => exact h1.more (fun k hk => List.mem_append_left _ hk) hl
    | 1, _ => exact h2.more (fun k hk => List.mem_append_right _ hk) hl
  · simp only [List.mem_cons, List.not_mem_nil, or_false] at hg
    rcases hg with rfl | rfl
    · exact s1
    · exact s2
theorem steps3 (w : World) (d B b : Nat) (D : DSt) (S : List Nat) {x1 x2 x3 : FnX} {F1 F2 F3 : List Nat} {g1 g2 g3 : DSt → DSt × Int} (h1 : Does 900 d F1 w g1 x1) (hF1 : ∀ k, k ∈ F1 → B ≤ k) (h2 : Does 900 d F2 w g2 x2) (hF2 : ∀ k, k ∈ F2 → B ≤ k) (h3 : Does 900 d F3 w g3 x3) (hF3 : ∀ k, k ∈ F3 → B ≤ k)
    (hb : w.heap[b]? = some (.cells #[.func (.func x1.1) x1.2.1 x1.2.2, .func (.func x2.1) x2.2.1 x2.2.2, .func (.func x3.1) x3.2.1 x3.2.2] 65 (0, 0))) (hB : B ≤ b) (hd : DH w d D S) (hS : ∀ k, k ∈ S → k < B) (s1 : Slow 3 g1) (s2 : Slow 3 g2) (s3 : Slow 3 g3) (hw : D.wl.length ≤ 800) :
    Calls Try.prog 27 #[.slice (some ⟨b, 0, none⟩) 3 3] w fun e w' => e = .returned (.int .i64 (seqS [g1, g2, g3] D).2) ∧ DPost w d (seqS [g1, g2, g3] D).1 S w' := by
  have hl : ∀ k, k ∈ F1 ++ (F2 ++ F3) → k < w.heap.size := fun k hk => (List.mem_append.1 hk).elim (h1.2.1 k) (fun h => (List.mem_append.1 h).elim (h2.2.1 k) (h3.2.1 k))
  refine steps_calls 900 w d b (F1 ++ (F2 ++ F3)) D S 3 [x1, x2, x3] [g1, g2, g3] rfl hb hd (fun h => by have := hS b h; omega) (fun k hk hm => ?_) (fun i hi hi' => ?_) (by simp) (fun g hg => ?_) (by omega)
  · have := hS k hm
    rcases List.mem_append.1 hk with h | h
    · have := hF1 k h; omega
    · rcases List.mem_append.1 h with h | h
      · have := hF2 k h; omega
      · have := hF3 k h; omega
  · match i, hi with
    | 0, _ => exact h1.more (fun k hk => List.mem_append_left _ hk) hl
    | 1, _ => exact h2.more (fun k hk => List.mem_append_right _ (List.mem_append_left _ hk)) hl
    | 2, _ => exact h3.more (fun k hk => List.mem_append_right _ (List.mem_append_right _ hk)) hl
  · simp only [List.mem_cons, List.not_mem_nil, or_false] at hg
    rcases hg with rfl | rfl | rfl
    · exact s1
    · exact s2
    · exact s3
end Go.Proofs.Ytembnjpflllpbaa

/- The contract of halves.Open, of a disk that is not broken. -/
namespace Go.Proofs.Ytembnjpflllpbaa
open Go.RowKit
set_option linter.unusedVariables false
set_option linter.unusedSimpArgs false
attribute [local go_sem] mildAt mildUpon

theorem seqS_one (g : DSt → DSt × Int) (D : DSt) : seqS [g] D = g D := by
  unfold seqS
  split
  · rename_i h
    show ((g D).1, (0 : Int)) = g D
    rw [← h]
  · rfl
theorem headR_en (l : List ByteArray) (en m : Nat) (h : en ≤ m) : (headR l en).en ≤ m := by
  unfold headR
  split
  · exact Nat.zero_le _
  · split
    · exact h
    · exact Nat.zero_le _
theorem half_size {D : DSt} (hf : ∀ x, x ∈ D.wl → x.1 + x.2.size ≤ D.st.size) (h : Nat) (h1 : h ≤ 1) : (D.half h).size = D.n := by
  have hnw : D.now.size = D.st.size := nowB_size _ _ hf
  have hn : D.n * 2 ≤ D.st.size := by unfold DSt.n; omega
  have : h * D.n ≤ 1 * D.n := Nat.mul_le_mul_right _ h1
  unfold DSt.half
  rw [ByteArray.size_extract, hnw]
  omega
theorem stepH_ok {h : Nat} {x : Hd} {b : Nat × Hd} {n : Nat} (h1 : h ≤ 1) (hx : x.en ≤ n) (hb : b.1 ≤ 1 ∧ b.2.en ≤ n) : (stepH h x b).1 ≤ 1 ∧ (stepH h x b).2.en ≤ n := by
  unfold stepH
  split
  · exact hb
  · exact ⟨h1, hx⟩
theorem newestS_ok {D : DSt} (hf : ∀ x, x ∈ D.wl → x.1 + x.2.size ≤ D.st.size) : (newestS D).1 ≤ 1 ∧ (newestS D).2.en ≤ D.n := by
  have h0 := half_size hf 0 (by omega)
  have h1 := half_size hf 1 (by omega)
  have e0 := (texts_facts (D.half 0)).2.2.1
  have e1 := (texts_facts (D.half 1)).2.2.1
  rw [h0] at e0
  rw [h1] at e1
  exact stepH_ok (by omega) (headR_en _ _ _ e1) (stepH_ok (by omega) (headR_en _ _ _ e0) ⟨Nat.zero_le _, Nat.zero_le _⟩)
/-- Behind the records of a half all is 0. -/
def tailS (D : DSt) : DSt × Int := putS (((newestS D).1 * D.n + (newestS D).2.en : Nat) : Int) (zerosB (D.n - (newestS D).2.en)) D
def foundV (A : Option Addr) (cap : Nat) (x : Hd) : Value := .agg #[.int .u64 x.ep, .string x.sn, .slice A x.rs.length cap]
def noFound : Value := .agg #[.int .u64 0, .string ⟨#[]⟩, .slice none 0 0]
/-- What Open leaves, by the newest half q and the last step's end r. -/
def OpenQ (w : World) (d : Nat) (D : DSt) (S : List Nat) (q : Nat × Hd) (r : DSt × Int) (e : Ending) (w' : World) : Prop :=
  (q.2.en = 0 ∧ e = .returned (.tuple #[.pointer none, noFound, .int .i64 12]) ∧ DPost w d D S w') ∨
  (q.2.en ≠ 0 ∧ r.2 ≠ 0 ∧ e = .returned (.tuple #[.pointer none, noFound, .int .i64 r.2]) ∧ DPost w d r.1 S w') ∨
  (q.2.en ≠ 0 ∧ r.2 = 0 ∧ ∃ L A cap S', e = .returned (.tuple #[.pointer (some ⟨L, 0, none⟩), foundV A cap q.2, .int .i64 0]) ∧ LG w' L d ⟨q.1, q.2.ep, q.2.en, false⟩ ∧ RdV w' A (q.2.rs.map .string) ∧
    DH w' d r.1 S' ∧ Fr S w w' ∧ (∀ k, k ∈ S' → k ∈ S ∨ w.heap.size ≤ k) ∧ w.heap.size ≤ L ∧ L ∉ S' ∧ (∀ ad, A = some ad → w.heap.size ≤ ad.block ∧ ad.block < w'.heap.size ∧ ad.block ∉ S' ∧ ad.block ≠ L))
/-- The one step that Open does: a slice just built. -/
def SlOne (d B : Nat) (g : DSt → DSt × Int) (v : Value) (W : World) : Prop := ∃ b x F, v = .slice (some ⟨b, 0, none⟩) 1 1 ∧ W.heap[b]? = some (.cells #[.func (.func x.1) x.2.1 x.2.2] 65 (0, 0)) ∧ B ≤ b ∧ Does 900 d F W g x ∧ ∀ k, k ∈ F → B ≤ k
theorem SlOne.stable {d B : Nat} {g : DSt → DSt × Int} (v : Value) (W W' : World) (h : SlOne d B g v W) (hf : Fr [] W W') : SlOne d B g v W' := by
  obtain ⟨b, x, F, hv, hb, hB, hd, hF⟩ := h
  exact ⟨b, x, F, hv, blk_keep hb hf (by simp), hB, hd.keep hf (fun _ _ => by simp), hF⟩
theorem infoFd : (Try.prog.info? 37).map (·.size) = some 3 := by kernel_rfl
theorem fd_cells {W : World} {R : Nat} {v0 v1 v2 : Value} {T : TypeId} (h : W.heap[R]? = some (.cells #[v0, v1, v2] T (0, 0))) :
    W.cell? ⟨R, 0, none⟩ = some v0 ∧ W.cell? ⟨R, 1, none⟩ = some v1 ∧ W.cell? ⟨R, 2, none⟩ = some v2 :=
  ⟨by rw [Lib.cell_of_heap h]; rfl, by rw [Lib.cell_of_heap h]; rfl, by rw [Lib.cell_of_heap h]; rfl⟩
theorem open_end {R : Ending → World → Prop} {tmps : Array Value} {W : World} {b : Nat} {x0 x1 x2 y2 y4 : Value} (h2 : tmps.getD 2 undef = y2) (hb : tmps.getD 3 undef = .pointer (some ⟨b, 0, none⟩)) (h4 : tmps.getD 4 undef = y4) (hc : W.heap[b]? = some (.cells #[x0, x1, x2] 37 (0, 0))) (h : R (.returned (.tuple #[y2, .agg #[x0, x1, x2], y4])) W) :
    bodyPost Try.prog Try.f15 R Exit.ret { tmps := tmps, defers := [] } W := by
  have hres : Try.f15.results = #[.tmp 2, .cell 3 37, .tmp 4] := by kernel_rfl
  obtain ⟨d0, d1, d2⟩ := fd_cells hc
  refine bodyPost_ret (v := .tuple #[y2, .agg #[x0, x1, x2], y4]) ?_ rfl h
  rw [Array.getD_eq_getD_getElem?] at h2 hb h4
  simp only [results, hres]
  go_simp
theorem open_fin {w4 : World} {Z : Nat} {cs : Array Value} {v0 v1 v2 u0 u1 u2 : Value} (hz : w4.heap[Z]? = some (.cells #[u0, u1, u2] 37 (0, 0))) :
    ((((w4.alloc (.cells cs 60)).setCell ⟨Z, 0, none⟩ v0).setCell ⟨Z, 1, none⟩ v1).setCell ⟨Z, 2, none⟩ v2).drew.heap[Z]? = some (.cells #[v0, v1, v2] 37 (0, 0)) ∧
    ((((w4.alloc (.cells cs 60)).setCell ⟨Z, 0, none⟩ v0).setCell ⟨Z, 1, none⟩ v1).setCell ⟨Z, 2, none⟩ v2).drew.heap[w4.heap.size]? = some (.cells cs 60 (0, 0)) ∧
    Fr [Z] w4 ((((w4.alloc (.cells cs 60)).setCell ⟨Z, 0, none⟩ v0).setCell ⟨Z, 1, none⟩ v1).setCell ⟨Z, 2, none⟩ v2).drew ∧
    w4.heap.size < ((((w4.alloc (.cells cs 60)).setCell ⟨Z, 0, none⟩ v0).setCell ⟨Z, 1, none⟩ v1).setCell ⟨Z, 2, none⟩ v2).drew.heap.size := by
  have hne : w4.heap.size ≠ Z := by have := lt_of_heap hz; omega
  have h1 := heap_alloc_new w4 (.cells cs 60)
  have h2 := blk_oth (j := 2) (v := v2) (blk_oth (j := 1) (v := v1) (blk_oth (j := 0) (v := v0) h1 hne) hne) hne
  exact ⟨blk_set 2 v2 (blk_set 1 v1 (blk_set 0 v0 (alloc_keep hz))), h2, (((((Fr.refl [Z] w4).alloc _).setCell (.inl (by simp)) _).setCell (.inl (by simp)) _).setCell (.inl (by simp)) _).drew, lt_of_heap h2⟩
theorem Open_nil (w : World) : Calls Try.prog 15 #[.pointer none] w fun e w' => e = .returned (.tuple #[.pointer none, noFound, .int .i64 1]) ∧ Fr [] w w' := by
  go_enter Try.func15, Try.ntmps15
  have HZ := Lib.hid (heap_alloc_new w (.cells #[.int .u64 0, .string ⟨#[]⟩, .slice none 0 0] 37))
  go_wp2_with (refine wpList_store_row rfl 37 _ _ rfl w.heap.size #[.int .u64 0, .string ⟨#[]⟩, .slice none 0 0] rfl rfl 37 _ HZ.out infoFd rfl (by simp [Value.oneCell']) ?_)
  exact open_end (b := w.heap.size) rfl rfl rfl (setRow_heap _ _ _ _ _ _ HZ.out) ⟨rfl, setRow_fr' _ _ ((Fr.refl _ _).alloc _) (.inr (Nat.le_refl _))⟩
set_option maxHeartbeats 4000000 in
set_option maxRecDepth 100000 in
theorem HOpen_calls (w : World) (d : Nat) (D : DSt) (S : List Nat) (hd : DH w d D S) (hbad : D.bad = false) (hwl : D.wl.length ≤ 700) :
    Calls Try.prog 15 #[.pointer (some ⟨d, 0, none⟩)] w (OpenQ w d D S (newestS D) (tailS D)) := by
  have hnw := fun W hd => newest_calls W d D S hd hbad
  have hfit := hd.fit
  have hok := newestS_ok hfit.1
  unfold tailS
  generalize newestS D = q at *
  obtain ⟨h, ep, sn, rs, en⟩ := q
  simp only at hok hnw ⊢
  have HD := Lib.hid hd
  have HNW := Lib.hid hnw
  have HOK := Lib.hid hok
  have HFIT := Lib.hid hfit
  have HWL := Lib.hid hwl
  clear hd hnw hok hfit hwl hbad
  go_enter Try.func15, Try.ntmps15
  go_wp2_with fail
  have hz0 := heap_alloc_new w (.cells #[.int .u64 0, .string ⟨#[]⟩, .slice none 0 0] 37)
  have hF0 : Fr [] w (w.alloc (.cells #[.int .u64 0, .string ⟨#[]⟩, .slice none 0 0] 37)) := (Fr.refl _ _).alloc _
  generalize w.alloc (.cells #[.int .u64 0, .string ⟨#[]⟩, .slice none 0 0] 37) = W0 at *
  obtain ⟨Z, hZ⟩ : ∃ Z, w.heap.size = Z := ⟨_, rfl⟩
  rw [hZ] at hz0 ⊢
  have HZZ := Lib.hid (show w.heap.size ≤ Z ∧ Z < W0.heap.size from ⟨by omega, lt_of_heap hz0⟩)
  clear hZ
  (with_reducible refine (HNW.out _ (HD.out.keep0 hF0)).mono ?_)
  rintro e w1 ⟨A, cap, rfl, hr1, hn1, hf1⟩
  have HZ1 := Lib.hid (blk_keep hz0 hf1 (by simp))
  have HF1 := Lib.hid (hF0.then hf1)
  have HR1 := Lib.hid hr1
  have HN1 := Lib.hid (show ∀ ad, A = some ad → W0.heap.size ≤ ad.block ∧ ad.block < w1.heap.size from hn1)
  have HS1 := Lib.hid (show W0.heap.size ≤ w1.heap.size from hf1.size)
  clear hz0 hF0 hr1 hn1 hf1 HNW
  simp only [heldV]
  have HX2 := Lib.hid (heap_alloc_new w1 (.cells #[.int .u64 ep, .string sn, .slice A rs.length cap, .int .i64 en] 56))
  have HZ2 := Lib.hid (alloc_keep (o := (.cells #[.int .u64 ep, .string sn, .slice A rs.length cap, .int .i64 en] 56)) HZ1.out)
  have HF2 := Lib.hid (HF1.out.alloc (.cells #[.int .u64 ep, .string sn, .slice A rs.length cap, .int .i64 en] 56))
  have HR2 := Lib.hid (HR1.out.keep ((Fr.refl [] w1).alloc (.cells #[.int .u64 ep, .string sn, .slice A rs.length cap, .int .i64 en] 56)) (by simp))
  have HS2 := Lib.hid (show w1.heap.size < (w1.alloc (.cells #[.int .u64 ep, .string sn, .slice A rs.length cap, .int .i64 en] 56)).heap.size from by simp)
  clear HZ1 HF1 HR1
  by_cases he0 : en = 0
  · subst he0
    go_wp2_with (refine wpList_store_row rfl 37 _ _ rfl Z #[.int .u64 0, .string ⟨#[]⟩, .slice none 0 0] rfl rfl 37 _ HZ2.out infoFd rfl (by simp [Value.oneCell']) ?_)
    refine open_end (b := Z) rfl rfl rfl (setRow_heap _ _ _ _ _ _ HZ2.out) ?_
    have hf := setRow_fr' Z #[.int .u64 0, .string ⟨#[]⟩, .slice none 0 0] HF2.out (.inr HZZ.out.1)
    exact .inl ⟨rfl, rfl, (DPost.same HD.out).trans (fun S' hd' => ⟨S', hd'.keep0 hf, hf.mono (fun _ h => by cases h), fun k hk => .inl hk⟩)⟩
  · have f0 : ((en : Int) == 0) = false := beq_eq_false_iff_ne.2 (by omega)
    have HE0 := Lib.hid he0
    clear he0
    go_wp2_with fail
    generalize w1.alloc (.cells #[.int .u64 ep, .string sn, .slice A rs.length cap, .int .i64 en] 56) = w2 at *
    generalize w1.heap.size = X at *
    have hS : ∀ k, k ∈ S → k < w2.heap.size := fun k hk => Nat.lt_of_lt_of_le (HD.out.lt k hk) HF2.out.size
    have hnb : D.n * 2 ≤ D.st.size := by unfold DSt.n; omega
    have hD2 := HFIT.out.2
    have hh := HOK.out
    have hhn : h * D.n ≤ 1 * D.n := Nat.mul_le_mul_right _ hh.1
    have hH1 : ((h : Int) + 1) * (D.n : Int) = ((h * D.n + D.n : Nat) : Int) := by rw [Int.natCast_add, Int.natCast_mul, Int.add_mul, Int.one_mul]
    have hP1 : (h : Int) * (D.n : Int) = ((h * D.n : Nat) : Int) := by rw [Int.natCast_mul]
    have hQn : D.n - en = (((h * D.n + D.n : Nat) : Int) - ((h * D.n + en : Nat) : Int)).toNat := by omega
    have hQc : (((h * D.n + en : Nat)) : Int) = ((h * D.n : Nat) : Int) + (en : Int) := by rw [Int.natCast_add]
    have HGG := Lib.hid (show putS ((h * D.n + en : Nat) : Int) (zerosB (D.n - en)) = putS ((h * D.n + en : Nat) : Int) (zerosB (((h * D.n + D.n : Nat) : Int) - ((h * D.n + en : Nat) : Int)).toNat) from by rw [hQn])
    have hwp := fun W hB => wipe_calls W d ((h * D.n + en : Nat) : Int) ((h * D.n + D.n : Nat) : Int) (by omega) (by omega) (by omega) (by omega) w2.heap.size hB
    have hsl := putS_slow ((h * D.n + en : Nat) : Int) (zerosB (((h * D.n + D.n : Nat) : Int) - ((h * D.n + en : Nat) : Int)).toNat)
    rw [← HGG.out] at hwp hsl
    have hsz := fun W hd => sizeF_calls W d D S hd
    obtain ⟨P, hP⟩ : ∃ P : Int, ((h * D.n : Nat) : Int) = P := ⟨_, rfl⟩
    obtain ⟨Q, hQ⟩ : ∃ Q : Int, ((h * D.n + en : Nat) : Int) = Q := ⟨_, rfl⟩
    obtain ⟨T, hT⟩ : ∃ T : Int, ((h * D.n + D.n : Nat) : Int) = T := ⟨_, rfl⟩
    obtain ⟨N, hN⟩ : ∃ N : Int, ((D.n : Nat) : Int) = N := ⟨_, rfl⟩
    obtain ⟨H1, hH⟩ : ∃ H1 : Int, (h : Int) + 1 = H1 := ⟨_, rfl⟩
    have hbp : 0 ≤ P ∧ P ≤ 131072 ∧ 0 ≤ Q ∧ Q ≤ 131072 ∧ 0 ≤ T ∧ T ≤ 262144 ∧ 0 ≤ H1 ∧ H1 ≤ 2 := by omega
    rw [hQ, hT] at hwp
    rw [hQ] at hsl
    rw [hN] at hsz
    rw [hQ, hP] at hQc
    rw [hH, hN, hT] at hH1
    rw [hN, hP] at hP1
    have wk1 : IntKind.i64.wrap P = P := by rw [IntKind.wrap_i64]; omega
    have wk2 : IntKind.i64.wrap Q = Q := by rw [IntKind.wrap_i64]; omega
    have wk3 : IntKind.i64.wrap T = T := by rw [IntKind.wrap_i64]; omega
    have wk4 : IntKind.i64.wrap H1 = H1 := by rw [IntKind.wrap_i64]; omega
    have HQQ := Lib.hid hQ
    have hQ3 := hQc.symm
    clear hQc
    generalize hg : putS Q (zerosB (D.n - en)) = g at *
    have HG := Lib.hid (show putS ((h * D.n + en : Nat) : Int) (zerosB (D.n - en)) = g from by rw [hQ, hg])
    have HWP := Lib.hid hwp
    have HSL := Lib.hid (show Slow 3 g from fun D' => Nat.le_trans (hsl D') (by omega))
    have HSZ := Lib.hid hsz
    have HSB := Lib.hid hS
    clear hwp hsl hsz hQn hQ hP hT hN hbp hg HGG hnb hD2 hh hhn hS HQQ
    refine wp_region_mild 15 (by kernel_rfl) (by kernel_rfl) ?_
    simp only [List.take_succ_cons, List.take_zero, List.drop_succ_cons, List.drop_zero, List.take_nil, List.drop_nil]
    repeat (first
      | ((apply mild_det0; (· rfl); (· intro W hW K hK; have hW' : Fr [] w2 W := ⟨hW.os, hW.tape, hW.output, hW.size, hW.block⟩; have hdd := HD.out.keep0 (HF2.out.then hW'); go_simp; with_reducible exact mild_call (HSZ.out W hdd) hK)); simp only [Act.put, List.setIfInBounds_toArray, List.set_cons_succ, List.set_cons_zero, Nat.reduceAdd])
      | ((apply mild_free0 (φ := FnV d w2.heap.size g) FnV.stable; (· rfl); (· intro W hW K hK; go_simp; with_reducible exact mild_call_free (HWP.out W hW.size) hK)); simp only [Act.put, List.setIfInBounds_toArray, List.set_cons_succ, List.set_cons_zero, Nat.reduceAdd])
      | ((apply mild_free1 (φ := SlOne d w2.heap.size g) SlOne.stable; (· rfl); (· intro W hW u hu K hK; obtain ⟨x, F, rfl, hx, hF⟩ := hu; simp only [fnV]; go_simp; exact hK _ _ ((Fr.refl _ _).alloc _) ⟨_, x, F, rfl, heap_alloc_new _ _, hW.size, hx.keep0 ((Fr.refl _ _).alloc _), hF⟩)); simp only [Act.put, List.setIfInBounds_toArray, List.set_cons_succ, List.set_cons_zero, Nat.reduceAdd])
      | ((apply mild_det0; (· rfl); (· intro W hW K hK; have hW' : Fr [] w2 W := ⟨hW.os, hW.tape, hW.output, hW.size, hW.block⟩; obtain ⟨d0, d1, d2, d3⟩ := hd_cells (blk_keep HX2.out hW' (by simp)); go_simp; exact hK _ (Fr.refl _ _))); simp only [Act.put, List.setIfInBounds_toArray, List.set_cons_succ, List.set_cons_zero, Nat.reduceAdd])
      | (apply mild_det0; (· rfl); (· intro W hW K hK; go_simp; exact hK _ (Fr.refl _ _)); simp only [Act.put, List.setIfInBounds_toArray, List.set_cons_succ, List.set_cons_zero, Nat.reduceAdd])
      | (apply mild_slice; (· rfl); (· intro W hW K hK; go_simp; exact hK _ _ ((Fr.refl _ _).alloc _) ⟨_, rfl, heap_alloc_new _ _⟩); simp only [Act.put, List.setIfInBounds_toArray, List.set_cons_succ, List.set_cons_zero, Nat.reduceAdd]))
    refine mild_nil ?_
    intro W2 hW2
    have HF3 : Hid (Fr [] w2 W2) := Lib.hid ⟨hW2.os, hW2.tape, hW2.output, hW2.size, hW2.block⟩
    clear hW2
    simp only [subAll]
    rintro _ ⟨b, x, F, rfl, hb, hB, hx, hF⟩ _ ⟨x', F', rfl, -, -⟩
    simp only [fnV]
    (try simp only [Act.put, List.setIfInBounds_toArray, List.set_cons_succ, List.set_cons_zero])
    have hst := steps1 W2 d w2.heap.size b D S hx hF hb hB (HD.out.keep0 (HF2.out.then HF3.out)) HSB.out HSL.out (by have := HWL.out; omega)
    rw [seqS_one] at hst
    have HGD := Lib.hid (show putS ((h * D.n + en : Nat) : Int) (zerosB (D.n - en)) D = g D from by rw [HG.out])
    generalize g D = r at *
    obtain ⟨D1, c⟩ := r
    simp only at hst
    have HST := Lib.hid hst
    clear hst hb hB hx hF HWP HSL HSZ HG wk1 wk2 wk3 wk4 hH1 hP1 hQ3 hH
    go_wp2_with fail
    (with_reducible refine HST.out.mono ?_)
    rintro e w4 ⟨rfl, S', g1, g2, g3⟩
    have HG1 := Lib.hid g1
    have HG3 := Lib.hid (show ∀ k, k ∈ S' → k ∈ S ∨ W2.heap.size ≤ k from g3)
    have HSw : Hid (∀ k, k ∈ S → k < w.heap.size) := Lib.hid HD.out.lt
    have HFW := Lib.hid ((HF2.out.then HF3.out).mono (S' := S) (fun _ h => by cases h) |>.trans g2 (fun k hk => .inl hk))
    have HZ4 := Lib.hid (blk_keep (blk_keep HZ2.out HF3.out (by simp)) g2 (fun hm => by have := HSw.out _ hm; have := HZZ.out; omega))
    have HX4 := Lib.hid (blk_keep (blk_keep HX2.out HF3.out (by simp)) g2 (fun hm => by have := HSw.out _ hm; have := HZZ.out; have := HS1.out; omega))
    have HR4 := Lib.hid ((HR2.out.keep HF3.out (by simp)).keep g2 (fun ad h hm => by have := HSw.out _ hm; have := HN1.out ad h; have := HZZ.out; omega))
    have HSZ4 := Lib.hid (show w2.heap.size ≤ W2.heap.size ∧ W2.heap.size ≤ w4.heap.size from ⟨HF3.out.size, g2.size⟩)
    clear g1 g2 g3 HST HZ2 HX2 HR2 HF2 HF3 HSB
    by_cases hc : c = 0
    · subst hc
      obtain ⟨c0, c1, c2, c3⟩ := hd_cells HX4.out
      obtain ⟨z0, z1, z2⟩ := fd_cells HZ4.out
      have y0 := Lib.frozen_of_heap HZ4.out 0
      have y1 := Lib.frozen_of_heap HZ4.out 1
      have y2 := Lib.frozen_of_heap HZ4.out 2
      have a0 := fun o => (fd_cells (alloc_keep (o := o) HZ4.out)).1
      have a1 := fun o => (fd_cells (alloc_keep (o := o) HZ4.out)).2.1
      have a2 := fun o => (fd_cells (alloc_keep (o := o) HZ4.out)).2.2
      have e0 := fun o => (hd_cells (alloc_keep (o := o) HX4.out)).1
      have e1 := fun o => (hd_cells (alloc_keep (o := o) HX4.out)).2.1
      have e2 := fun o => (hd_cells (alloc_keep (o := o) HX4.out)).2.2.1
      have e3 := fun o => (hd_cells (alloc_keep (o := o) HX4.out)).2.2.2
      have b0 := fun o => Lib.frozen_of_heap (alloc_keep (o := o) HZ4.out) 0
      have b1 := fun o => Lib.frozen_of_heap (alloc_keep (o := o) HZ4.out) 1
      have b2 := fun o => Lib.frozen_of_heap (alloc_keep (o := o) HZ4.out) 2
      go_wp2_with fail
      go_region
      all_goals
        clear c0 c1 c2 c3 z0 z1 z2 y0 y1 y2 a0 a1 a2 b0 b1 b2 e0 e1 e2 e3
        go_wp2_with fail
        obtain ⟨k1, k2, k3, k4⟩ := open_fin (cs := #[.pointer (some ⟨d, 0, none⟩), .int .i64 h, .int .u64 ep, .int .i64 en, .bool false]) (v0 := .int .u64 ep) (v1 := .string sn) (v2 := .slice A rs.length cap) HZ4.out
        refine open_end (b := Z) rfl rfl rfl k1 (.inr (.inr ⟨HE0.out, ?_⟩))
        rw [HGD.out]
        have hbd := HZZ.out
        have hb1 := HS1.out
        have hb2 := HS2.out
        have hb4 := HSZ4.out
        refine ⟨rfl, w4.heap.size, A, cap, S', rfl, k2, HR4.out.keep k3 (fun ad h hm => by simp at hm; have := HN1.out ad h; omega), HG1.out.keep k3 (fun k hk hm => ?_), HFW.out.trans k3 (fun k hk => by simp at hk; exact .inr (by omega)), fun k hk => (HG3.out k hk).imp id (fun h => by omega), by omega, fun hm => by have := HG1.out.lt _ hm; omega, fun ad ha => ⟨?_, ?_, fun hm => ?_, ?_⟩⟩
        · simp at hm
          subst hm
          rcases HG3.out _ hk with h | h
          · have := HSw.out _ h; omega
          · omega
        · have := HN1.out ad ha; omega
        · have := HN1.out ad ha; omega
        · rcases HG3.out _ hm with h | h
          · have := HSw.out _ h; have := HN1.out ad ha; omega
          · have := HN1.out ad ha; omega
        · have := HN1.out ad ha; omega
    · have hc1 : (c == 0) = false := beq_eq_false_iff_ne.2 hc
      have hc2 : (c != 0) = true := bne_iff_ne.2 hc
      have HC := Lib.hid hc
      clear hc
      go_wp2_with (refine wpList_store_row rfl 37 _ _ rfl Z #[.int .u64 0, .string ⟨#[]⟩, .slice none 0 0] rfl rfl 37 _ HZ4.out infoFd rfl (by simp [Value.oneCell']) ?_)
      refine open_end (b := Z) rfl rfl rfl (setRow_heap _ _ _ _ _ _ HZ4.out) ?_
      have hfz := setRow_fr' (S := [Z]) Z #[.int .u64 0, .string ⟨#[]⟩, .slice none 0 0] (Fr.refl [Z] w4) (.inl (by simp))
      refine .inr (.inl ⟨HE0.out, ?_⟩)
      rw [HGD.out]
      refine ⟨HC.out, rfl, S', HG1.out.keep hfz (fun k hk hm => ?_), setRow_fr' _ _ HFW.out (.inr HZZ.out.1), fun k hk => (HG3.out k hk).imp id (fun h => by have := HZZ.out; have := HS1.out; have := HS2.out; have := HSZ4.out; omega)⟩
      simp at hm
      subst hm
      rcases HG3.out _ hk with h | h
      · have := HSw.out _ h; have := HZZ.out; omega
      · have := HZZ.out; have := HS1.out; have := HS2.out; have := HSZ4.out; omega
end Go.Proofs.Ytembnjpflllpbaa

/- The contract of halves.Format, of a disk that is not broken. -/
namespace Go.Proofs.Ytembnjpflllpbaa
open Go.RowKit
set_option linter.unusedVariables false
set_option linter.unusedSimpArgs false
attribute [local go_sem] mildAt mildUpon

theorem headS_size (n : Nat) (hn : n < 18446744073709551616) (s : ByteArray) (hs : s.size ≤ 1000000) : (headS n s).size ≤ s.size + 20 := by
  have h1 := numB_size n hn
  have h2 := numB_size s.size (by omega)
  rw [headS, txtB, ByteArray.size_append, ByteArray.size_append]
  omega
def fmtS (D : DSt) (ep : Nat) (snap : ByteArray) : DSt × Int := seqS [putS 0 (zerosB D.n), putS 0 (wrapB (headS ep snap)), putS (D.n : Int) (zerosB D.n)] D
/-- What Format leaves: ep the new epoch, r the steps' end. -/
def FmtQ (w : World) (d : Nat) (D : DSt) (S : List Nat) (ep n : Nat) (r : DSt × Int) (e : Ending) (w' : World) : Prop :=
  (fitsS n D.n = false ∧ e = .returned (.tuple #[.pointer none, .int .i64 15]) ∧ DPost w d D S w') ∨
  (fitsS n D.n = true ∧ r.2 ≠ 0 ∧ e = .returned (.tuple #[.pointer none, .int .i64 r.2]) ∧ DPost w d r.1 S w') ∨
  (fitsS n D.n = true ∧ r.2 = 0 ∧ ∃ L S', e = .returned (.tuple #[.pointer (some ⟨L, 0, none⟩), .int .i64 0]) ∧ LG w' L d ⟨0, ep, n + 8, false⟩ ∧ DH w' d r.1 S' ∧ Fr S w w' ∧ (∀ k, k ∈ S' → k ∈ S ∨ w.heap.size ≤ k) ∧ w.heap.size ≤ L ∧ L ∉ S')
theorem Format_nil (w : World) (s : ByteArray) : Calls Try.prog 9 #[.pointer none, .string s] w fun e w' => e = .returned (.tuple #[.pointer none, .int .i64 1]) ∧ w = w' := by
  go_enter Try.func9, Try.ntmps9
  go_wp2_with fail
  go_ret2
  exact ⟨rfl, rfl⟩
theorem fitsS_iff {n m : Nat} : fitsS n m = true ↔ (1 ≤ n ∧ n ≤ 32768) ∧ n + 8 ≤ m := by
  simp only [fitsS, Bool.and_eq_true, decide_eq_true_eq]
set_option maxHeartbeats 4000000 in
set_option maxRecDepth 100000 in
theorem HFormat_calls (w : World) (d : Nat) (D : DSt) (S : List Nat) (hd : DH w d D S) (hbad : D.bad = false) (hwl : D.wl.length ≤ 700) (snap : ByteArray) (hsn : snap.size ≤ 1000000) (ep : Nat) (hep : (newestS D).2.ep + 1 = ep) (hep2 : ep < 18446744073709551616) :
    Calls Try.prog 9 #[.pointer (some ⟨d, 0, none⟩), .string snap] w (FmtQ w d D S ep (headS ep snap).size (fmtS D ep snap)) := by
  have hnw := fun W hd => newest_calls W d D S hd hbad
  have hfit := hd.fit
  generalize newestS D = q at *
  obtain ⟨h, ep0, sn, rs, en⟩ := q
  simp only at hep hnw ⊢
  have hhs := headS_size ep hep2 snap hsn
  have hhd := fun W => head_calls W ep (ni := ep) rfl hep2 snap (by omega)
  have hnb : D.n * 2 ≤ D.st.size := by unfold DSt.n; omega
  have hD2 := hfit.2
  have hsz := fun W hd => sizeF_calls W d D S hd
  have hft := fun W => fits_calls W (headS ep snap) (by omega) D.n (ri := (D.n : Int)) rfl
  have hfz := fun W => FSize_calls W ((headS ep snap).size : Int) (Bd.of_i64 (by omega) (by omega))
  have hw1 := fun W B hB => wipe_calls W d 0 (D.n : Int) (by omega) (by omega) (by omega) (by omega) B hB
  have hw2 := fun W B hB => put_calls5 W d 0 (by omega) (by omega) (headS ep snap) (by omega) B hB
  have hw3 := fun W B hB => wipe_calls W d (D.n : Int) (2 * (D.n : Int)) (by omega) (by omega) (by omega) (by omega) B hB
  rw [show ((D.n : Int) - 0).toNat = D.n from by omega] at hw1
  rw [show (2 * (D.n : Int) - (D.n : Int)).toNat = D.n from by omega] at hw3
  have s1 : Slow 3 (putS 0 (zerosB D.n)) := fun D' => Nat.le_trans (putS_slow _ _ D') (by omega)
  have s2 : Slow 3 (putS 0 (wrapB (headS ep snap))) := fun D' => Nat.le_trans (putS_slow _ _ D') (by omega)
  have s3 : Slow 3 (putS (D.n : Int) (zerosB D.n)) := fun D' => Nat.le_trans (putS_slow _ _ D') (by omega)
  unfold fmtS
  generalize putS 0 (zerosB D.n) = g1 at *
  generalize putS 0 (wrapB (headS ep snap)) = g2 at *
  generalize putS (D.n : Int) (zerosB D.n) = g3 at *
  generalize headS ep snap = hs at *
  obtain ⟨n, hn⟩ : ∃ n, D.n = n := ⟨_, rfl⟩
  have hFQ : FmtQ w d D S ep hs.size (seqS [g1, g2, g3] D) = FmtQ w d D S ep hs.size (seqS [g1, g2, g3] D) := rfl
  rw [hn] at hsz hft hw1 hw3 hnb
  have HD := Lib.hid hd
  have HNW := Lib.hid hnw
  have HHD := Lib.hid hhd
  have HSZ := Lib.hid hsz
  have HFT := Lib.hid hft
  have HFZ := Lib.hid hfz
  have HW1 := Lib.hid hw1
  have HW2 := Lib.hid hw2
  have HW3 := Lib.hid hw3
  have HSL := Lib.hid (show Slow 3 g1 ∧ Slow 3 g2 ∧ Slow 3 g3 from ⟨s1, s2, s3⟩)
  have HWL := Lib.hid hwl
  have HHS := Lib.hid hhs
  have HN := Lib.hid hn
  obtain ⟨N2, hN2⟩ : ∃ N2 : Int, 2 * (n : Int) = N2 := ⟨_, rfl⟩
  have wk1 : IntKind.i64.wrap N2 = N2 := by rw [IntKind.wrap_i64]; omega
  rw [hN2] at hw3
  have HW3 := Lib.hid hw3
  have wk2 : IntKind.u64.wrap ((ep0 : Int) + 1) = (ep : Int) := by rw [IntKind.wrap_u64]; omega
  have hep0 : ((ep : Int) == 0) = false := beq_eq_false_iff_ne.2 (by omega)
  clear hd hnw hhd hsz hft hfz hw1 hw2 hw3 s1 s2 s3 hwl hhs hn hbad hsn hep hep2 hfit hnb hD2 hFQ
  go_enter Try.func9, Try.ntmps9
  go_wp2_with fail
  (with_reducible refine (HNW.out _ HD.out).mono ?_)
  rintro e w1 ⟨A, cap, rfl, hr1, hn1, hf1⟩
  have HF1 := Lib.hid hf1
  clear hr1 hn1 hf1 HNW
  simp only [heldV]
  go_wp2_with fail
  have hl2 : ((w1.alloc (.cells #[.int .u64 ep0, .string sn, .slice A rs.length cap, .int .i64 en] 56)).alloc (.cells #[.pointer (some ⟨d, 0, none⟩), .int .i64 0, .int .u64 ep, .int .i64 0, .bool false] 60)).heap[w1.heap.size + 1]? = some (.cells #[.pointer (some ⟨d, 0, none⟩), .int .i64 0, .int .u64 ep, .int .i64 0, .bool false] 60 (0, 0)) := by
    have := heap_alloc_new (w1.alloc (.cells #[.int .u64 ep0, .string sn, .slice A rs.length cap, .int .i64 en] 56)) (.cells #[.pointer (some ⟨d, 0, none⟩), .int .i64 0, .int .u64 ep, .int .i64 0, .bool false] 60)
    simpa using this
  have hF2 := (HF1.out.alloc (.cells #[.int .u64 ep0, .string sn, .slice A rs.length cap, .int .i64 en] 56)).alloc (.cells #[.pointer (some ⟨d, 0, none⟩), .int .i64 0, .int .u64 ep, .int .i64 0, .bool false] 60)
  have hb2 := HF1.out.size
  generalize (w1.alloc (.cells #[.int .u64 ep0, .string sn, .slice A rs.length cap, .int .i64 en] 56)).alloc (.cells #[.pointer (some ⟨d, 0, none⟩), .int .i64 0, .int .u64 ep, .int .i64 0, .bool false] 60) = w2 at *
  obtain ⟨L, hL⟩ : ∃ L, w1.heap.size + 1 = L := ⟨_, rfl⟩
  rw [hL] at hl2
  have HLW := Lib.hid (show w.heap.size ≤ L from by omega)
  simp only [hL]
  clear hL hb2 HF1
  (with_reducible refine (HHD.out _).mono ?_)
  rintro e w3 ⟨rfl, hf3⟩
  have hl3 := blk_keep hl2 hf3 (by simp)
  have hF3 := hF2.then hf3
  clear hl2 hF2 hf3 HHD
  go_wp2_with fail
  (with_reducible refine (HSZ.out _ (HD.out.keep0 hF3)).mono ?_)
  rintro e w4 ⟨rfl, hf4⟩
  have hl4 := blk_keep hl3 hf4 (by simp)
  have hF4 := hF3.then hf4
  clear hl3 hF3 hf4 HSZ
  go_wp2_with fail
  (with_reducible refine (HFT.out _).mono ?_)
  rintro e w5 ⟨rfl, rfl⟩
  have HL4 := Lib.hid hl4
  have HF4 := Lib.hid hF4
  clear hl4 hF4 HFT
  have hfitn := HN.out
  generalize hfb : fitsS hs.size n = fb at *
  have HFB := Lib.hid (show fitsS hs.size D.n = fb from by rw [HN.out]; exact hfb)
  clear hfb hfitn
  cases fb
  · go_wp2_with fail
    go_ret2
    exact .inl ⟨HFB.out, rfl, S, HD.out.keep0 HF4.out, HF4.out.mono (fun _ h => by cases h), fun k hk => .inl hk⟩
  · obtain ⟨c0, c1, c2, c3, c4⟩ := lg_cells (l := ⟨0, ep, 0, false⟩) HL4.out
    go_wp2_with fail
    clear c0 c1 c2 c3 c4
    (with_reducible refine (HW1.out _ w4.heap.size (Nat.le_refl _)).mono ?_)
    rintro e w6 ⟨v1, rfl, ⟨x1, F1, rfl, hx1, hG1⟩, hf6⟩
    simp only [fnV]
    go_wp2_with fail
    (with_reducible refine (HW2.out _ w4.heap.size hf6.size).mono ?_)
    rintro e w7 ⟨v2, rfl, ⟨x2, F2, rfl, hx2, hG2⟩, hf7⟩
    simp only [fnV]
    have HX1 := Lib.hid (hx1.keep0 hf7)
    have HF67 := Lib.hid (hf6.then hf7)
    clear hx1 hf6 hf7
    go_wp2_with fail
    (with_reducible refine (HW3.out _ w4.heap.size HF67.out.size).mono ?_)
    rintro e w8 ⟨v3, rfl, ⟨x3, F3, rfl, hx3, hG3⟩, hf8⟩
    simp only [fnV]
    have hX1 := HX1.out.keep0 hf8
    have hX2 := hx2.keep0 hf8
    have hF8 := HF67.out.then hf8
    have HG := Lib.hid (And.intro hG1 (And.intro hG2 hG3))
    clear HX1 HF67 hf8 hx2 hG1 hG2 hG3 HW1 HW2 HW3
    have HXX := Lib.hid (And.intro hX1 (And.intro hX2 hx3))
    have HF8 := Lib.hid hF8
    clear hX1 hX2 hx3 hF8
    go_wp2_with fail
    have hfa := (Fr.refl [] w8).alloc (.cells #[.func (.func x1.1) x1.2.1 x1.2.2, .func (.func x2.1) x2.2.1 x2.2.2, .func (.func x3.1) x3.2.1 x3.2.2] 65)
    have hst := steps3 (w8.alloc (.cells #[.func (.func x1.1) x1.2.1 x1.2.2, .func (.func x2.1) x2.2.1 x2.2.2, .func (.func x3.1) x3.2.1 x3.2.2] 65)) d w4.heap.size w8.heap.size D S (HXX.out.1.keep0 hfa) HG.out.1 (HXX.out.2.1.keep0 hfa) HG.out.2.1 (HXX.out.2.2.keep0 hfa) HG.out.2.2 (heap_alloc_new _ _) HF8.out.size (HD.out.keep0 ((HF4.out.then HF8.out).then hfa)) (fun k hk => Nat.lt_of_lt_of_le (HD.out.lt k hk) HF4.out.size) HSL.out.1 HSL.out.2.1 HSL.out.2.2 (by have := HWL.out; omega)
    have HL9 := Lib.hid (blk_keep (blk_keep HL4.out HF8.out (by simp)) hfa (by simp))
    have HF9 := Lib.hid ((HF4.out.then HF8.out).then hfa)
    obtain ⟨r, hr⟩ : ∃ r, seqS [g1, g2, g3] D = r := ⟨_, rfl⟩
    rw [hr] at hst
    have HRR := Lib.hid hr
    clear hr
    generalize (w8.alloc (.cells #[.func (.func x1.1) x1.2.1 x1.2.2, .func (.func x2.1) x2.2.1 x2.2.2, .func (.func x3.1) x3.2.1 x3.2.2] 65)) = w9 at *
    obtain ⟨D1, c⟩ := r
    simp only at hst
    have HST := Lib.hid hst
    clear hst hfa HXX HF8 HL4 HF4 HG HSL
    (with_reducible refine HST.out.mono ?_)
    rintro e w10 ⟨rfl, S', k1, k2, k3⟩
    have HLS := Lib.hid (show L ∉ S from fun hm => by have := HD.out.lt _ hm; have := HLW.out; omega)
    have HL10 := Lib.hid (blk_keep HL9.out k2 HLS.out)
    have HF10 := Lib.hid ((HF9.out.mono (S' := S) (fun _ h => by cases h)).trans k2 (fun k hk => .inl hk))
    have HK1 := Lib.hid k1
    have HK3 := Lib.hid (show ∀ k, k ∈ S' → k ∈ S ∨ w.heap.size ≤ k ∧ L < k from fun k hk => (k3 k hk).imp id (fun h => by have := lt_of_heap HL9.out; have := HF9.out.size; omega))
    clear k1 k2 k3 HST HL9 HF9
    by_cases hc : c = 0
    · subst hc
      have hfz := HFZ.out w10
      have hft2 := fitsS_iff.1 HFB.out
      rw [fsize_in (by omega) (by omega)] at hfz
      have HFZ2 := Lib.hid hfz
      clear hfz hft2 HFZ
      obtain ⟨c0, c1, c2, c3, c4⟩ := lg_cells (l := ⟨0, ep, 0, false⟩) HL10.out
      have y3 := Lib.frozen_of_heap HL10.out 3
      go_wp2_with fail
      (with_reducible refine HFZ2.out.mono ?_)
      rintro e w11 ⟨rfl, rfl⟩
      go_wp2_with fail
      go_ret2
      refine .inr (.inr ⟨HFB.out, ?_⟩)
      rw [HRR.out]
      have hfs := (Fr.refl [L] w10).setCell (p := ⟨L, 3, none⟩) (.inl (by simp)) (.int .i64 ((hs.size : Int) + 8))
      have hls := HLS.out
      refine ⟨rfl, L, S', rfl, ?_, HK1.out.keep hfs (fun k hk hm => ?_), HF10.out.trans hfs (fun k hk => by simp at hk; exact .inr (by have := HLW.out; omega)), fun k hk => (HK3.out k hk).imp id (fun h => h.1), HLW.out, fun hm => ?_⟩
      · have := blk_set 3 (.int .i64 ((hs.size : Int) + 8)) HL10.out
        exact this
      · simp at hm
        subst hm
        rcases HK3.out _ hk with h | h
        · exact hls h
        · omega
      · rcases HK3.out _ hm with h | h
        · exact hls h
        · omega
    · have hc1 : (c == 0) = false := beq_eq_false_iff_ne.2 hc
      have hc2 : (c != 0) = true := bne_iff_ne.2 hc
      have HC := Lib.hid hc
      clear hc
      go_wp2_with fail
      go_ret2
      refine .inr (.inl ⟨HFB.out, ?_⟩)
      rw [HRR.out]
      exact ⟨HC.out, rfl, S', HK1.out, HF10.out, fun k hk => (HK3.out k hk).imp id (fun h => h.1)⟩
end Go.Proofs.Ytembnjpflllpbaa

/- The contracts of does and Append of a log. -/
namespace Go.Proofs.Ytembnjpflllpbaa
open Go.RowKit
set_option linter.unusedVariables false
set_option linter.unusedSimpArgs false
attribute [local go_sem] mildAt mildUpon

/-- What a step of a log leaves: the disk, the log. -/
def HLPost (w : World) (L d : Nat) (x : DSt × LSt) (S : List Nat) (w' : World) : Prop := ∃ S', DH w' d x.1 S' ∧ LG w' L d x.2 ∧ L ∉ S' ∧ Fr (L :: S) w w' ∧ ∀ k, k ∈ S' → k ∈ S ∨ w.heap.size ≤ k
def appS (D : DSt) (l : LSt) (s : ByteArray) : (DSt × LSt) × Int :=
  if l.bad then ((D, l), 13) else if fsize s.size = 0 then ((D, l), 1) else if l.fits D s.size = false then ((D, l), 15)
  else if (putS ((l.half * D.n + l.en : Nat) : Int) (wrapB s) D).2 = 0 then (((putS ((l.half * D.n + l.en : Nat) : Int) (wrapB s) D).1, ⟨l.half, l.ep, l.en + (s.size + 8), false⟩), 0)
  else (((putS ((l.half * D.n + l.en : Nat) : Int) (wrapB s) D).1, ⟨l.half, l.ep, l.en, true⟩), (putS ((l.half * D.n + l.en : Nat) : Int) (wrapB s) D).2)
theorem FSizeF_calls (w : World) (n : Int) (h : Bd .i64 n) : Calls Try.prog 30 #[.int .i64 n] w fun e w' => e = .returned (.int .i64 (fsize n)) ∧ Fr [] w w' :=
  (FSize_calls w n h).mono fun e w' ⟨he, hw⟩ => ⟨he, hw ▸ Fr.refl _ _⟩
set_option maxHeartbeats 2000000 in
set_option maxRecDepth 100000 in
theorem does_calls (w : World) (L d b m : Nat) (l : LSt) (hl : LG w L d l) (S : List Nat) (D1 : DSt) (c : Int) (hLS : L ∉ S)
    (hst : Calls Try.prog 27 #[.slice (some ⟨b, 0, none⟩) m m] w fun e w' => e = .returned (.int .i64 c) ∧ DPost w d D1 S w') :
    Calls Try.prog 32 #[.pointer (some ⟨L, 0, none⟩), .slice (some ⟨b, 0, none⟩) m m] w fun e w' => e = .returned (.int .i64 c) ∧ HLPost w L d (D1, ⟨l.half, l.ep, l.en, decide (c ≠ 0)⟩) S w' := by
  have HST := Lib.hid hst
  have HLS := Lib.hid hLS
  have HL := Lib.hid hl
  clear hst hLS hl
  go_enter Try.func32, Try.ntmps32
  go_wp2_with fail
  (with_reducible refine HST.out.mono ?_)
  rintro e w1 ⟨rfl, S', k1, k2, k3⟩
  have HL1 := Lib.hid (HL.out.keep k2 HLS.out)
  have hc4 := (lg_cells HL1.out).2.2.2.2
  have y4 := Lib.frozen_of_heap HL1.out 4
  have HK := Lib.hid (And.intro k1 (And.intro k2 k3))
  clear k1 k2 k3 HST
  have hend : ∀ bb : Bool, bb = decide (c ≠ 0) → HLPost w L d (D1, ⟨l.half, l.ep, l.en, decide (c ≠ 0)⟩) S (w1.setCell ⟨L, 4, none⟩ (.bool bb)) := by
    rintro bb rfl
    obtain ⟨k1, k2, k3⟩ := HK.out
    have hfs := (Fr.refl [L] w1).setCell (p := ⟨L, 4, none⟩) (.inl (by simp)) (.bool (decide (c ≠ 0)))
    have hns : L ∉ S' := fun hm => by
      rcases k3 _ hm with h | h
      · exact HLS.out h
      · have := lt_of_heap HL.out; omega
    refine ⟨S', k1.keep hfs (fun k hk hm => by simp at hm; subst hm; exact hns hk), blk_set 4 (.bool (decide (c ≠ 0))) HL1.out, hns, (k2.mono (S' := L :: S) (fun _ h _ => .tail _ h)).trans hfs (fun k hk => by simp at hk; subst hk; exact .inl (.head _)), k3⟩
  have HEND := Lib.hid hend
  clear hend
  by_cases hc : c = 0
  · subst hc
    go_wp2_with fail
    go_ret
    exact ⟨rfl, HEND.out _ rfl⟩
  · have hc2 : (c != 0) = true := bne_iff_ne.2 hc
    have HC := Lib.hid hc
    clear hc
    go_wp2_with fail
    go_ret
    exact ⟨rfl, HEND.out _ (decide_eq_true HC.out).symm⟩
set_option maxHeartbeats 4000000 in
set_option maxRecDepth 100000 in
theorem HAppend_calls (w : World) (L d : Nat) (l : LSt) (D : DSt) (S : List Nat) (hl : LG w L d l) (hd : DH w d D S) (hLS : L ∉ S) (hhalf : l.half ≤ 1) (hen : l.en ≤ 1000000) (hwl : D.wl.length ≤ 700) (s : ByteArray) (hs : s.size ≤ 1000000) :
    Calls Try.prog 12 #[.pointer (some ⟨L, 0, none⟩), .string s] w fun e w' => e = .returned (.int .i64 (appS D l s).2) ∧ HLPost w L d (appS D l s).1 S w' := by
  have hwk := fun W h => works_calls W L d l h
  have hfz := fun W => FSizeF_calls W (s.size : Int) (Bd.of_i64 (by omega) (by omega))
  have hft := fun W h hd => lfits_calls W L d l D S h hd hen (s.size : Int) (Bd.of_i64 (by omega) (by omega))
  have hfit := hd.fit
  have hnb : D.n * 2 ≤ D.st.size := by unfold DSt.n; omega
  have hsame : HLPost w L d (D, l) S w := ⟨S, hd, hl, hLS, Fr.refl _ _, fun k hk => .inl hk⟩
  have hsame2 : ∀ W, Fr [] w W → HLPost w L d (D, l) S W := fun W hf => ⟨S, hd.keep0 hf, hl.keep hf (by simp), hLS, hf.mono (fun _ h => by cases h), fun k hk => .inl hk⟩
  have HWK := Lib.hid hwk
  have HFZ := Lib.hid hfz
  have HFT := Lib.hid hft
  have HSM := Lib.hid hsame2
  have HL := Lib.hid hl
  have HD := Lib.hid hd
  have HLS := Lib.hid hLS
  clear hwk hfz hft hsame hsame2 hl hd hLS
  by_cases hb : l.bad = true
  · have he : appS D l s = ((D, l), 13) := by rw [appS, if_pos hb]
    rw [he]
    have HB := Lib.hid hb
    have hw := HWK.out w HL.out
    rw [hb] at hw
    have HW := Lib.hid hw
    clear hw hb he
    go_enter Try.func12, Try.ntmps12
    go_wp2_with fail
    (with_reducible refine HW.out.mono ?_)
    rintro e w1 ⟨rfl, rfl⟩
    go_wp2_with fail
    go_ret
    exact ⟨rfl, HSM.out _ (Fr.refl _ _)⟩
  · rw [Bool.not_eq_true] at hb
    have hw := HWK.out w HL.out
    rw [hb] at hw
    have HW := Lib.hid hw
    by_cases h0 : fsize s.size = 0
    · have he : appS D l s = ((D, l), 1) := by rw [appS, if_neg (by rw [hb]; decide), if_pos h0]
      rw [he]
      have hfz := HFZ.out w
      rw [h0] at hfz
      have HF := Lib.hid hfz
      clear hw hb he h0 hfz
      go_enter Try.func12, Try.ntmps12
      go_wp2_with fail
      (with_reducible refine HW.out.mono ?_)
      rintro e w1 ⟨rfl, rfl⟩
      go_wp2_with fail
      (with_reducible refine HF.out.mono ?_)
      rintro e w1 ⟨rfl, hf1⟩
      have HF1 := Lib.hid hf1
      clear hf1
      go_wp2_with fail
      go_ret
      exact ⟨rfl, HSM.out _ HF1.out⟩
    · by_cases hf : l.fits D s.size = false
      · have he : appS D l s = ((D, l), 15) := by rw [appS, if_neg (by rw [hb]; decide), if_neg h0, if_pos hf]
        rw [he]
        have hft := HFT.out
        rw [hf] at hft
        have HF := Lib.hid hft
        have hz : (fsize (s.size : Int) == 0) = false := beq_eq_false_iff_ne.2 h0
        generalize fsize (s.size : Int) = z at *
        clear hw hb he h0 hft hf
        go_enter Try.func12, Try.ntmps12
        go_wp2_with fail
        (with_reducible refine HW.out.mono ?_)
        rintro e w1 ⟨rfl, rfl⟩
        go_wp2_with fail
        (with_reducible refine (HFZ.out _).mono ?_)
        rintro e w1 ⟨rfl, hf1⟩
        have HF1 := Lib.hid hf1
        clear hf1
        go_wp2_with fail
        (with_reducible refine (HF.out _ (HL.out.keep HF1.out (by simp)) (HD.out.keep0 HF1.out)).mono ?_)
        rintro e w2 ⟨rfl, hf2⟩
        have HF2 := Lib.hid (HF1.out.then hf2)
        clear hf2
        go_wp2_with fail
        go_ret
        exact ⟨rfl, HSM.out _ HF2.out⟩
      · have hfit1 : l.fits D s.size = true := by rw [Bool.not_eq_false] at hf; exact hf
        have hin : 1 ≤ s.size ∧ s.size ≤ 32768 := by
          refine Classical.byContradiction fun h => h0 (fsize_out (by omega))
        have hfs : fsize (s.size : Int) = ((s.size + 8 : Nat) : Int) := by rw [fsize_in (by omega) (by omega)]; omega
        have hroom : l.en + (s.size + 8) ≤ D.n := by
          have h1 := hfit1
          simp only [LSt.fits, LSt.room, hb, Bool.and_eq_true, decide_eq_true_eq, hfs, Bool.false_eq_true, if_false] at h1
          omega
        have he : appS D l s = if (putS ((l.half * D.n + l.en : Nat) : Int) (wrapB s) D).2 = 0 then (((putS ((l.half * D.n + l.en : Nat) : Int) (wrapB s) D).1, ⟨l.half, l.ep, l.en + (s.size + 8), false⟩), 0)
            else (((putS ((l.half * D.n + l.en : Nat) : Int) (wrapB s) D).1, ⟨l.half, l.ep, l.en, true⟩), (putS ((l.half * D.n + l.en : Nat) : Int) (wrapB s) D).2) := by
          rw [appS, if_neg (by rw [hb]; decide), if_neg h0, if_neg (by rw [hfit1]; decide)]
        have hft := HFT.out
        rw [hfit1] at hft
        have HF := Lib.hid hft
        have hD2 := hfit.2
        have hhn : l.half * D.n ≤ 1 * D.n := Nat.mul_le_mul_right _ hhalf
        have hsz := fun W hd => sizeF_calls W d D S hd
        have hpt := fun W B hB => put_calls5 W d ((l.half * D.n + l.en : Nat) : Int) (by omega) (by omega) s (by omega) B hB
        have hsl := putS_slow ((l.half * D.n + l.en : Nat) : Int) (wrapB s)
        have hP1 : (l.half : Int) * (D.n : Int) = ((l.half * D.n : Nat) : Int) := by rw [Int.natCast_mul]
        have hQ3 : ((l.half * D.n : Nat) : Int) + (l.en : Int) = (((l.half * D.n + l.en : Nat)) : Int) := by rw [Int.natCast_add]
        have hR3 : (l.en : Int) + ((s.size + 8 : Nat) : Int) = ((l.en + (s.size + 8) : Nat) : Int) := by rw [Int.natCast_add l.en]
        obtain ⟨P, hP⟩ : ∃ P : Int, ((l.half * D.n : Nat) : Int) = P := ⟨_, rfl⟩
        obtain ⟨Q, hQ⟩ : ∃ Q : Int, ((l.half * D.n + l.en : Nat) : Int) = Q := ⟨_, rfl⟩
        obtain ⟨R, hR⟩ : ∃ R : Int, ((l.en + (s.size + 8) : Nat) : Int) = R := ⟨_, rfl⟩
        obtain ⟨N, hN⟩ : ∃ N : Int, ((D.n : Nat) : Int) = N := ⟨_, rfl⟩
        obtain ⟨z, hz⟩ : ∃ z : Int, ((s.size + 8 : Nat) : Int) = z := ⟨_, rfl⟩
        have hbp : 0 ≤ P ∧ P ≤ 131072 ∧ 0 ≤ Q ∧ Q ≤ 131072 * 2 ∧ 0 ≤ R ∧ R ≤ 131072 := by omega
        have wk1 : IntKind.i64.wrap P = P := by rw [IntKind.wrap_i64]; omega
        have wk2 : IntKind.i64.wrap Q = Q := by rw [IntKind.wrap_i64]; omega
        have wk3 : IntKind.i64.wrap R = R := by rw [IntKind.wrap_i64]; omega
        have hz0 : (z == 0) = false := beq_eq_false_iff_ne.2 (by omega)
        have HFZ2 := Lib.hid (show ∀ W, Calls Try.prog 30 #[.int .i64 s.size] W fun e w' => e = .returned (.int .i64 z) ∧ Fr [] W w' from fun W => by have := HFZ.out W; rw [hfs, hz] at this; exact this)
        obtain ⟨g, hg⟩ : ∃ g, putS ((l.half * D.n + l.en : Nat) : Int) (wrapB s) = g := ⟨_, rfl⟩
        rw [hg] at he hpt hsl
        rw [hQ] at hpt hQ3
        rw [hP] at hP1 hQ3
        rw [hN] at hP1 hsz
        rw [hR, hz] at hR3
        obtain ⟨half, ep, en, bad⟩ := l
        simp only at hb hP1 hQ3 hR3 he hR
        subst hb
        have HE := Lib.hid he
        have HRR := Lib.hid hR
        have HSZ := Lib.hid hsz
        have HPT := Lib.hid hpt
        have HSL := Lib.hid (show Slow 3 g from fun D' => Nat.le_trans (hsl D') (by omega))
        have HWL := Lib.hid hwl
        clear hw he hft hf hfit1 hin hfs hroom hD2 hhn hsz hpt hsl hP hQ hR hN hz hbp hg h0 hfit hnb hen hhalf hwl hs HFZ HFT HWK
        go_enter Try.func12, Try.ntmps12
        go_wp2_with fail
        (with_reducible refine HW.out.mono ?_)
        rintro e w1 ⟨rfl, rfl⟩
        go_wp2_with fail
        (with_reducible refine (HFZ2.out _).mono ?_)
        rintro e w1 ⟨rfl, hf1⟩
        have HF1 := Lib.hid hf1
        clear hf1
        go_wp2_with fail
        (with_reducible refine (HF.out _ (HL.out.keep HF1.out (by simp)) (HD.out.keep0 HF1.out)).mono ?_)
        rintro e w2 ⟨rfl, hf2⟩
        have HF2 := Lib.hid (HF1.out.then hf2)
        clear hf2 HF1 HF HW
        go_wp2_with fail
        refine wp_region_mild 23 (by kernel_rfl) (by kernel_rfl) ?_
        simp only [List.take_succ_cons, List.take_zero, List.drop_succ_cons, List.drop_zero, List.take_nil, List.drop_nil]
        repeat (first
          | ((apply mild_det0; (· rfl); (· intro W hW K hK; have hW' : Fr [] w2 W := ⟨hW.os, hW.tape, hW.output, hW.size, hW.block⟩; have hdd := HD.out.keep0 (HF2.out.then hW'); go_simp; with_reducible exact mild_call (HSZ.out W hdd) hK)); simp only [Act.put, List.setIfInBounds_toArray, List.set_cons_succ, List.set_cons_zero, Nat.reduceAdd])
          | ((apply mild_free0 (φ := FnV d w2.heap.size g) FnV.stable; (· rfl); (· intro W hW K hK; go_simp; with_reducible exact mild_call_free (HPT.out W w2.heap.size hW.size) hK)); simp only [Act.put, List.setIfInBounds_toArray, List.set_cons_succ, List.set_cons_zero, Nat.reduceAdd])
          | ((apply mild_free1 (φ := SlOne d w2.heap.size g) SlOne.stable; (· rfl); (· intro W hW u hu K hK; obtain ⟨x, F, rfl, hx, hF⟩ := hu; simp only [fnV]; go_simp; exact hK _ _ ((Fr.refl _ _).alloc _) ⟨_, x, F, rfl, heap_alloc_new _ _, hW.size, hx.keep0 ((Fr.refl _ _).alloc _), hF⟩)); simp only [Act.put, List.setIfInBounds_toArray, List.set_cons_succ, List.set_cons_zero, Nat.reduceAdd])
          | ((apply mild_det0; (· rfl); (· intro W hW K hK; have hW' : Fr [] w2 W := ⟨hW.os, hW.tape, hW.output, hW.size, hW.block⟩; obtain ⟨d0, d1, d2, d3, d4⟩ := lg_cells (HL.out.keep (HF2.out.then hW') (by simp)); go_simp; exact hK _ (Fr.refl _ _))); simp only [Act.put, List.setIfInBounds_toArray, List.set_cons_succ, List.set_cons_zero, Nat.reduceAdd])
          | (apply mild_det0; (· rfl); (· intro W hW K hK; go_simp; exact hK _ (Fr.refl _ _)); simp only [Act.put, List.setIfInBounds_toArray, List.set_cons_succ, List.set_cons_zero, Nat.reduceAdd])
          | (apply mild_slice; (· rfl); (· intro W hW K hK; go_simp; exact hK _ _ ((Fr.refl _ _).alloc _) ⟨_, rfl, heap_alloc_new _ _⟩); simp only [Act.put, List.setIfInBounds_toArray, List.set_cons_succ, List.set_cons_zero, Nat.reduceAdd]))
        refine mild_nil ?_
        intro W2 hW2
        have HF3 : Hid (Fr [] w W2) := Lib.hid (HF2.out.then (c := W2) ⟨hW2.os, hW2.tape, hW2.output, hW2.size, hW2.block⟩)
        clear hW2
        simp only [subAll]
        rintro _ ⟨b, x, F, rfl, hb, hB, hx, hF⟩ _ ⟨x', F', rfl, -, -⟩
        simp only [fnV]
        (try simp only [Act.put, List.setIfInBounds_toArray, List.set_cons_succ, List.set_cons_zero])
        have hst := steps1 W2 d w2.heap.size b D S hx hF hb hB (HD.out.keep0 HF3.out) (fun k hk => Nat.lt_of_lt_of_le (HD.out.lt k hk) HF2.out.size) HSL.out (by have := HWL.out; omega)
        rw [seqS_one] at hst
        generalize g D = r at *
        obtain ⟨D1, c⟩ := r
        simp only at hst
        have HDO := Lib.hid (does_calls W2 L d b 1 _ (HL.out.keep HF3.out (by simp)) S D1 c HLS.out hst)
        clear hst hb hB hx hF HPT HSL HSZ hP1 hQ3 wk1 wk2
        go_wp2_with fail
        (with_reducible refine HDO.out.mono ?_)
        rintro e w4 ⟨rfl, S', k1, k2, k3, k4, k5⟩
        have HK := Lib.hid (And.intro k1 (And.intro k3 (And.intro (show Fr (L :: S) w w4 from (HF3.out.mono (S' := L :: S) (fun _ h => by cases h)).trans k4 (fun k hk => .inl hk)) (show ∀ k, k ∈ S' → k ∈ S ∨ w.heap.size ≤ k from fun k hk => (k5 k hk).imp id (Nat.le_trans HF3.out.size)))))
        have HL4 := Lib.hid k2
        have HLW := Lib.hid (lt_of_heap HL.out)
        clear k1 k2 k3 k4 k5 HDO HF3 HF2
        by_cases hc : c = 0
        · subst hc
          have HE2 := Lib.hid (HE.out.trans (if_pos rfl))
          clear HE
          go_wp2_with fail
          refine wp_region_mild 10 (by kernel_rfl) (by kernel_rfl) ?_
          simp only [List.take_succ_cons, List.take_zero, List.drop_succ_cons, List.drop_zero, List.take_nil, List.drop_nil]
          repeat (first
            | (apply mild_det0; (· rfl); (· intro W hW K hK; go_simp; with_reducible exact mild_call (HFZ2.out W) hK); simp only [Act.put, List.setIfInBounds_toArray, List.set_cons_succ, List.set_cons_zero, Nat.reduceAdd])
            | ((apply mild_det0; (· rfl); (· intro W hW K hK; have hW' : Fr [] w4 W := ⟨hW.os, hW.tape, hW.output, hW.size, hW.block⟩; obtain ⟨d0, d1, d2, d3, d4⟩ := lg_cells (HL4.out.keep hW' (by simp)); go_simp; exact hK _ (Fr.refl _ _))); simp only [Act.put, List.setIfInBounds_toArray, List.set_cons_succ, List.set_cons_zero, Nat.reduceAdd])
            | (apply mild_det0; (· rfl); (· intro W hW K hK; go_simp; exact hK _ (Fr.refl _ _)); simp only [Act.put, List.setIfInBounds_toArray, List.set_cons_succ, List.set_cons_zero, Nat.reduceAdd])
            | (apply mild_slice; (· rfl); (· intro W hW K hK; go_simp; exact hK _ _ ((Fr.refl _ _).alloc _) ⟨_, rfl, heap_alloc_new _ _⟩); simp only [Act.put, List.setIfInBounds_toArray, List.set_cons_succ, List.set_cons_zero, Nat.reduceAdd]))
          refine mild_nil ?_
          intro W5 hW5
          have HF5 : Hid (Fr [] w4 W5) := Lib.hid ⟨hW5.os, hW5.tape, hW5.output, hW5.size, hW5.block⟩
          clear hW5
          simp only [subAll]
          (try simp only [Act.put, List.setIfInBounds_toArray, List.set_cons_succ, List.set_cons_zero])
          have HL5 := Lib.hid (HL4.out.keep HF5.out (by simp))
          have c3 := (lg_cells HL5.out).2.2.2.1
          have y3 := Lib.frozen_of_heap HL5.out 3
          go_wp2_with fail
          go_ret
          rw [HE2.out]
          have hfs := (Fr.refl [L] W5).setCell (p := ⟨L, 3, none⟩) (.inl (by simp)) (.int .i64 R)
          refine ⟨rfl, S', (HK.out.1.keep0 HF5.out).keep hfs (fun k hk hm => by simp at hm; subst hm; exact HK.out.2.1 hk), ?_, HK.out.2.1, ((HK.out.2.2.1.then HF5.out).trans hfs (fun k hk => by simp at hk; subst hk; exact .inl (.head _))), HK.out.2.2.2⟩
          have h3 := blk_set 3 (.int .i64 R) HL5.out
          rw [← HRR.out] at h3 ⊢
          exact h3
        · have hc1 : (c == 0) = false := beq_eq_false_iff_ne.2 hc
          have HE2 := Lib.hid (HE.out.trans (if_neg hc))
          have HC := Lib.hid hc
          clear HE hc
          go_wp2_with fail
          go_ret
          rw [HE2.out]
          refine ⟨rfl, S', HK.out.1, ?_, HK.out.2.1, HK.out.2.2.1, HK.out.2.2.2⟩
          have h4 := HL4.out
          rw [decide_eq_true HC.out] at h4
          exact h4
end Go.Proofs.Ytembnjpflllpbaa

namespace Go.Proofs.Ytembnjpflllpbaa
open Go.RowKit
set_option linter.unusedVariables false
set_option linter.unusedSimpArgs false
attribute [local go_sem] mildAt mildUpon

def snapR (D : DSt) (l : LSt) (s : ByteArray) : DSt × Int := seqS [putS (((1 - l.half) * D.n : Nat) : Int) (zerosB D.n), putS (((1 - l.half) * D.n : Nat) : Int) (wrapB (headS (l.ep + 1) s))] D
def snpS (D : DSt) (l : LSt) (s : ByteArray) : (DSt × LSt) × Int :=
  if l.bad then ((D, l), 13) else if fitsS (headS (l.ep + 1) s).size D.n = false then ((D, l), 15)
  else if (snapR D l s).2 = 0 then (((snapR D l s).1, ⟨1 - l.half, l.ep + 1, (headS (l.ep + 1) s).size + 8, false⟩), 0)
  else (((snapR D l s).1, ⟨l.half, l.ep, l.en, true⟩), (snapR D l s).2)
/-- Two steps: a slice just built. -/
def SlTwo (d B : Nat) (g1 g2 : DSt → DSt × Int) (v : Value) (W : World) : Prop := ∃ b x1 x2 F1 F2, v = .slice (some ⟨b, 0, none⟩) 2 2 ∧ W.heap[b]? = some (.cells #[.func (.func x1.1) x1.2.1 x1.2.2, .func (.func x2.1) x2.2.1 x2.2.2] 65 (0, 0)) ∧ B ≤ b ∧ (Does 900 d F1 W g1 x1 ∧ ∀ k, k ∈ F1 → B ≤ k) ∧ (Does 900 d F2 W g2 x2 ∧ ∀ k, k ∈ F2 → B ≤ k)
theorem SlTwo.stable {d B : Nat} {g1 g2 : DSt → DSt × Int} (v : Value) (W W' : World) (h : SlTwo d B g1 g2 v W) (hf : Fr [] W W') : SlTwo d B g1 g2 v W' := by
  obtain ⟨b, x1, x2, F1, F2, hv, hb, hB, h1, h2⟩ := h
  exact ⟨b, x1, x2, F1, F2, hv, blk_keep hb hf (by simp), hB, ⟨h1.1.keep0 hf, h1.2⟩, ⟨h2.1.keep0 hf, h2.2⟩⟩
theorem fitsF_calls (w : World) (s : ByteArray) (hs : s.size ≤ 1000000000) (room : Nat) {ri : Int} (hr : ri = room) :
    Calls Try.prog 26 #[.string s, .int .i64 ri] w fun e w' => e = .returned (.bool (fitsS s.size room)) ∧ Fr [] w w' :=
  (fits_calls w s hs room hr).mono fun e w' ⟨he, hw⟩ => ⟨he, hw ▸ Fr.refl _ _⟩
theorem snap_end {w w5 : World} {L d : Nat} {S S' : List Nat} {D1 : DSt} {half ep en m half' ep' : Nat} {bb : Bool} {H1 E1 : Int} (hl : LG w5 L d ⟨half, ep, en, bb⟩) (h1 : DH w5 d D1 S') (h2 : L ∉ S') (h3 : Fr (L :: S) w w5) (h4 : ∀ k, k ∈ S' → k ∈ S ∨ w.heap.size ≤ k) (hH : ((half' : Nat) : Int) = H1) (hE : ((ep' : Nat) : Int) = E1) :
    Ending.returned (.int .i64 0) = Ending.returned (.int .i64 0) ∧ HLPost w L d (D1, ⟨half', ep', m + 8, bb⟩) S (((w5.setCell ⟨L, 1, none⟩ (.int .i64 H1)).setCell ⟨L, 2, none⟩ (.int .u64 E1)).setCell ⟨L, 3, none⟩ (.int .i64 ((m : Int) + 8))).drew := by
  have hfs := ((((Fr.refl [L] w5).setCell (p := ⟨L, 1, none⟩) (.inl (by simp)) (.int .i64 H1)).setCell (p := ⟨L, 2, none⟩) (.inl (by simp)) (.int .u64 E1)).setCell (p := ⟨L, 3, none⟩) (.inl (by simp)) (.int .i64 ((m : Int) + 8))).drew
  refine ⟨rfl, S', h1.keep hfs (fun k hk hm => by simp at hm; subst hm; exact h2 hk), ?_, h2, h3.trans hfs (fun k hk => by simp at hk; subst hk; exact .inl (.head _)), h4⟩
  have := blk_set 3 (.int .i64 ((m : Int) + 8)) (blk_set 2 (.int .u64 E1) (blk_set 1 (.int .i64 H1) hl))
  subst hH hE
  exact this
set_option maxHeartbeats 4000000 in
set_option maxRecDepth 100000 in
theorem HSnap_calls (w : World) (L d : Nat) (l : LSt) (D : DSt) (S : List Nat) (hl : LG w L d l) (hd : DH w d D S) (hLS : L ∉ S) (hhalf : l.half ≤ 1) (hep : l.ep + 1 < 18446744073709551616) (hwl : D.wl.length ≤ 700) (s : ByteArray) (hs : s.size ≤ 1000000) :
    Calls Try.prog 17 #[.pointer (some ⟨L, 0, none⟩), .string s] w fun e w' => e = .returned (.int .i64 (snpS D l s).2) ∧ HLPost w L d (snpS D l s).1 S w' := by
  have hwk := fun W h => works_calls W L d l h
  have hfit := hd.fit
  have hnb : D.n * 2 ≤ D.st.size := by unfold DSt.n; omega
  have hsame2 : ∀ W, Fr [] w W → HLPost w L d (D, l) S W := fun W hf => ⟨S, hd.keep0 hf, hl.keep hf (by simp), hLS, hf.mono (fun _ h => by cases h), fun k hk => .inl hk⟩
  have HWK := Lib.hid hwk
  have HSM := Lib.hid hsame2
  have HL := Lib.hid hl
  have HD := Lib.hid hd
  have HLS := Lib.hid hLS
  clear hwk hsame2 hl hd hLS
  by_cases hb : l.bad = true
  · have he : snpS D l s = ((D, l), 13) := by rw [snpS, if_pos hb]
    rw [he]
    have hw := HWK.out w HL.out
    rw [hb] at hw
    have HW := Lib.hid hw
    clear hw hb he
    go_enter Try.func17, Try.ntmps17
    go_wp2_with fail
    (with_reducible refine HW.out.mono ?_)
    rintro e w1 ⟨rfl, rfl⟩
    go_wp2_with fail
    go_ret
    exact ⟨rfl, HSM.out _ (Fr.refl _ _)⟩
  · rw [Bool.not_eq_true] at hb
    have hw := HWK.out w HL.out
    rw [hb] at hw
    have HW := Lib.hid hw
    have hD2 := hfit.2
    have hhs := headS_size (l.ep + 1) hep s hs
    have hhd := fun W => head_calls W (l.ep + 1) (ni := ((l.ep + 1 : Nat) : Int)) rfl hep s (by omega)
    have hsz := fun W hd => sizeF_calls W d D S hd
    have hft := fun W => fitsF_calls W (headS (l.ep + 1) s) (by omega) D.n (ri := (D.n : Int)) rfl
    have hfz := fun W => FSize_calls W ((headS (l.ep + 1) s).size : Int) (Bd.of_i64 (by omega) (by omega))
    have hfe : fitsS (headS (l.ep + 1) s).size D.n = true → fsize ((headS (l.ep + 1) s).size : Int) = (((headS (l.ep + 1) s).size + 8 : Nat) : Int) := fun h => by
      have := fitsS_iff.1 h
      rw [fsize_in (by omega) (by omega)]
      omega
    have hhn : (1 - l.half) * D.n ≤ 1 * D.n := Nat.mul_le_mul_right _ (by omega)
    have hw1 := fun W B hB => wipe_calls W d (((1 - l.half) * D.n : Nat) : Int) (((1 - l.half) * D.n + D.n : Nat) : Int) (by omega) (by omega) (by omega) (by omega) B hB
    rw [show ((((1 - l.half) * D.n + D.n : Nat) : Int) - (((1 - l.half) * D.n : Nat) : Int)).toNat = D.n from by omega] at hw1
    have hw2 := fun W B hB => put_calls5 W d (((1 - l.half) * D.n : Nat) : Int) (by omega) (by omega) (headS (l.ep + 1) s) (by omega) B hB
    have s1 : Slow 3 (putS (((1 - l.half) * D.n : Nat) : Int) (zerosB D.n)) := fun D' => Nat.le_trans (putS_slow _ _ D') (by omega)
    have s2 : Slow 3 (putS (((1 - l.half) * D.n : Nat) : Int) (wrapB (headS (l.ep + 1) s))) := fun D' => Nat.le_trans (putS_slow _ _ D') (by omega)
    have hQ3 : (((1 - l.half) * D.n : Nat) : Int) + (D.n : Int) = (((1 - l.half) * D.n + D.n : Nat) : Int) := by rw [Int.natCast_add]
    have hH3 : 1 - (l.half : Int) = ((1 - l.half : Nat) : Int) := by omega
    have hP3 : ((1 - l.half : Nat) : Int) * (D.n : Int) = (((1 - l.half) * D.n : Nat) : Int) := by rw [Int.natCast_mul]
    have hv : snpS D l s = if fitsS (headS (l.ep + 1) s).size D.n = false then ((D, l), 15)
        else if (seqS [putS (((1 - l.half) * D.n : Nat) : Int) (zerosB D.n), putS (((1 - l.half) * D.n : Nat) : Int) (wrapB (headS (l.ep + 1) s))] D).2 = 0 then (((seqS [putS (((1 - l.half) * D.n : Nat) : Int) (zerosB D.n), putS (((1 - l.half) * D.n : Nat) : Int) (wrapB (headS (l.ep + 1) s))] D).1, ⟨1 - l.half, l.ep + 1, (headS (l.ep + 1) s).size + 8, false⟩), 0)
        else (((seqS [putS (((1 - l.half) * D.n : Nat) : Int) (zerosB D.n), putS (((1 - l.half) * D.n : Nat) : Int) (wrapB (headS (l.ep + 1) s))] D).1, ⟨l.half, l.ep, l.en, true⟩), (seqS [putS (((1 - l.half) * D.n : Nat) : Int) (zerosB D.n), putS (((1 - l.half) * D.n : Nat) : Int) (wrapB (headS (l.ep + 1) s))] D).2) := by
      rw [snpS, if_neg (by rw [hb]; decide)]
      rfl
    generalize putS (((1 - l.half) * D.n : Nat) : Int) (zerosB D.n) = g1 at *
    generalize putS (((1 - l.half) * D.n : Nat) : Int) (wrapB (headS (l.ep + 1) s)) = g2 at *
    generalize headS (l.ep + 1) s = hs' at *
    obtain ⟨P, hP⟩ : ∃ P : Int, (((1 - l.half) * D.n : Nat) : Int) = P := ⟨_, rfl⟩
    obtain ⟨Q, hQ⟩ : ∃ Q : Int, (((1 - l.half) * D.n + D.n : Nat) : Int) = Q := ⟨_, rfl⟩
    obtain ⟨N, hN⟩ : ∃ N : Int, ((D.n : Nat) : Int) = N := ⟨_, rfl⟩
    obtain ⟨H1, hH⟩ : ∃ H1 : Int, ((1 - l.half : Nat) : Int) = H1 := ⟨_, rfl⟩
    obtain ⟨E1, hE⟩ : ∃ E1 : Int, ((l.ep + 1 : Nat) : Int) = E1 := ⟨_, rfl⟩
    have hbp : 0 ≤ P ∧ P ≤ 131072 ∧ 0 ≤ Q ∧ Q ≤ 131072 * 2 ∧ 0 ≤ H1 ∧ H1 ≤ 1 ∧ 0 ≤ E1 ∧ E1 < 18446744073709551616 := by omega
    have hE3 : (l.ep : Int) + 1 = E1 := by omega
    have wk1 : IntKind.i64.wrap P = P := by rw [IntKind.wrap_i64]; omega
    have wk2 : IntKind.i64.wrap Q = Q := by rw [IntKind.wrap_i64]; omega
    have wk3 : IntKind.i64.wrap H1 = H1 := by rw [IntKind.wrap_i64]; omega
    have wk4 : IntKind.u64.wrap E1 = E1 := by rw [IntKind.wrap_u64]; omega
    rw [hP] at hw1 hw2 hQ3 hP3
    rw [hQ] at hw1 hQ3
    rw [hN] at hsz hft hQ3 hP3
    rw [hH] at hH3 hP3
    rw [hE] at hhd
    obtain ⟨half, ep, en, bad⟩ := l
    simp only at hb hH3 hE3 hE hH hep hv
    subst hb
    have hmx : ((ep : Int) == 18446744073709551615) = false := beq_eq_false_iff_ne.2 (by omega)
    have HEE := Lib.hid (show ((ep + 1 : Nat) : Int) = E1 ∧ ((1 - half : Nat) : Int) = H1 from ⟨hE, hH⟩)
    have HHD := Lib.hid hhd
    have HSZ := Lib.hid hsz
    have HFT := Lib.hid hft
    have HFZ := Lib.hid hfz
    have HFE := Lib.hid hfe
    have HW1 := Lib.hid hw1
    have HW2 := Lib.hid hw2
    have HSL := Lib.hid (And.intro s1 s2)
    have HWL := Lib.hid hwl
    clear hw hhd hsz hft hfz hfe hw1 hw2 s1 s2 hhs hD2 hhn hP hQ hN hH hE hbp hfit hnb hhalf hep hwl hs HWK
    obtain ⟨fb, hfb⟩ : ∃ fb, fitsS hs'.size D.n = fb := ⟨_, rfl⟩
    rw [hfb] at hv
    have HV := Lib.hid hv
    have HFB := Lib.hid hfb
    have HFT2 := Lib.hid (show ∀ W, Calls Try.prog 26 #[.string hs', .int .i64 N] W fun e w' => e = .returned (.bool fb) ∧ Fr [] W w' from fun W => by have := HFT.out W; rw [hfb] at this; exact this)
    clear hfb hv HFT
    go_enter Try.func17, Try.ntmps17
    go_wp2_with fail
    (with_reducible refine HW.out.mono ?_)
    rintro e w1 ⟨rfl, rfl⟩
    go_wp2_with fail
    refine wp_region_mild 14 (by kernel_rfl) (by kernel_rfl) ?_
    simp only [List.take_succ_cons, List.take_zero, List.drop_succ_cons, List.drop_zero, List.take_nil, List.drop_nil]
    repeat (first
      | (apply mild_det0; (· rfl); (· intro W hW K hK; go_simp; with_reducible exact mild_call (HHD.out W) hK); simp only [Act.put, List.setIfInBounds_toArray, List.set_cons_succ, List.set_cons_zero, Nat.reduceAdd])
      | ((apply mild_det0; (· rfl); (· intro W hW K hK; have hW' : Fr [] w W := ⟨hW.os, hW.tape, hW.output, hW.size, hW.block⟩; have hdd := HD.out.keep0 hW'; go_simp; with_reducible exact mild_call (HSZ.out W hdd) hK)); simp only [Act.put, List.setIfInBounds_toArray, List.set_cons_succ, List.set_cons_zero, Nat.reduceAdd])
      | ((apply mild_det0; (· rfl); (· intro W hW K hK; have hW' : Fr [] w W := ⟨hW.os, hW.tape, hW.output, hW.size, hW.block⟩; obtain ⟨d0, d1, d2, d3, d4⟩ := lg_cells (HL.out.keep hW' (by simp)); go_simp; exact hK _ (Fr.refl _ _))); simp only [Act.put, List.setIfInBounds_toArray, List.set_cons_succ, List.set_cons_zero, Nat.reduceAdd])
      | (apply mild_det0; (· rfl); (· intro W hW K hK; go_simp; exact hK _ (Fr.refl _ _)); simp only [Act.put, List.setIfInBounds_toArray, List.set_cons_succ, List.set_cons_zero, Nat.reduceAdd])
      | (apply mild_slice; (· rfl); (· intro W hW K hK; go_simp; exact hK _ _ ((Fr.refl _ _).alloc _) ⟨_, rfl, heap_alloc_new _ _⟩); simp only [Act.put, List.setIfInBounds_toArray, List.set_cons_succ, List.set_cons_zero, Nat.reduceAdd]))
    refine mild_nil ?_
    intro W2 hW2
    have HF2 : Hid (Fr [] w W2) := Lib.hid ⟨hW2.os, hW2.tape, hW2.output, hW2.size, hW2.block⟩
    clear hW2
    simp only [subAll]
    (try simp only [Act.put, List.setIfInBounds_toArray, List.set_cons_succ, List.set_cons_zero])
    go_wp2_with fail
    (with_reducible refine (HFT2.out _).mono ?_)
    rintro e w3 ⟨rfl, hf3⟩
    have HF3 := Lib.hid (HF2.out.then hf3)
    clear hf3 HF2 HW HFT2
    cases fb
    · go_wp2_with fail
      go_ret
      rw [HV.out]
      exact ⟨rfl, HSM.out _ HF3.out⟩
    · obtain ⟨c0, c1, c2, c3, c4⟩ := lg_cells (HL.out.keep HF3.out (by simp))
      go_wp2_with fail
      clear c0 c1 c2 c3 c4
      refine wp_region_mild 18 (by kernel_rfl) (by kernel_rfl) ?_
      simp only [List.take_succ_cons, List.take_zero, List.drop_succ_cons, List.drop_zero, List.take_nil, List.drop_nil]
      repeat (first
        | ((apply mild_free0 (φ := FnV d w3.heap.size g1) FnV.stable; (· rfl); (· intro W hW K hK; go_simp; with_reducible exact mild_call_free (HW1.out W w3.heap.size hW.size) hK)); simp only [Act.put, List.setIfInBounds_toArray, List.set_cons_succ, List.set_cons_zero, Nat.reduceAdd])
        | ((apply mild_free0 (φ := FnV d w3.heap.size g2) FnV.stable; (· rfl); (· intro W hW K hK; go_simp; with_reducible exact mild_call_free (HW2.out W w3.heap.size hW.size) hK)); simp only [Act.put, List.setIfInBounds_toArray, List.set_cons_succ, List.set_cons_zero, Nat.reduceAdd])
        | ((apply mild_free2 (φ := SlTwo d w3.heap.size g1 g2) SlTwo.stable; (· rfl); (· intro W hW u hu v hv K hK; obtain ⟨x2, F2, rfl, hx2, hF2⟩ := hu; obtain ⟨x1, F1, rfl, hx1, hF1⟩ := hv; simp only [fnV]; go_simp; exact hK _ _ ((Fr.refl _ _).alloc _) ⟨_, x1, x2, F1, F2, rfl, heap_alloc_new _ _, hW.size, ⟨hx1.keep0 ((Fr.refl _ _).alloc _), hF1⟩, ⟨hx2.keep0 ((Fr.refl _ _).alloc _), hF2⟩⟩)); simp only [Act.put, List.setIfInBounds_toArray, List.set_cons_succ, List.set_cons_zero, Nat.reduceAdd])
        | ((apply mild_det0; (· rfl); (· intro W hW K hK; have hW' : Fr [] w3 W := ⟨hW.os, hW.tape, hW.output, hW.size, hW.block⟩; obtain ⟨d0, d1, d2, d3, d4⟩ := lg_cells (HL.out.keep (HF3.out.then hW') (by simp)); go_simp; exact hK _ (Fr.refl _ _))); simp only [Act.put, List.setIfInBounds_toArray, List.set_cons_succ, List.set_cons_zero, Nat.reduceAdd])
        | (apply mild_det0; (· rfl); (· intro W hW K hK; go_simp; exact hK _ (Fr.refl _ _)); simp only [Act.put, List.setIfInBounds_toArray, List.set_cons_succ, List.set_cons_zero, Nat.reduceAdd])
        | (apply mild_slice; (· rfl); (· intro W hW K hK; go_simp; exact hK _ _ ((Fr.refl _ _).alloc _) ⟨_, rfl, heap_alloc_new _ _⟩); simp only [Act.put, List.setIfInBounds_toArray, List.set_cons_succ, List.set_cons_zero, Nat.reduceAdd]))
      refine mild_nil ?_
      intro W4 hW4
      have HF4 : Hid (Fr [] w W4) := Lib.hid (HF3.out.then (c := W4) ⟨hW4.os, hW4.tape, hW4.output, hW4.size, hW4.block⟩)
      clear hW4
      simp only [subAll]
      rintro _ ⟨b, x1, x2, F1, F2, rfl, hb, hB, ⟨hx1, hF1⟩, ⟨hx2, hF2⟩⟩ _ ⟨x', F', rfl, -, -⟩ _ ⟨x'', F'', rfl, -, -⟩
      simp only [fnV]
      (try simp only [Act.put, List.setIfInBounds_toArray, List.set_cons_succ, List.set_cons_zero])
      have hst := steps2 W4 d w3.heap.size b D S hx1 hF1 hx2 hF2 hb hB (HD.out.keep0 HF4.out) (fun k hk => Nat.lt_of_lt_of_le (HD.out.lt k hk) HF3.out.size) HSL.out.1 HSL.out.2 (by have := HWL.out; omega)
      obtain ⟨r, hr⟩ : ∃ r, seqS [g1, g2] D = r := ⟨_, rfl⟩
      rw [hr] at hst
      have HRR := Lib.hid hr
      clear hr
      obtain ⟨D1, c⟩ := r
      simp only at hst
      have HDO := Lib.hid (does_calls W4 L d b 2 _ (HL.out.keep HF4.out (by simp)) S D1 c HLS.out hst)
      clear hst hb hB hx1 hF1 hx2 hF2 HW1 HW2 HSL HSZ
      go_wp2_with fail
      (with_reducible refine HDO.out.mono ?_)
      rintro e w5 ⟨rfl, S', k1, k2, k3, k4, k5⟩
      have HK := Lib.hid (And.intro k1 (And.intro k3 (And.intro (show Fr (L :: S) w w5 from (HF4.out.mono (S' := L :: S) (fun _ h => by cases h)).trans k4 (fun k hk => .inl hk)) (show ∀ k, k ∈ S' → k ∈ S ∨ w.heap.size ≤ k from fun k hk => (k5 k hk).imp id (Nat.le_trans HF4.out.size)))))
      have HL5 := Lib.hid k2
      clear k1 k2 k3 k4 k5 HDO HF4 HF3
      by_cases hc : c = 0
      · subst hc
        have hfz2 := HFZ.out
        rw [HFE.out HFB.out] at hfz2
        have HFZ2 := Lib.hid hfz2
        clear hfz2 HFZ HFE
        go_wp2_with fail
        obtain ⟨c0, c1, c2, c3, c4⟩ := lg_cells HL5.out
        have y1 := Lib.frozen_of_heap HL5.out 1
        have y2 := Lib.frozen_of_heap HL5.out 2
        have y3 := Lib.frozen_of_heap HL5.out 3
        go_region_with (first
          | (go_at_call 30; (with_reducible refine (HFZ2.out _).mono ?_); rintro e w' ⟨rfl, rfl⟩))
        all_goals
          clear c0 c1 c2 c3 c4 y1 y2 y3
          go_wp2_with fail
          go_ret
          rw [HV.out, if_neg (by decide), HRR.out, if_pos rfl]
          exact snap_end HL5.out HK.out.1 HK.out.2.1 HK.out.2.2.1 HK.out.2.2.2 HEE.out.2 HEE.out.1
      · have hc1 : (c == 0) = false := beq_eq_false_iff_ne.2 hc
        have HC := Lib.hid hc
        clear hc
        go_wp2_with fail
        go_ret
        rw [HV.out, if_neg (by decide), HRR.out, if_neg HC.out]
        refine ⟨rfl, S', HK.out.1, ?_, HK.out.2.1, HK.out.2.2.1, HK.out.2.2.2⟩
        have h4 := HL5.out
        rw [decide_eq_true HC.out] at h4
        exact h4
end Go.Proofs.Ytembnjpflllpbaa
