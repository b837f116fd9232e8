/- The program's disk and the document's, side by side: what each step does of a state, and that both do it. -/
import Derived.Test.YtndenbcdhbnamaaDisk8
import Derived.Test.YtndenbcdhbnamaaRDisk4
import Derived.Test.YtndenbcdhbnamaaRDisk6
namespace Go.Proofs.Ytndenbcdhbnamaa
open Go.RowKit
set_option linter.unusedVariables false
set_option linter.unusedSimpArgs false

/-- A disk's state: the bytes that stay, the writes that wait, the steps left, broken. -/
structure DSt where
  st : ByteArray
  wl : List (Nat × ByteArray)
  left : Int
  bad : Bool
def mayS (D : DSt) (k n : Int) : Prop := 0 ≤ k ∧ 0 ≤ n ∧ k ≤ (D.st.size : Int) - n
instance (D : DSt) (k n : Int) : Decidable (mayS D k n) := inferInstanceAs (Decidable (_ ∧ _))
def wrS (D : DSt) (k : Int) (s : ByteArray) : DSt × Int :=
  if mayS D k s.size then (if D.bad then (D, 18) else (⟨D.st, D.wl ++ [(k.toNat, s)], stepL D.left, stepB D.left false⟩, if stepB D.left false then 18 else 0)) else (D, 1)
def rdS (D : DSt) (k n : Int) : ByteArray × Int :=
  if mayS D k n then (if D.bad then (⟨#[]⟩, 18) else ((nowB D.st D.wl).extract k.toNat (k.toNat + n.toNat), 0)) else (⟨#[]⟩, 1)
def syS (D : DSt) : DSt × Int :=
  if D.bad then (D, 18) else if D.left = 1 then (⟨D.st, D.wl, 0, true⟩, 18) else (⟨nowB D.st D.wl, [], stepL D.left, false⟩, 0)
def crS (D : DSt) (keep : Int) : DSt × Nat := (⟨(crashS D.wl keep D.st 0).1, [], 0, false⟩, (crashS D.wl keep D.st 0).2)
def brS (D : DSt) (n : Int) : DSt := if D.bad then D else ⟨D.st, D.wl, brkL n, false⟩

/-- The two disks, made since the world w0. -/
structure PK (w0 w : World) (d q : Nat) (D R : DSt) : Prop where
  ex : ∃ ps pn v r vs rs v' r', DK w d ps pn v r D.st (nowB D.st D.wl) D.wl D.left D.bad ∧ RK w q vs rs v' r' R.st R.wl R.left R.bad ∧ (∀ k, k ∈ d :: ps :: pn :: r → w0.heap.size ≤ k) ∧ (∀ k, k ∈ q :: (rs ++ r') → w0.heap.size ≤ k) ∧ (∀ k, k ∈ d :: ps :: pn :: r → k ∉ q :: (rs ++ r'))
  fr : Fr [] w0 w
theorem RK.lt {w : World} {b : Nat} {vs v : Value} {rs r : List Nat} {st : ByteArray} {wl : List (Nat × ByteArray)} {left : Int} {bad : Bool} (h : RK w b vs rs v r st wl left bad) : ∀ k, k ∈ b :: (rs ++ r) → k < w.heap.size := by
  intro x hx
  simp only [List.mem_cons, List.mem_append] at hx
  rcases hx with rfl | hx | hx
  · exact lt_of_heap h.blk
  · exact h.stay.lt x hx
  · exact h.wait.lt x hx
theorem PK.other {w0 w w' : World} {d q : Nat} {D R : DSt} (h : PK w0 w d q D R) (hf : Fr [] w w') : PK w0 w' d q D R := by
  obtain ⟨⟨ps, pn, v, r, vs, rs, v', r', h1, h2, h3, h4, h5⟩, h6⟩ := h
  exact ⟨⟨ps, pn, v, r, vs, rs, v', r', h1.keep hf (by simp), h2.keep hf (by simp), h3, h4, h5⟩, h6.then hf⟩
/-- The program's disk has gone a step. -/
theorem PK.stepD {w0 w w' : World} {d q : Nat} {D R D' : DSt} (h : PK w0 w d q D R) (hs : ∀ ps pn v r, DK w d ps pn v r D.st (nowB D.st D.wl) D.wl D.left D.bad → ∃ v2 r2, DK w' d ps pn v2 r2 D'.st (nowB D'.st D'.wl) D'.wl D'.left D'.bad ∧ Fr (d :: ps :: pn :: r) w w' ∧ ∀ k, k ∈ r2 → k ∈ r ∨ w.heap.size ≤ k) : PK w0 w' d q D' R := by
  obtain ⟨⟨ps, pn, v, r, vs, rs, v', r', h1, h2, h3, h4, h5⟩, h6⟩ := h
  obtain ⟨v2, r2, g1, g2, g3⟩ := hs ps pn v r h1
  refine ⟨⟨ps, pn, v2, r2, vs, rs, v', r', g1, h2.keep g2 (fun k hk hm => h5 k hm hk), fun k hk => ?_, h4, fun k hk hm => ?_⟩, h6.trans g2 (fun k hk => .inr (h3 k hk))⟩
  · simp only [List.mem_cons] at hk
    rcases hk with h | h | h | h
    · exact h3 k (by simp [h])
    · exact h3 k (by simp [h])
    · exact h3 k (by simp [h])
    · rcases g3 k h with h | h
      · exact h3 k (by simp [h])
      · exact Nat.le_trans h6.size h
  · simp only [List.mem_cons] at hk
    rcases hk with h | h | h | h
    · exact h5 k (by simp [h]) hm
    · exact h5 k (by simp [h]) hm
    · exact h5 k (by simp [h]) hm
    · rcases g3 k h with h | h
      · exact h5 k (by simp [h]) hm
      · have := h2.lt k hm; omega
/-- The document's disk has gone a step. -/
theorem PK.stepR {w0 w w' : World} {d q : Nat} {D R R' : DSt} (h : PK w0 w d q D R) (hs : ∀ vs rs v r, RK w q vs rs v r R.st R.wl R.left R.bad → ∃ vs2 rs2 v2 r2, RK w' q vs2 rs2 v2 r2 R'.st R'.wl R'.left R'.bad ∧ Fr (q :: (rs ++ r)) w w' ∧ ∀ k, k ∈ rs2 ++ r2 → k ∈ rs ++ r ∨ w.heap.size ≤ k) : PK w0 w' d q D R' := by
  obtain ⟨⟨ps, pn, v, r, vs, rs, v', r', h1, h2, h3, h4, h5⟩, h6⟩ := h
  obtain ⟨vs2, rs2, v2, r2, g1, g2, g3⟩ := hs vs rs v' r' h2
  refine ⟨⟨ps, pn, v, r, vs2, rs2, v2, r2, h1.keep g2 h5, g1, h3, fun k hk => ?_, fun k hk hm => ?_⟩, h6.trans g2 (fun k hk => .inr (h4 k hk))⟩
  · rw [List.mem_cons] at hk
    rcases hk with h | h
    · exact h4 k (by simp [h])
    · rcases g3 k h with h | h
      · exact h4 k (List.mem_cons_of_mem _ h)
      · exact Nat.le_trans h6.size h
  · rw [List.mem_cons] at hm
    rcases hm with h | h
    · exact h5 k hk (by simp [h])
    · rcases g3 k h with h | h
      · exact h5 k hk (List.mem_cons_of_mem _ h)
      · have := h1.lt k hk; omega
theorem PK.fitD {w0 w : World} {d q : Nat} {D R : DSt} (h : PK w0 w d q D R) : (∀ x, x ∈ D.wl → x.1 + x.2.size ≤ D.st.size) ∧ D.st.size ≤ 131072 := by
  obtain ⟨⟨ps, pn, v, r, vs, rs, v', r', h1, -⟩, -⟩ := h
  exact ⟨h1.fit, h1.big⟩

/-! ### the program's -/
theorem dWrite_calls (w0 w : World) (d q : Nat) (D R : DSt) (h : PK w0 w d q D R) (k : Int) (hk : Bd .i64 k) (s : ByteArray) (hs : s.size ≤ 9223372036854775807) (hm : D.wl.length < 1000000) {D' : DSt} {c : Int} (he : wrS D k s = (D', c)) :
    Calls Try.prog 12 #[.pointer (some ⟨d, 0, none⟩), .int .i64 k, .string s] w fun e w' => e = .returned (.int .i64 c) ∧ PK w0 w' d q D' R := by
  obtain ⟨⟨ps, pn, v, r, vs, rs, v', r', h1, h2, h3, h4, h5⟩, h6⟩ := id h
  obtain ⟨st, wl, left, bad⟩ := D
  unfold wrS mayS at he
  simp only at he h1 hm
  split at he
  · rename_i hmay
    obtain ⟨kn, rfl⟩ : ∃ kn : Nat, k = (kn : Int) := ⟨k.toNat, by omega⟩
    cases bad with
    | true =>
      simp at he
      obtain ⟨rfl, rfl⟩ := he
      refine (Write_bad_calls w d ps pn v r st _ wl left h1 kn rfl s (by omega)).mono ?_
      rintro e w' ⟨rfl, rfl⟩
      exact ⟨rfl, h⟩
    | false =>
      simp only [Bool.false_eq_true, if_false, Prod.mk.injEq, Int.toNat_natCast] at he
      obtain ⟨rfl, rfl⟩ := he
      refine (Write_calls w d ps pn v r st _ wl left h1 kn rfl s (by omega) hm).mono ?_
      rintro e w' ⟨rfl, v2, r2, g1, g2, g3⟩
      refine ⟨rfl, ⟨⟨ps, pn, v2, r2, vs, rs, v', r', ?_, h2.keep g2 (fun k hk hm => h5 k hm hk), fun k hk => ?_, h4, fun k hk hm => ?_⟩, h6.trans g2 (fun k hk => .inr (h3 k hk))⟩⟩
      · rw [nowB_snoc]
        exact g1
      · simp only [List.mem_cons] at hk
        rcases hk with h | h | h | h
        · exact h3 k (by simp [h])
        · exact h3 k (by simp [h])
        · exact h3 k (by simp [h])
        · rcases g3 k h with h | h
          · exact h3 k (by simp [h])
          · exact Nat.le_trans h6.size h
      · simp only [List.mem_cons] at hk
        rcases hk with h | h | h | h
        · exact h5 k (by simp [h]) hm
        · exact h5 k (by simp [h]) hm
        · exact h5 k (by simp [h]) hm
        · rcases g3 k h with h | h
          · exact h5 k (by simp [h]) hm
          · have := h2.lt k hm; omega
  · rename_i hmay
    simp at he
    obtain ⟨rfl, rfl⟩ := he
    refine (Write_arg_calls w d ps pn v r st _ wl left bad h1 k hk s hs hmay).mono ?_
    rintro e w' ⟨rfl, rfl⟩
    exact ⟨rfl, h⟩
theorem dRead_calls (w0 w : World) (d q : Nat) (D R : DSt) (h : PK w0 w d q D R) (k n : Int) (hk : Bd .i64 k) (hn : Bd .i64 n) {t : ByteArray} {c : Int} (he : rdS D k n = (t, c)) :
    Calls Try.prog 15 #[.pointer (some ⟨d, 0, none⟩), .int .i64 k, .int .i64 n] w fun e w' => e = .returned (.tuple #[.string t, .int .i64 c]) ∧ PK w0 w' d q D R := by
  obtain ⟨⟨ps, pn, v, r, vs, rs, v', r', h1, h2, h3, h4, h5⟩, h6⟩ := id h
  obtain ⟨st, wl, left, bad⟩ := D
  unfold rdS mayS at he
  simp only at he h1
  split at he
  · rename_i hmay
    obtain ⟨kn, rfl⟩ : ∃ kn : Nat, k = (kn : Int) := ⟨k.toNat, by omega⟩
    obtain ⟨nn, rfl⟩ : ∃ nn : Nat, n = (nn : Int) := ⟨n.toNat, by omega⟩
    cases bad with
    | true =>
      simp at he
      obtain ⟨rfl, rfl⟩ := he
      refine (Read_bad_calls w d ps pn v r st _ wl left h1 kn nn rfl rfl (by omega)).mono ?_
      rintro e w' ⟨rfl, rfl⟩
      exact ⟨rfl, h⟩
    | false =>
      simp only [Bool.false_eq_true, if_false, Prod.mk.injEq, Int.toNat_natCast] at he
      obtain ⟨rfl, rfl⟩ := he
      refine (Read_calls w d ps pn v r st _ wl left h1 kn nn rfl rfl (by omega)).mono ?_
      rintro e w' ⟨rfl, rfl⟩
      exact ⟨rfl, h⟩
  · rename_i hmay
    simp at he
    obtain ⟨rfl, rfl⟩ := he
    refine (Read_arg_calls w d ps pn v r st _ wl left bad h1 k n hk hn hmay).mono ?_
    rintro e w' ⟨rfl, rfl⟩
    exact ⟨rfl, h⟩
theorem dSync_calls (w0 w : World) (d q : Nat) (D R : DSt) (h : PK w0 w d q D R) {D' : DSt} {c : Int} (he : syS D = (D', c)) :
    Calls Try.prog 16 #[.pointer (some ⟨d, 0, none⟩)] w fun e w' => e = .returned (.int .i64 c) ∧ PK w0 w' d q D' R := by
  obtain ⟨⟨ps, pn, v, r, vs, rs, v', r', h1, h2, h3, h4, h5⟩, h6⟩ := id h
  obtain ⟨st, wl, left, bad⟩ := D
  unfold syS at he
  simp only at he h1
  have hS : ∀ {w' : World} {v2 : Value} {D' : DSt}, DK w' d ps pn v2 r D'.st (nowB D'.st D'.wl) D'.wl D'.left D'.bad → Fr (d :: ps :: r) w w' → PK w0 w' d q D' R := fun g1 g2 =>
    ⟨⟨ps, pn, _, r, vs, rs, v', r', g1, h2.keep g2 (fun k hk hm => h5 k (by simp only [List.mem_cons] at hm ⊢; rcases hm with h | h | h <;> simp [h]) hk), h3, h4, h5⟩, h6.trans g2 (fun k hk => .inr (h3 k (by simp only [List.mem_cons] at hk ⊢; rcases hk with h | h | h <;> simp [h])))⟩
  cases bad with
  | true =>
    simp at he
    obtain ⟨rfl, rfl⟩ := he
    refine (Sync_bad_calls w d ps pn v r st _ wl left h1).mono ?_
    rintro e w' ⟨rfl, rfl⟩
    exact ⟨rfl, h⟩
  | false =>
    simp only [Bool.false_eq_true, if_false] at he
    split at he
    · rename_i hl
      subst hl
      simp at he
      obtain ⟨rfl, rfl⟩ := he
      refine (Sync_break_calls w d ps pn v r st _ wl h1).mono ?_
      rintro e w' ⟨rfl, g1, g2⟩
      exact ⟨rfl, hS (D' := ⟨st, wl, 0, true⟩) g1 (g2.mono (fun k hk _ => by simp at hk; simp [hk]))⟩
    · rename_i hl
      simp at he
      obtain ⟨rfl, rfl⟩ := he
      refine (Sync_calls w d ps pn v r st _ wl left h1 hl).mono ?_
      rintro e w' ⟨rfl, v2, g1, g2⟩
      exact ⟨rfl, hS (D' := ⟨nowB st wl, [], stepL left, false⟩) g1 g2⟩
theorem dCrash_calls (w0 w : World) (d q : Nat) (D R : DSt) (h : PK w0 w d q D R) (keep : Int) (hk : Bd .i64 keep) {D' : DSt} {c : Nat} (he : crS D keep = (D', c)) :
    Calls Try.prog 14 #[.pointer (some ⟨d, 0, none⟩), .int .i64 keep] w fun e w' => e = .returned (.int .i64 c) ∧ PK w0 w' d q D' R := by
  obtain ⟨⟨ps, pn, v, r, vs, rs, v', r', h1, h2, h3, h4, h5⟩, h6⟩ := id h
  unfold crS at he
  injection he with he1 he2
  subst he1 he2
  refine (Crash_calls w d ps pn v r D.st _ D.wl D.left D.bad h1 keep hk.i64.1 hk.i64.2).mono ?_
  rintro e w' ⟨rfl, v2, g1, g2⟩
  exact ⟨rfl, ⟨⟨ps, pn, v2, r, vs, rs, v', r', g1, h2.keep g2 (fun k hk hm => h5 k hm hk), h3, h4, h5⟩, h6.trans g2 (fun k hk => .inr (h3 k hk))⟩⟩
theorem dBreak_calls (w0 w : World) (d q : Nat) (D R : DSt) (h : PK w0 w d q D R) (n : Int) (hn : Bd .i64 n) :
    Calls Try.prog 17 #[.pointer (some ⟨d, 0, none⟩), .int .i64 n] w fun e w' => e = .returned (.tuple #[]) ∧ PK w0 w' d q (brS D n) R := by
  obtain ⟨⟨ps, pn, v, r, vs, rs, v', r', h1, h2, h3, h4, h5⟩, h6⟩ := id h
  obtain ⟨st, wl, left, bad⟩ := D
  unfold brS
  simp only at h1 ⊢
  cases bad with
  | true =>
    refine (Break_bad_calls w d ps pn v r st _ wl left h1 n).mono ?_
    rintro e w' ⟨rfl, rfl⟩
    exact ⟨rfl, h⟩
  | false =>
    refine (Break_any_calls w d ps pn v r st _ wl left h1 n hn).mono ?_
    rintro e w' ⟨rfl, g1, g2⟩
    exact ⟨rfl, ⟨⟨ps, pn, v, r, vs, rs, v', r', g1, h2.keep g2 (fun k hk hm => h5 k (by simp at hm; simp [hm]) hk), h3, h4, h5⟩, h6.trans g2 (fun k hk => .inr (h3 k (by simp at hk; simp [hk])))⟩⟩
theorem dPending_calls (w0 w : World) (d q : Nat) (D R : DSt) (h : PK w0 w d q D R) :
    Calls Try.prog 13 #[.pointer (some ⟨d, 0, none⟩)] w fun e w' => e = .returned (.int .i64 (pend D.wl)) ∧ PK w0 w' d q D R := by
  obtain ⟨⟨ps, pn, v, r, vs, rs, v', r', h1, h2, h3, h4, h5⟩, h6⟩ := id h
  refine (Pending_calls w d ps pn v r _ _ _ _ _ h1).mono ?_
  rintro e w' ⟨rfl, hf⟩
  exact ⟨rfl, h.other hf⟩
theorem dBroken_calls (w0 w : World) (d q : Nat) (D R : DSt) (h : PK w0 w d q D R) :
    Calls Try.prog 18 #[.pointer (some ⟨d, 0, none⟩)] w fun e w' => e = .returned (.bool D.bad) ∧ w = w' := by
  obtain ⟨⟨ps, pn, v, r, vs, rs, v', r', h1, h2, h3, h4, h5⟩, h6⟩ := id h
  exact Broken_calls w d ps pn v r _ _ _ _ _ h1
theorem dSize_calls (w0 w : World) (d q : Nat) (D R : DSt) (h : PK w0 w d q D R) :
    Calls Try.prog 26 #[.pointer (some ⟨d, 0, none⟩)] w fun e w' => e = .returned (.int .i64 D.st.size) ∧ w = w' := by
  obtain ⟨⟨ps, pn, v, r, vs, rs, v', r', h1, h2, h3, h4, h5⟩, h6⟩ := id h
  exact Size_calls w d ps pn v r _ _ _ _ _ h1

/-! ### the document's -/
theorem rWriteP (w0 w : World) (d q : Nat) (D R : DSt) (h : PK w0 w d q D R) (k : Int) (hk : Bd .i64 k) (s : ByteArray) (hs : s.size ≤ 9223372036854775807) (hm : R.wl.length < 1000000) {R' : DSt} {c : Int} (he : wrS R k s = (R', c)) :
    Calls Try.prog 24 #[.pointer (some ⟨q, 0, none⟩), .int .i64 k, .string s] w fun e w' => e = .returned (.int .i64 c) ∧ PK w0 w' d q D R' := by
  obtain ⟨⟨ps, pn, v, r, vs, rs, v', r', h1, h2, h3, h4, h5⟩, h6⟩ := id h
  obtain ⟨st, wl, left, bad⟩ := R
  unfold wrS mayS at he
  simp only at he h2 hm
  split at he
  · rename_i hmay
    obtain ⟨kn, rfl⟩ : ∃ kn : Nat, k = (kn : Int) := ⟨k.toNat, by omega⟩
    cases bad with
    | true =>
      simp at he
      obtain ⟨rfl, rfl⟩ := he
      refine (rWrite_bad w q vs rs v' r' st wl left h2 kn rfl s (by omega)).mono ?_
      rintro e w' ⟨rfl, hw⟩
      rw [hw]
      exact ⟨rfl, h⟩
    | false =>
      simp only [Bool.false_eq_true, if_false, Prod.mk.injEq, Int.toNat_natCast] at he
      obtain ⟨rfl, rfl⟩ := he
      refine (rWrite_calls w q vs rs v' r' st wl left h2 kn rfl s (by omega) hm).mono ?_
      rintro e w' ⟨rfl, v2, r2, g1, g2, g3⟩
      refine ⟨rfl, ⟨⟨ps, pn, v, r, vs, rs, v2, r2, h1.keep g2 (fun k hk hm => h5 k hk (by simp only [List.mem_cons, List.mem_append] at hm ⊢; rcases hm with h | h <;> simp [h])), g1, h3, fun k hk => ?_, fun k hk hm => ?_⟩, h6.trans g2 (fun k hk => .inr (h4 k (by simp only [List.mem_cons, List.mem_append] at hk ⊢; rcases hk with h | h <;> simp [h])))⟩⟩
      · simp only [List.mem_cons, List.mem_append] at hk
        rcases hk with h | h | h
        · exact h4 k (by simp [h])
        · exact h4 k (by simp [h])
        · rcases g3 k h with h | h
          · exact h4 k (by simp [h])
          · exact Nat.le_trans h6.size h
      · simp only [List.mem_cons, List.mem_append] at hm
        rcases hm with h | h | h
        · exact h5 k hk (by simp [h])
        · exact h5 k hk (by simp [h])
        · rcases g3 k h with h | h
          · exact h5 k hk (by simp [h])
          · have := h1.lt k hk; omega
  · rename_i hmay
    simp at he
    obtain ⟨rfl, rfl⟩ := he
    refine (rWrite_arg w q vs rs v' r' st wl left bad h2 k hk s hs hmay).mono ?_
    rintro e w' ⟨rfl, hw⟩
    rw [hw]
    exact ⟨rfl, h⟩
theorem rReadP (w0 w : World) (d q : Nat) (D R : DSt) (h : PK w0 w d q D R) (h0 : 0 < R.st.size) (k n : Int) (hk : Bd .i64 k) (hn : Bd .i64 n) {t : ByteArray} {c : Int} (he : rdS R k n = (t, c)) :
    Calls Try.prog 20 #[.pointer (some ⟨q, 0, none⟩), .int .i64 k, .int .i64 n] w fun e w' => e = .returned (.tuple #[.string t, .int .i64 c]) ∧ PK w0 w' d q D R := by
  obtain ⟨⟨ps, pn, v, r, vs, rs, v', r', h1, h2, h3, h4, h5⟩, h6⟩ := id h
  obtain ⟨st, wl, left, bad⟩ := R
  unfold rdS mayS at he
  simp only at he h2 h0
  split at he
  · rename_i hmay
    cases bad with
    | true =>
      simp at he
      obtain ⟨rfl, rfl⟩ := he
      refine (rRead_bad w q vs rs v' r' st wl left h2 k n hk hn hmay).mono ?_
      rintro e w' ⟨rfl, hw⟩
      rw [hw]
      exact ⟨rfl, h⟩
    | false =>
      obtain ⟨kn, rfl⟩ : ∃ kn : Nat, k = (kn : Int) := ⟨k.toNat, by omega⟩
      obtain ⟨nn, rfl⟩ : ∃ nn : Nat, n = (nn : Int) := ⟨n.toNat, by omega⟩
      simp only [Bool.false_eq_true, if_false, Prod.mk.injEq, Int.toNat_natCast] at he
      obtain ⟨rfl, rfl⟩ := he
      refine (rRead_calls w q vs rs v' r' st wl left h2 h0 kn nn rfl rfl (by omega)).mono ?_
      rintro e w' ⟨rfl, hf⟩
      exact ⟨rfl, h.other hf⟩
  · rename_i hmay
    simp at he
    obtain ⟨rfl, rfl⟩ := he
    refine (rRead_arg w q vs rs v' r' st wl left bad h2 k n hk hn hmay).mono ?_
    rintro e w' ⟨rfl, hw⟩
    rw [hw]
    exact ⟨rfl, h⟩
theorem rSyncP (w0 w : World) (d q : Nat) (D R : DSt) (h : PK w0 w d q D R) (h0 : 0 < R.st.size) {R' : DSt} {c : Int} (he : syS R = (R', c)) :
    Calls Try.prog 21 #[.pointer (some ⟨q, 0, none⟩)] w fun e w' => e = .returned (.int .i64 c) ∧ PK w0 w' d q D R' := by
  obtain ⟨⟨ps, pn, v, r, vs, rs, v', r', h1, h2, h3, h4, h5⟩, h6⟩ := id h
  obtain ⟨st, wl, left, bad⟩ := R
  unfold syS at he
  simp only at he h2 h0
  cases bad with
  | true =>
    simp at he
    obtain ⟨rfl, rfl⟩ := he
    refine (rSync_bad w q vs rs v' r' st wl left h2).mono ?_
    rintro e w' ⟨rfl, hw⟩
    rw [hw]
    exact ⟨rfl, h⟩
  | false =>
    simp only [Bool.false_eq_true, if_false] at he
    split at he
    · rename_i hl
      subst hl
      simp at he
      obtain ⟨rfl, rfl⟩ := he
      refine (rSync_break w q vs rs v' r' st wl h2).mono ?_
      rintro e w' ⟨rfl, g1, g2⟩
      exact ⟨rfl, ⟨⟨ps, pn, v, r, vs, rs, v', r', h1.keep g2 (fun k hk hm => h5 k hk (by simp at hm; simp [hm])), g1, h3, h4, h5⟩, h6.trans g2 (fun k hk => .inr (h4 k (by simp at hk; simp [hk])))⟩⟩
    · rename_i hl
      simp at he
      obtain ⟨rfl, rfl⟩ := he
      refine (rSync_calls w q vs rs v' r' st wl left h2 h0 hl).mono ?_
      rintro e w' ⟨rfl, vs2, rs2, g1, g2, g3⟩
      refine ⟨rfl, ⟨⟨ps, pn, v, r, vs2, rs2, _, [], h1.keep g2 (fun k hk hm => h5 k hk (by simp at hm; simp [hm])), g1, h3, fun k hk => ?_, fun k hk hm => ?_⟩, h6.trans g2 (fun k hk => .inr (h4 k (by simp at hk; simp [hk])))⟩⟩
      · simp only [List.append_nil, List.mem_cons] at hk
        rcases hk with h | h
        · exact h4 k (by simp [h])
        · rcases g3 k h with h | h
          · exact h4 k (by simp [h])
          · exact Nat.le_trans h6.size h
      · simp only [List.append_nil, List.mem_cons] at hm
        rcases hm with h | h
        · exact h5 k hk (by simp [h])
        · rcases g3 k h with h | h
          · exact h5 k hk (by simp [h])
          · have := h1.lt k hk; omega
theorem rCrashP (w0 w : World) (d q : Nat) (D R : DSt) (h : PK w0 w d q D R) (h0 : 0 < R.st.size) (keep : Int) (hk : Bd .i64 keep) {R' : DSt} {c : Nat} (he : crS R keep = (R', c)) :
    Calls Try.prog 22 #[.pointer (some ⟨q, 0, none⟩), .int .i64 keep] w fun e w' => e = .returned (.int .i64 c) ∧ PK w0 w' d q D R' := by
  obtain ⟨⟨ps, pn, v, r, vs, rs, v', r', h1, h2, h3, h4, h5⟩, h6⟩ := id h
  unfold crS at he
  injection he with he1 he2
  subst he1 he2
  refine (rCrash_calls w q vs rs v' r' R.st R.wl R.left R.bad h2 h0 keep hk rfl).mono ?_
  rintro e w' ⟨rfl, vs2, rs2, g1, g2, g3⟩
  refine ⟨rfl, ⟨⟨ps, pn, v, r, vs2, rs2, _, [], h1.keep g2 (fun k hk hm => h5 k hk (by simp at hm; simp [hm])), g1, h3, fun k hk => ?_, fun k hk hm => ?_⟩, h6.trans g2 (fun k hk => .inr (h4 k (by simp at hk; simp [hk])))⟩⟩
  · simp only [List.append_nil, List.mem_cons] at hk
    rcases hk with h | h
    · exact h4 k (by simp [h])
    · rcases g3 k h with h | h
      · exact h4 k (by simp [h])
      · exact Nat.le_trans h6.size h
  · simp only [List.append_nil, List.mem_cons] at hm
    rcases hm with h | h
    · exact h5 k hk (by simp [h])
    · rcases g3 k h with h | h
      · exact h5 k hk (by simp [h])
      · have := h1.lt k hk; omega
theorem rBreakP (w0 w : World) (d q : Nat) (D R : DSt) (h : PK w0 w d q D R) (n : Int) (hn : Bd .i64 n) :
    Calls Try.prog 23 #[.pointer (some ⟨q, 0, none⟩), .int .i64 n] w fun e w' => e = .returned (.tuple #[]) ∧ PK w0 w' d q D (brS R n) := by
  obtain ⟨⟨ps, pn, v, r, vs, rs, v', r', h1, h2, h3, h4, h5⟩, h6⟩ := id h
  obtain ⟨st, wl, left, bad⟩ := R
  unfold brS
  simp only at h2 ⊢
  cases bad with
  | true =>
    refine (rbreak_bad w q vs rs v' r' st wl left h2 n).mono ?_
    rintro e w' ⟨rfl, hw⟩
    rw [hw]
    exact ⟨rfl, h⟩
  | false =>
    refine (rbreak_calls w q vs rs v' r' st wl left h2 n hn).mono ?_
    rintro e w' ⟨rfl, g1, g2⟩
    exact ⟨rfl, ⟨⟨ps, pn, v, r, vs, rs, v', r', h1.keep g2 (fun k hk hm => h5 k hk (by simp at hm; simp [hm])), g1, h3, h4, h5⟩, h6.trans g2 (fun k hk => .inr (h4 k (by simp at hk; simp [hk])))⟩⟩
theorem rPendingP (w0 w : World) (d q : Nat) (D R : DSt) (h : PK w0 w d q D R) :
    Calls Try.prog 25 #[.pointer (some ⟨q, 0, none⟩)] w fun e w' => e = .returned (.int .i64 (pend R.wl)) ∧ w' = w := by
  obtain ⟨⟨ps, pn, v, r, vs, rs, v', r', h1, h2, h3, h4, h5⟩, h6⟩ := id h
  exact rpending_calls w q vs rs v' r' _ _ _ _ h2
/-- Both made. -/
theorem PK.make {w0 w w' : World} {d ps pn q : Nat} {vs : Value} {rs : List Nat} {Z : ByteArray} (h : DN w0 w d ps pn (.slice none 0 0) [] Z Z [] 0 false) (hr : RK w' q vs rs (.slice none 0 0) [] Z [] 0 false) (hf : Fr [] w w') (hn : ∀ k, k ∈ q :: rs → w.heap.size ≤ k) : PK w0 w' d q ⟨Z, [], 0, false⟩ ⟨Z, [], 0, false⟩ := by
  refine ⟨⟨ps, pn, _, [], vs, rs, _, [], h.dk.keep hf (by simp), hr, h.new, fun k hk => Nat.le_trans h.fr.size (hn k (by simpa using hk)), fun k hk hm => ?_⟩, h.fr.then hf⟩
  have h1 := h.dk.lt k hk
  have h2 := hn k (by simpa using hm)
  omega

/-! ### sizes -/
theorem wrS_keep {D D' : DSt} {k : Int} {s : ByteArray} {c : Int} (he : wrS D k s = (D', c)) : D'.st.size = D.st.size ∧ D'.wl.length ≤ D.wl.length + 1 := by
  unfold wrS at he
  split at he
  · split at he
    · injection he with he _; subst he; exact ⟨rfl, Nat.le_succ _⟩
    · injection he with he _; subst he; exact ⟨rfl, by simp⟩
  · injection he with he _; subst he; exact ⟨rfl, Nat.le_succ _⟩
theorem syS_keep {D D' : DSt} {c : Int} (hf : ∀ x, x ∈ D.wl → x.1 + x.2.size ≤ D.st.size) (he : syS D = (D', c)) : D'.st.size = D.st.size ∧ D'.wl.length ≤ D.wl.length + 1 := by
  unfold syS at he
  split at he
  · injection he with he _; subst he; exact ⟨rfl, Nat.le_succ _⟩
  · split at he
    · injection he with he _; subst he; exact ⟨rfl, Nat.le_succ _⟩
    · injection he with he _; subst he; exact ⟨nowB_size _ _ hf, Nat.zero_le _⟩
theorem crashS_size : ∀ (wl : List (Nat × ByteArray)) (keep : Int) (st : ByteArray) (lost : Nat), (∀ x, x ∈ wl → x.1 + x.2.size ≤ st.size) → (crashS wl keep st lost).1.size = st.size := by
  intro wl
  induction wl with
  | nil => intro keep st lost _; rfl
  | cons x wl ih =>
    intro keep st lost h
    obtain ⟨k, s⟩ := x
    have hx := h (k, s) (by simp)
    have hc : (s.extract 0 (min keep.toNat s.size)).size ≤ s.size := by rw [ByteArray.size_extract]; omega
    have hz := ovB_size (t := st) (off := k) (s := s.extract 0 (min keep.toNat s.size)) (by simp only at hx; omega)
    rw [crashS, ih _ _ _ (fun y hy => by rw [hz]; exact h y (by simp [hy])), hz]
theorem crS_keep {D D' : DSt} {keep : Int} {c : Nat} (hf : ∀ x, x ∈ D.wl → x.1 + x.2.size ≤ D.st.size) (he : crS D keep = (D', c)) : D'.st.size = D.st.size ∧ D'.wl.length ≤ D.wl.length + 1 := by
  unfold crS at he
  injection he with he _
  subst he
  exact ⟨crashS_size _ _ _ _ hf, Nat.zero_le _⟩
theorem brS_keep (D : DSt) (n : Int) : (brS D n).st.size = D.st.size ∧ (brS D n).wl.length ≤ D.wl.length + 1 := by
  unfold brS
  split
  · exact ⟨rfl, Nat.le_succ _⟩
  · exact ⟨rfl, Nat.le_succ _⟩
end Go.Proofs.Ytndenbcdhbnamaa
