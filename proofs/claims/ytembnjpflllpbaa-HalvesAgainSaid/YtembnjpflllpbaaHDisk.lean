/- A disk alone: where it lies, what each step does of its state, and that the program's disk does it. -/
import Derived.Test.YtembnjpflllpbaaDisk8
namespace Go.Proofs.Ytembnjpflllpbaa
open Go.RowKit
set_option linter.unusedVariables false
set_option linter.unusedSimpArgs false

/-- A disk's state: the bytes that stay, the writes that wait, the steps left, broken. -/
structure DSt where
  st : ByteArray
  wl : List (Nat × ByteArray)
  left : Int
  bad : Bool
def mayS (D : DSt) (k n : Int) : Prop := 0 ≤ k ∧ 0 ≤ n ∧ k ≤ (D.st.size : Int) - n
instance (D : DSt) (k n : Int) : Decidable (mayS D k n) := inferInstanceAs (Decidable (_ ∧ _))
def wrS (D : DSt) (k : Int) (s : ByteArray) : DSt × Int :=
  if mayS D k s.size then (if D.bad then (D, 18) else (⟨D.st, D.wl ++ [(k.toNat, s)], stepL D.left, stepB D.left false⟩, if stepB D.left false then 18 else 0)) else (D, 1)
def rdS (D : DSt) (k n : Int) : ByteArray × Int :=
  if mayS D k n then (if D.bad then (⟨#[]⟩, 18) else ((nowB D.st D.wl).extract k.toNat (k.toNat + n.toNat), 0)) else (⟨#[]⟩, 1)
def syS (D : DSt) : DSt × Int :=
  if D.bad then (D, 18) else if D.left = 1 then (⟨D.st, D.wl, 0, true⟩, 18) else (⟨nowB D.st D.wl, [], stepL D.left, false⟩, 0)
def crS (D : DSt) (keep : Int) : DSt × Nat := (⟨(crashS D.wl keep D.st 0).1, [], 0, false⟩, (crashS D.wl keep D.st 0).2)
def brS (D : DSt) (n : Int) : DSt := if D.bad then D else ⟨D.st, D.wl, brkL n, false⟩

theorem blk_set {w : World} {b : Nat} {cs : Array Value} {T : TypeId} (j : Nat) (v : Value) (h : w.heap[b]? = some (.cells cs T (0, 0))) : (w.setCell ⟨b, j, none⟩ v).heap[b]? = some (.cells (cs.setIfInBounds j v) T (0, 0)) := by
  rw [setCell_eq_setRow w b j cs T (0, 0) v h]
  exact setRow_heap w b cs _ T (0, 0) h
theorem blk_keep {w w' : World} {E : Nat} {o : Obj} {S : List Nat} (h : w.heap[E]? = some o) (hf : Fr S w w') (hd : E ∉ S) : w'.heap[E]? = some o := (hf.block E (lt_of_heap h) hd).trans h
theorem blk_oth {w : World} {b E j : Nat} {v : Value} {o : Obj} (h : w.heap[b]? = some o) (hE : b ≠ E) : (w.setCell ⟨E, j, none⟩ v).heap[b]? = some o :=
  blk_keep h ((Fr.refl [E] w).setCell (.inl (by simp)) v) (by simpa using hE)
theorem alloc_keep {w : World} {R : Nat} {o x : Obj} (h : w.heap[R]? = some x) : (w.alloc o).heap[R]? = some x := by rw [((Fr.refl [] w).alloc o).block R (lt_of_heap h) (by simp)]; exact h
/-- A disk in block d, of the blocks S. -/
def DH (w : World) (d : Nat) (D : DSt) (S : List Nat) : Prop :=
  ∃ ps pn v r, DK w d ps pn v r D.st (nowB D.st D.wl) D.wl D.left D.bad ∧ S = d :: ps :: pn :: r
theorem DH.lt {w : World} {d : Nat} {D : DSt} {S : List Nat} (h : DH w d D S) : ∀ k, k ∈ S → k < w.heap.size := by
  obtain ⟨ps, pn, v, r, h1, rfl⟩ := h
  exact h1.lt
theorem DH.mem {w : World} {d : Nat} {D : DSt} {S : List Nat} (h : DH w d D S) : d ∈ S := by
  obtain ⟨ps, pn, v, r, h1, rfl⟩ := h
  exact .head _
theorem DH.keep {w w' : World} {d : Nat} {D : DSt} {S T : List Nat} (h : DH w d D S) (hf : Fr T w w') (hd : ∀ k, k ∈ S → k ∉ T) : DH w' d D S := by
  obtain ⟨ps, pn, v, r, h1, rfl⟩ := h
  exact ⟨ps, pn, v, r, h1.keep hf hd, rfl⟩
theorem DH.keep0 {w w' : World} {d : Nat} {D : DSt} {S : List Nat} (h : DH w d D S) (hf : Fr [] w w') : DH w' d D S := h.keep hf (fun _ _ => by simp)
theorem DH.fit {w : World} {d : Nat} {D : DSt} {S : List Nat} (h : DH w d D S) : (∀ x, x ∈ D.wl → x.1 + x.2.size ≤ D.st.size) ∧ D.st.size ≤ 131072 := by
  obtain ⟨ps, pn, v, r, h1, rfl⟩ := h
  exact ⟨h1.fit, h1.big⟩
/-- What a step leaves: the disk's new state; nothing but its blocks has turned, and it may have new ones. -/
def DPost (w : World) (d : Nat) (D' : DSt) (S : List Nat) (w' : World) : Prop := ∃ S', DH w' d D' S' ∧ Fr S w w' ∧ ∀ k, k ∈ S' → k ∈ S ∨ w.heap.size ≤ k
theorem DPost.same {w : World} {d : Nat} {D : DSt} {S : List Nat} (h : DH w d D S) : DPost w d D S w := ⟨S, h, Fr.refl _ _, fun _ hk => .inl hk⟩
theorem DPost.trans {w w1 w2 : World} {d : Nat} {D1 D2 : DSt} {S : List Nat} (h : DPost w d D1 S w1) (k : ∀ S', DH w1 d D1 S' → DPost w1 d D2 S' w2) : DPost w d D2 S w2 := by
  obtain ⟨S1, h1, f1, n1⟩ := h
  obtain ⟨S2, h2, f2, n2⟩ := k S1 h1
  refine ⟨S2, h2, f1.trans f2 n1, fun x hx => ?_⟩
  rcases n2 x hx with h | h
  · exact n1 x h
  · exact .inr (Nat.le_trans f1.size h)
theorem HWrite (w : World) (d : Nat) (D : DSt) (S : List Nat) (h : DH w d D S) (k : Int) (hk : Bd .i64 k) (s : ByteArray) (hs : s.size ≤ 9223372036854775807) (hm : D.wl.length < 1000000) :
    Calls Try.prog 42 #[.pointer (some ⟨d, 0, none⟩), .int .i64 k, .string s] w fun e w' => e = .returned (.int .i64 (wrS D k s).2) ∧ DPost w d (wrS D k s).1 S w' := by
  rcases he : wrS D k s with ⟨D', c⟩
  simp only
  obtain ⟨ps, pn, v, r, h1, rfl⟩ := id h
  obtain ⟨st, wl, left, bad⟩ := D
  unfold wrS mayS at he
  simp only at he h1 hm
  split at he
  · rename_i hmay
    obtain ⟨kn, rfl⟩ : ∃ kn : Nat, k = (kn : Int) := ⟨k.toNat, by omega⟩
    cases bad with
    | true =>
      simp at he
      obtain ⟨rfl, rfl⟩ := he
      refine (Write_bad_calls w d ps pn v r st _ wl left h1 kn rfl s (by omega)).mono ?_
      rintro e w' ⟨rfl, rfl⟩
      exact ⟨rfl, .same h⟩
    | false =>
      simp only [Bool.false_eq_true, if_false, Prod.mk.injEq, Int.toNat_natCast] at he
      obtain ⟨rfl, rfl⟩ := he
      refine (Write_calls w d ps pn v r st _ wl left h1 kn rfl s (by omega) hm).mono ?_
      rintro e w' ⟨rfl, v2, r2, g1, g2, g3⟩
      refine ⟨rfl, d :: ps :: pn :: r2, ⟨ps, pn, v2, r2, ?_, rfl⟩, g2, fun x hx => ?_⟩
      · rw [nowB_snoc]
        exact g1
      · simp only [List.mem_cons] at hx ⊢
        rcases hx with h | h | h | h
        · exact .inl (.inl h)
        · exact .inl (.inr (.inl h))
        · exact .inl (.inr (.inr (.inl h)))
        · rcases g3 x h with h | h
          · exact .inl (.inr (.inr (.inr h)))
          · exact .inr h
  · rename_i hmay
    simp at he
    obtain ⟨rfl, rfl⟩ := he
    refine (Write_arg_calls w d ps pn v r st _ wl left bad h1 k hk s hs hmay).mono ?_
    rintro e w' ⟨rfl, rfl⟩
    exact ⟨rfl, .same h⟩
theorem HRead (w : World) (d : Nat) (D : DSt) (S : List Nat) (h : DH w d D S) (k n : Int) (hk : Bd .i64 k) (hn : Bd .i64 n) :
    Calls Try.prog 48 #[.pointer (some ⟨d, 0, none⟩), .int .i64 k, .int .i64 n] w fun e w' => e = .returned (.tuple #[.string (rdS D k n).1, .int .i64 (rdS D k n).2]) ∧ w = w' := by
  rcases he : rdS D k n with ⟨t, c⟩
  simp only
  obtain ⟨ps, pn, v, r, h1, rfl⟩ := id h
  obtain ⟨st, wl, left, bad⟩ := D
  unfold rdS mayS at he
  simp only at he h1
  split at he
  · rename_i hmay
    obtain ⟨kn, rfl⟩ : ∃ kn : Nat, k = (kn : Int) := ⟨k.toNat, by omega⟩
    obtain ⟨nn, rfl⟩ : ∃ nn : Nat, n = (nn : Int) := ⟨n.toNat, by omega⟩
    cases bad with
    | true =>
      simp at he
      obtain ⟨rfl, rfl⟩ := he
      exact Read_bad_calls w d ps pn v r st _ wl left h1 kn nn rfl rfl (by omega)
    | false =>
      simp only [Bool.false_eq_true, if_false, Prod.mk.injEq, Int.toNat_natCast] at he
      obtain ⟨rfl, rfl⟩ := he
      exact Read_calls w d ps pn v r st _ wl left h1 kn nn rfl rfl (by omega)
  · rename_i hmay
    simp at he
    obtain ⟨rfl, rfl⟩ := he
    exact Read_arg_calls w d ps pn v r st _ wl left bad h1 k n hk hn hmay
theorem HSync (w : World) (d : Nat) (D : DSt) (S : List Nat) (h : DH w d D S) :
    Calls Try.prog 44 #[.pointer (some ⟨d, 0, none⟩)] w fun e w' => e = .returned (.int .i64 (syS D).2) ∧ DPost w d (syS D).1 S w' := by
  rcases he : syS D with ⟨D', c⟩
  simp only
  obtain ⟨ps, pn, v, r, h1, rfl⟩ := id h
  obtain ⟨st, wl, left, bad⟩ := D
  unfold syS at he
  simp only at he h1
  cases bad with
  | true =>
    simp at he
    obtain ⟨rfl, rfl⟩ := he
    refine (Sync_bad_calls w d ps pn v r st _ wl left h1).mono ?_
    rintro e w' ⟨rfl, rfl⟩
    exact ⟨rfl, .same h⟩
  | false =>
    simp only [Bool.false_eq_true, if_false] at he
    split at he
    · rename_i hl
      subst hl
      simp at he
      obtain ⟨rfl, rfl⟩ := he
      refine (Sync_break_calls w d ps pn v r st _ wl h1).mono ?_
      rintro e w' ⟨rfl, g1, g2⟩
      exact ⟨rfl, _, ⟨ps, pn, v, r, g1, rfl⟩, g2.mono (fun k hk _ => by simp at hk; simp [hk]), fun k hk => .inl hk⟩
    · rename_i hl
      simp at he
      obtain ⟨rfl, rfl⟩ := he
      refine (Sync_calls w d ps pn v r st _ wl left h1 hl).mono ?_
      rintro e w' ⟨rfl, v2, g1, g2⟩
      exact ⟨rfl, _, ⟨ps, pn, v2, r, g1, rfl⟩, g2.mono (fun k hk _ => by simp only [List.mem_cons] at hk ⊢; rcases hk with h | h | h <;> simp [h]), fun k hk => .inl hk⟩
theorem HCrash (w : World) (d : Nat) (D : DSt) (S : List Nat) (h : DH w d D S) (keep : Int) (hk : Bd .i64 keep) :
    Calls Try.prog 21 #[.pointer (some ⟨d, 0, none⟩), .int .i64 keep] w fun e w' => e = .returned (.int .i64 (crS D keep).2) ∧ DPost w d (crS D keep).1 S w' := by
  obtain ⟨ps, pn, v, r, h1, rfl⟩ := id h
  refine (Crash_calls w d ps pn v r D.st _ D.wl D.left D.bad h1 keep hk.i64.1 hk.i64.2).mono ?_
  rintro e w' ⟨rfl, v2, g1, g2⟩
  exact ⟨rfl, _, ⟨ps, pn, v2, r, g1, rfl⟩, g2, fun k hk => .inl hk⟩
theorem HBreak (w : World) (d : Nat) (D : DSt) (S : List Nat) (h : DH w d D S) (n : Int) (hn : Bd .i64 n) :
    Calls Try.prog 20 #[.pointer (some ⟨d, 0, none⟩), .int .i64 n] w fun e w' => e = .returned (.tuple #[]) ∧ DPost w d (brS D n) S w' := by
  obtain ⟨ps, pn, v, r, h1, rfl⟩ := id h
  obtain ⟨st, wl, left, bad⟩ := D
  unfold brS
  simp only at h1 ⊢
  cases bad with
  | true =>
    refine (Break_bad_calls w d ps pn v r st _ wl left h1 n).mono ?_
    rintro e w' ⟨rfl, rfl⟩
    exact ⟨rfl, .same h⟩
  | false =>
    refine (Break_any_calls w d ps pn v r st _ wl left h1 n hn).mono ?_
    rintro e w' ⟨rfl, g1, g2⟩
    exact ⟨rfl, _, ⟨ps, pn, v, r, g1, rfl⟩, g2.mono (fun k hk _ => by simp at hk; simp [hk]), fun k hk => .inl hk⟩
theorem HSize (w : World) (d : Nat) (D : DSt) (S : List Nat) (h : DH w d D S) :
    Calls Try.prog 39 #[.pointer (some ⟨d, 0, none⟩)] w fun e w' => e = .returned (.int .i64 D.st.size) ∧ w = w' := by
  obtain ⟨ps, pn, v, r, h1, rfl⟩ := h
  exact Size_calls w d ps pn v r _ _ _ _ _ h1
theorem HNew (w : World) (m : Nat) {mi : Int} (hmi : mi = m) (h0 : 1 ≤ m) (h1 : m ≤ 131072) :
    Calls Try.prog 8 #[.int .i64 mi] w fun e w' => ∃ d, e = .returned (.pointer (some ⟨d, 0, none⟩)) ∧ DPost w d ⟨zerosB m, [], 0, false⟩ [] w' := by
  refine (New_calls w m hmi h0 h1).mono ?_
  rintro e w' ⟨d, ps, pn, rfl, g1, g2, g3⟩
  exact ⟨d, rfl, [d, ps, pn], ⟨ps, pn, _, [], g1, rfl⟩, g2, fun k hk => .inr (g3 k hk)⟩
end Go.Proofs.Ytembnjpflllpbaa
