/- Contracts of strings.IndexRune at a rune beyond ASCII, in a text of ASCII bytes; what a byte beyond ASCII begins. -/
import Derived.Test.YtbfpfmnkmpcgpaaDoorShelf
import Derived.Test.YtbfpfmnkmpcgpaaDoorBld
import Derived.Laws.Runes
import Derived.Lib.OthersKept
import Derived.Lib.DecodeN
import Derived.Lib.QuoteLoop
import Derived.Lib.TrimU
import Derived.Deep.QuietTactic
namespace Go.Proofs.YtbfpfmnkmpcgpaaDoor
open Go.RowKit
set_option linter.unusedVariables false
set_option linter.unusedSimpArgs false

/-- A call that turns nothing, in a region that only reads (behind another such region). -/
theorem quietR2 {P : Program} {f : FuncId} {args : Array Value} {w : World} {a n : Nat} {v : Value} (h : ∀ W, Calls P f args W fun e w' => e = .returned v ∧ W = w') :
    Calls P f args (w.drewN (a + n)) fun e w'' => e = .returned v ∧ ∃ m, w'' = w.drewN (a + m) := (h _).mono fun _ _ h => ⟨h.1, n, h.2.symm⟩
theorem decodeN_high (n b0 b1 b2 b3 : Nat) (h : 128 ≤ b0) : 128 ≤ (Lib.decodeN n b0 b1 b2 b3).1 := by
  unfold Lib.decodeN
  repeat' split
  all_goals (simp only; omega)
theorem decode_high (s : ByteArray) (pos : Nat) (h : pos < s.size) (hb : 128 ≤ (s[pos]).toNat) : 128 ≤ (Utf8.decode s pos).1 ∧ Utf8.valid ((Utf8.decode s pos).1 : Int) = true := by
  have e : s.get! pos = s[pos] := by
    simp [ByteArray.get!, getElem!_pos, h]
    try rfl
  have hd := Lib.decode_at s pos
  rw [e] at hd
  have hv := Lib.decodeN_valid (s.size - pos) (s[pos]).toNat (s.get! (pos + 1)).toNat (s.get! (pos + 2)).toNat (s.get! (pos + 3)).toNat (UInt8.toNat_lt _)
  have hh := decodeN_high (s.size - pos) (s[pos]).toNat (s.get! (pos + 1)).toNat (s.get! (pos + 2)).toNat (s.get! (pos + 3)).toNat hb
  rw [← hd] at hv hh
  refine ⟨hh, ?_⟩
  simp only [Utf8.valid]
  generalize (Utf8.decode s pos).1 = q at hv
  rcases hv with h1 | ⟨h1, h2⟩
  · simp; omega
  · simp; omega

theorem Fr.iterAt {S : List Nat} {a w : World} (h : Fr S a w) {k : Nat} (hk : k ∈ S ∨ a.heap.size ≤ k) (s : ByteArray) (pos : Nat) : Fr S a (w.iterAt k s pos) :=
  ⟨h.os, h.tape, h.output, by rw [Lib.iterAt_size]; exact h.size, fun i hi hn => (Lib.iterAt_other w k i s pos (by rintro rfl; exact hk.elim hn (fun h1 => by omega))).trans (h.block i hi hn)⟩
/-- A text of ASCII bytes. -/
def AsciiB (s : ByteArray) : Prop := ∀ b, b ∈ s.data.toList → b.toNat < 128
theorem AsciiB.get {s : ByteArray} (h : AsciiB s) (i : Nat) (hi : i < s.size) : (s[i]).toNat < 128 := h _ (by
  show s.data[i] ∈ s.data.toList
  exact Array.getElem_mem_toList _)
theorem AsciiB.idx {s : ByteArray} (h : AsciiB s) (a e : Nat) {c : Nat} (hc : 128 ≤ c) (hc2 : c < 256) : Lib.indexByte (s.extract a e).data.toList (((c : Nat) : Int).toNat.toUInt8) = -1 := by
  rw [← Lib.firstIdx_eq]
  apply firstIdx_ascii s a e _ h
  simp
  omega

set_option maxHeartbeats 2000000 in
set_option maxRecDepth 100000 in
theorem IndexRune_high (s : ByteArray) (hs : AsciiB s) (r : Int) (h1 : 128 ≤ r) (hv : Utf8.valid r = true) (hz : (Utf8.encode r).size ≤ s.size) (hm : s.size ≤ 1000) (w : World) :
    Calls Tryd.prog 41 #[.string s, .int .i32 r] w fun e w' => e = .returned (.int .i64 (-1)) ∧ Fr [] w w' := by
  have hvr : Lib.validRune r = true := by
    simp only [Utf8.valid] at hv
    unfold Lib.validRune
    simp at hv ⊢
    omega
  obtain ⟨f1, f2, f3⟩ := encode_facts r hv h1
  have h0 : (0 : Int) ≤ r := by omega
  have h128 : ¬ r < 128 := by omega
  by_cases hr : r = 65533
  · have hr' : (r == 65533) = true := beq_iff_eq.2 hr
    have HS := Lib.hid hs
    clear hs f1 f2 f3 hv hvr hz hr
    go_enter Tryd.func41, Tryd.ntmps41
    go_wp2_with fail
    have hI : (w.iter s 0).heap[w.heap.size]? = some (.stringIter s 0) := World.iter_heap w s 0
    have hF : Fr [] w (w.iter s 0) := (Fr.refl _ w).alloc _
    generalize w.iter s 0 = W0 at hI hF ⊢
    have hkk : w.heap.size ≤ w.heap.size := Nat.le_refl _
    generalize hk : w.heap.size = k at hI hkk ⊢
    have H0 := Lib.hid (And.intro hI (And.intro hF (Nat.le_of_eq hk)))
    clear hI hF hkk hk
    go_loopw [5, 6, 176, 177, 178, 179, 180, 181] (fun v5 v6 v176 v177 v178 v179 v180 v181 wr => ∃ pos : Nat, pos ≤ s.size ∧ Hid (wr.heap[k]? = some (.stringIter s pos) ∧ Fr [] w wr ∧ w.heap.size ≤ k)) (fun _ _ _ _ _ _ _ _ wr => s.size - wr.iterPos k)
    case atStart => exact ⟨0, Nat.zero_le _, H0⟩
    case round =>
      clear H0
      obtain ⟨pos, hp, H⟩ := hrel
      have hip : wr.iterPos k = pos := by unfold World.iterPos; rw [H.out.1]
      by_cases hlt : pos < s.size
      · have hnx := Lib.run_next_ascii_at (P := Tryd.prog) wr k s pos 0 H.out.1 hlt (HS.out.get pos hlt)
        have hca := HS.out.get pos hlt
        have hne : (((s[pos]).toNat : Int) == 65533) = false := beq_eq_false_iff_ne.2 (by omega)
        have h2 := Lib.iterAt_heap wr k s pos (pos + 1) H.out.1
        have HF2 := Lib.hid (And.intro h2 (And.intro (H.out.2.1.iterAt (.inr H.out.2.2) s (pos + 1)) H.out.2.2))
        have hip2 : (wr.iterAt k s (pos + 1)).iterPos k = pos + 1 := by unfold World.iterPos; rw [h2]
        have HIP := Lib.hid (And.intro hip hip2)
        clear h2 hip hip2 H
        go_wp2_with fail
        refine ⟨⟨pos + 1, by omega, HF2⟩, ?_⟩
        rw [HIP.out.1, HIP.out.2]
        omega
      · have hnx := Lib.run_next_end_at (P := Tryd.prog) wr k s pos 0 H.out.1 hlt
        clear hip
        go_wp2_with fail
        go_ret
        exact ⟨rfl, H.out.2.1⟩
  · have hr' : (r == 65533) = false := beq_eq_false_iff_ne.2 hr
    have hva := fun W => Tryd.utf8_ValidRune r W
    rw [hvr] at hva
    have HC := Lib.hid hva
    have HIX := Lib.hid (fun (W : World) (a e c : Nat) (hc : 128 ≤ c) (hc2 : c < 256) => Tryd.strings_IndexByte (s.extract a e) (c : Int) W)
    have HS := Lib.hid hs
    obtain ⟨L, hL⟩ : ∃ L, L = (Utf8.encode r).size - 1 := ⟨_, rfl⟩
    have hLt : L < (Utf8.encode r).size := by omega
    have hlast : 128 ≤ ((Utf8.encode r)[L]).toNat := by subst hL; exact f3 hLt
    have hLs : L + 1 ≤ s.size := by omega
    have hl256 := ((Utf8.encode r)[L]).toNat_lt
    have hLi : ((Utf8.encode r).size : Int) - 1 = (L : Int) := by omega
    have i6 : L < s.size := by clear hL; omega
    have hsL := hs.get L i6
    clear hva hvr hv f3 hs hr hL
    have i0 : (0 : Int) ≤ (L : Int) := by omega
    have i1 : (L : Int) < (s.size : Int) := by omega
    have i2 : (L : Int) < ((Utf8.encode r).size : Int) := by omega
    have i3 : (0 : Int) ≤ (L : Int) + 1 := by omega
    have i4 : (L : Int) + 1 ≤ (s.size : Int) := by omega
    have i5 : ((L : Int) + 1).toNat = L + 1 := by omega
    have hne : (((s[L]).toNat : Int) == (((Utf8.encode r)[L]).toNat : Int)) = false := beq_eq_false_iff_ne.2 (by omega)
    have hne2 : (((s[L]).toNat : Int) != (((Utf8.encode r)[L]).toNat : Int)) = true := by rw [bne, hne]; rfl
    have hw1 : IntKind.i64.wrap ((L : Int) + 1) = (L : Int) + 1 := by rw [IntKind.wrap_i64]; omega
    have HIX2 : Hid (∀ W, Calls Tryd.prog 57 #[.string (s.extract (L + 1) s.size), .int .u8 (((Utf8.encode r)[L]).toNat : Int)] W fun e w' => e = .returned (.int .i64 (-1)) ∧ W = w') := Lib.hid (fun W => by
      have := HIX.out W (L + 1) s.size ((Utf8.encode r)[L]).toNat hlast hl256
      rw [HS.out.idx _ _ hlast hl256] at this
      exact this.mono fun e w' ⟨h1, h2⟩ => ⟨h1, h2.symm⟩)
    clear hsL HIX HS hz f1 f2
    go_enter Tryd.func41, Tryd.ntmps41
    go_wp2_with fail
    (with_reducible refine (HC.out _).mono ?_)
    rintro e w1 ⟨rfl, rfl⟩
    go_wp2_with fail
    refine wp_scope_straight ?_
    go_wp2_with fail
    go_loop [9] (fun v9 => v9 = .int .i64 (L : Int)) (fun _ => 0)
    case atStart => rfl
    case round =>
      obtain rfl := hrel
      go_wp2_with fail
      refine wp_scope_straight ?_
      go_wp2_with fail
      go_quiet (fail)
      go_wp2_with fail
      go_quiet ((go_at_call 57; with_reducible exact quietR2 HIX2.out))
      go_wp2_with fail
      (repeat rw [Exit.noGoto_ret])
      simp (config := { zetaDelta := true }) only [Exit.then, Exit.noGoto, Exit.inBlock]
      go_ret
      exact ⟨rfl, (Fr.refl [] _).drewN _⟩

/-- A rune of two bytes. -/
theorem encode_two (r : Int) (h1 : 128 ≤ r) (h2 : r < 256) : Utf8.valid r = true ∧ (Utf8.encode r).size = 2 := by
  have hv : Utf8.valid r = true := by simp only [Utf8.valid]; simp; omega
  refine ⟨hv, ?_⟩
  unfold Utf8.encode
  simp only [hv, if_true]
  rw [if_neg (by omega), if_pos (by omega)]
  rfl
theorem ContainsRune_high (s : ByteArray) (hs : AsciiB s) (r : Int) (h1 : 128 ≤ r) (h2 : r < 256) (hz : 2 ≤ s.size) (hm : s.size ≤ 1000) (w : World) :
    Calls Tryd.prog 44 #[.string s, .int .i32 r] w fun e w' => e = .returned (.bool false) ∧ Fr [] w w' := by
  obtain ⟨hv, he⟩ := encode_two r h1 h2
  have HI := Lib.hid (IndexRune_high s hs r h1 hv (by rw [he]; exact hz) hm w)
  clear hs hv he
  go_enter Tryd.func44, Tryd.ntmps44
  go_wp2_with fail
  (with_reducible refine HI.out.mono ?_)
  rintro e w1 ⟨rfl, hf1⟩
  have HF := Lib.hid hf1
  clear hf1
  go_wp2_with fail
  go_ret
  exact ⟨rfl, HF.out⟩
end Go.Proofs.YtbfpfmnkmpcgpaaDoor
