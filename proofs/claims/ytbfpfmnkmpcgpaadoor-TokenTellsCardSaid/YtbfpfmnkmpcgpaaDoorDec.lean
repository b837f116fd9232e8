/- The contract of token.Decode. -/
import Derived.Test.YtbfpfmnkmpcgpaaDoorTokDec
import Derived.Test.YtbfpfmnkmpcgpaaDoorIdxRune
import Derived.Test.YtbfpfmnkmpcgpaaDoorEnc
namespace Go.Proofs.YtbfpfmnkmpcgpaaDoor
open Go.RowKit
set_option linter.unusedVariables false
set_option linter.unusedSimpArgs false

theorem digs_ascii : AsciiB digs := by
  unfold AsciiB
  decide
set_option maxRecDepth 100000 in
theorem idx_digit : ∀ n, n < 128 → Lib.indexByte digs.data.toList n.toUInt8 = match digV n.toUInt8 with | some d => (d : Int) | none => -1 := by decide +kernel
theorem digV_high {c : UInt8} (h : 128 ≤ c.toNat) : digV c = none := by
  unfold digV
  rw [if_neg (by omega), if_neg (by omega)]
theorem or_join5 (v d : Nat) (hv : v < 128) (hd : d < 32) : bits BinOp.or IntKind.i64 ((v : Int) * 32) (d : Int) = ((v * 32 + d : Nat) : Int) := by
  rw [show (v : Int) * 32 = ((v * 32 : Nat) : Int) from by omega, i64_or_nat _ _ (by omega) (by omega)]
  congr 1
  exact nat_join 5 _ _ (Nat.mul_mod_left _ _) hd
theorem map_snoc (acc : ByteArray) (x : Nat) (o : Option (List UInt8)) : (o.map (UInt8.ofNat x :: ·)).map (acc.data.toList ++ ·) = o.map ((acc ++ bOf (x : Int)).data.toList ++ ·) := by
  cases o with
  | none => rfl
  | some l => simp [bOf]

/-- Where the decoding stands. -/
structure DecS (w0 w : World) (k b : Nat) (r : List Nat) (acc s : ByteArray) (pos : Nat) : Prop where
  it : w.heap[k]? = some (.stringIter s pos)
  bld : BldN 37 5 w0 w b r acc
  kn : k ∉ b :: r
  kw : w0.heap.size ≤ k
theorem DecS.next {w0 w : World} {k b : Nat} {r : List Nat} {acc s : ByteArray} {pos : Nat} (h : DecS w0 w k b r acc s pos) (p : Nat) : DecS w0 (w.iterAt k s p) k b r acc s p :=
  ⟨Lib.iterAt_heap w k s pos p h.it, h.bld.other (S := [k]) ((Fr.refl _ _).iterAt (.inl (by simp)) s p) (fun i hi => by simp; rintro rfl; exact h.kn hi) (fun i hi => by simp at hi; subst hi; exact h.kw), h.kn, h.kw⟩
theorem DecS.then {w0 w w' : World} {k b : Nat} {r : List Nat} {acc s : ByteArray} {pos : Nat} (h : DecS w0 w k b r acc s pos) (hf : Fr [] w w') : DecS w0 w' k b r acc s pos :=
  ⟨(hf.block k (lt_of_heap h.it) (by simp)).trans h.it, h.bld.other (S := []) hf (by simp) (by simp), h.kn, h.kw⟩
theorem DecS.write {w0 w w' : World} {k b : Nat} {r r' : List Nat} {acc acc' s : ByteArray} {pos : Nat} (h : DecS w0 w k b r acc s pos) (h1 : Bld 37 5 w' b r' acc') (hf : Fr (b :: r) w w') (hn : ∀ i, i ∈ r' → i ∈ r ∨ w.heap.size ≤ i) : DecS w0 w' k b r' acc' s pos :=
  ⟨(hf.block k (lt_of_heap h.it) h.kn).trans h.it, h.bld.step h1 hf hn, fun hm => by
    rcases List.mem_cons.1 hm with e | hm
    · exact h.kn (by simp [e])
    · rcases hn _ hm with h2 | h2
      · exact h.kn (by simp [h2])
      · have := lt_of_heap h.it; omega, h.kw⟩
theorem DecS.pos {w0 w : World} {k b : Nat} {r : List Nat} {acc s : ByteArray} {pos : Nat} (h : DecS w0 w k b r acc s pos) : w.iterPos k = pos := by
  unfold World.iterPos
  rw [h.it]

set_option maxHeartbeats 4000000 in
set_option maxRecDepth 100000 in
theorem Decode_calls (w : World) (s : ByteArray) (hs : s.size ≤ 1000000) :
    Calls Tryd.prog 16 #[.string s] w fun e w' => e = .returned (.tuple #[.string ((decB s).getD ⟨#[]⟩), .bool (decB s).isSome]) ∧ Fr [] w w' := by
  have HIA : Hid (∀ (W : World) (c : Nat), c < 128 → Calls Tryd.prog 41 #[.string ⟨#[97, 98, 99, 100, 101, 102, 103, 104, 105, 106, 107, 108, 109, 110, 111, 112, 113, 114, 115, 116, 117, 118, 119, 120, 121, 122, 50, 51, 52, 53, 54, 55]⟩, .int .i32 (c : Int)] W fun e w' => e = .returned (.int .i64 (Lib.indexByte digs.data.toList (c : Int).toNat.toUInt8)) ∧ w' = W) := Lib.hid (fun W c hc => Tryd.strings_IndexRune_ascii digs (c : Int) W (by omega) (by omega))
  have HIH : Hid (∀ (W : World) (q : Int), 128 ≤ q → Utf8.valid q = true → Calls Tryd.prog 41 #[.string ⟨#[97, 98, 99, 100, 101, 102, 103, 104, 105, 106, 107, 108, 109, 110, 111, 112, 113, 114, 115, 116, 117, 118, 119, 120, 121, 122, 50, 51, 52, 53, 54, 55]⟩, .int .i32 q] W fun e w' => e = .returned (.int .i64 (-1)) ∧ Fr [] W w') := Lib.hid (fun W q h1 hv => IndexRune_high digs digs_ascii q h1 hv (by have := (encode_facts q hv h1).2.1; show _ ≤ 32; omega) (by decide) W)
  have HDB : Hid (decB s = (decG 0 0 s.data.toList).map fun l => ⟨l.toArray⟩) := Lib.hid rfl
  generalize decB s = R at HDB ⊢
  go_enter Tryd.func16, Tryd.ntmps16
  go_wp2_with fail
  refine wp_scope_straight ?_
  go_wp2_with fail
  go_step3
  go_wp2_with fail
  have h0 : BldN 37 5 w (w.alloc (.cells #[.pointer none, .slice none 0 0] 37)) w.heap.size [] ⟨#[]⟩ := BldN.make _ _ (Fr.refl _ _) rfl
  have h1 : DecS w ((w.alloc (.cells #[.pointer none, .slice none 0 0] 37)).iter s 0) (w.heap.size + 1) w.heap.size [] ⟨#[]⟩ s 0 := by
    have hI := World.iter_heap (w.alloc (.cells #[.pointer none, .slice none 0 0] 37)) s 0
    rw [World.size_alloc] at hI
    exact ⟨hI, h0.other (S := []) ((Fr.refl _ _).alloc _) (by simp) (by simp), by simp, by omega⟩
  generalize hW0 : ((w.alloc (.cells #[.pointer none, .slice none 0 0] 37)).iter s 0) = W0 at h1 ⊢
  generalize w.heap.size + 1 = k at h1 ⊢
  generalize w.heap.size = b at h0 h1 ⊢
  have H1 := Lib.hid h1
  clear h0 h1 hW0
  have HD0 : Hid (R = ((decG 0 0 (s.data.toList.drop 0)).map ((⟨#[]⟩ : ByteArray).data.toList ++ ·)).map fun l => ⟨l.toArray⟩) := Lib.hid (by
    rw [HDB.out, List.drop_zero]
    cases decG 0 0 s.data.toList <;> rfl)
  go_loopw [5, 6, 7, 9, 10] (fun v5 v6 v7 v9 v10 wr => ∃ (pos v n : Nat) (r : List Nat) (acc : ByteArray), pos ≤ s.size ∧ v5 = .int .i64 v ∧ v6 = .int .i64 n ∧ v7 = .bool true ∧ n < 8 ∧ Hid (v < 2 ^ n) ∧ acc.size ≤ pos ∧ Hid (DecS w wr k b r acc s pos) ∧ Hid (R = ((decG v n (s.data.toList.drop pos)).map (acc.data.toList ++ ·)).map fun l => ⟨l.toArray⟩)) (fun _ _ _ _ _ wr => s.size - wr.iterPos k)
  case atStart => exact ⟨0, 0, 0, [], ⟨#[]⟩, Nat.zero_le _, rfl, rfl, rfl, by decide, Lib.hid (by decide), Nat.zero_le _, H1, HD0⟩
  case round =>
    clear H1 HD0 HDB
    obtain ⟨pos, v, n, r, acc, hp, rfl, rfl, rfl, hn8, HV, hacc, H, HD⟩ := hrel
    have hip := H.out.pos
    by_cases hlt : pos < s.size
    · have hdr : s.data.toList.drop pos = s[pos] :: s.data.toList.drop (pos + 1) := by
        rw [List.drop_eq_getElem_cons (by rw [Array.length_toList]; exact hlt)]
        rfl
      have hD2 := HD.out
      rw [hdr] at hD2
      clear HD hdr
      by_cases hasc : (s[pos]).toNat < 128
      · have hnx := Lib.run_next_ascii_at (P := Tryd.prog) wr k s pos 0 H.out.it hlt hasc
        have HS2 := Lib.hid (H.out.next (pos + 1))
        have HIP := Lib.hid (And.intro hip HS2.out.pos)
        have hix := HIA.out (wr.iterAt k s (pos + 1)) (s[pos]).toNat hasc
        have hid := idx_digit (s[pos]).toNat hasc
        rw [show ((s[pos]).toNat).toUInt8 = s[pos] from by simp] at hid
        rw [show (((s[pos]).toNat : Int)).toNat.toUInt8 = s[pos] from by simp, hid] at hix
        clear hid hip H
        cases hdv : digV s[pos] with
        | none =>
          rw [hdv] at hix
          have HX := Lib.hid hix
          have hR : R = none := by rw [hD2, decG, hdv]; rfl
          subst hR
          clear hD2 hdv hix
          go_wp2_with fail
          (with_reducible refine HX.out.mono ?_)
          rintro e w2 ⟨rfl, rfl⟩
          clear hnx HX
          go_wp2_with fail
          (repeat rw [Exit.noGoto_ret])
          simp (config := { zetaDelta := true }) only [Exit.then, Exit.noGoto, Exit.inBlock]
          go_wp2_with fail
          go_ret2
          exact ⟨rfl, HS2.out.bld.fr⟩
        | some d =>
          rw [hdv] at hix
          have HX := Lib.hid hix
          have HDV := Lib.hid (And.intro hdv (digV_some hdv).1)
          have hd32 := HDV.out.2
          have hd0 : ¬ (d : Int) < 0 := by omega
          have hpow : 2 ^ n ≤ 2 ^ 7 := Nat.pow_le_pow_right (by decide) (by omega)
          have hv128 : v < 128 := by have := HV.out; omega
          have hor := or_join5 v d hv128 hd32
          have hV4 : v * 32 + d < 4096 := by omega
          clear hix hdv hpow
          have HV' := HV.out
          go_wp2_with fail
          (with_reducible refine HX.out.mono ?_)
          rintro e w2 ⟨rfl, rfl⟩
          clear hnx HX
          match n, hn8, HV' with
          | 0, _, _ =>
            rw [decG_small HDV.out.1 (by decide)] at hD2
            have HD2 := Lib.hid hD2
            clear hD2
            go_wp2_with fail
            refine ⟨⟨pos + 1, v * 32 + d, 5, r, acc, by omega, rfl, rfl, rfl, by decide, Lib.hid (by omega), by omega, HS2, HD2⟩, ?_⟩
            rw [HIP.out.1, HIP.out.2]
            omega
          | 1, _, _ =>
            rw [decG_small HDV.out.1 (by decide)] at hD2
            have HD2 := Lib.hid hD2
            clear hD2
            go_wp2_with fail
            refine ⟨⟨pos + 1, v * 32 + d, 6, r, acc, by omega, rfl, rfl, rfl, by decide, Lib.hid (by omega), by omega, HS2, HD2⟩, ?_⟩
            rw [HIP.out.1, HIP.out.2]
            omega
          | 2, _, _ =>
            rw [decG_small HDV.out.1 (by decide)] at hD2
            have HD2 := Lib.hid hD2
            clear hD2
            go_wp2_with fail
            refine ⟨⟨pos + 1, v * 32 + d, 7, r, acc, by omega, rfl, rfl, rfl, by decide, Lib.hid (by omega), by omega, HS2, HD2⟩, ?_⟩
            rw [HIP.out.1, HIP.out.2]
            omega
          | 3, _, _ =>
            have hq : (v * 32 + d) / 1 < 256 := by omega
            rw [decG_big HDV.out.1 (by decide), map_snoc acc ((v * 32 + d) / 2 ^ (3 - 3))] at hD2
            have HD2 := Lib.hid hD2
            have HB : Hid (∀ c : Int, c = (((v * 32 + d) / 1 : Nat) : Int) → acc ++ bOf c = acc ++ bOf (((v * 32 + d) / 2 ^ (3 - 3) : Nat) : Int)) := Lib.hid (fun c hc => by rw [hc])
            have hmask : bits .and .i64 ((v * 32 + d : Nat) : Int) 0 = (((v * 32 + d) % 1 : Nat) : Int) := by
              have := i64_mask (v * 32 + d) 0 (by omega) (by decide)
              exact this
            clear hD2
            rw [show (v * 32 + d) % 2 ^ (3 - 3) = 0 from Nat.mod_one _] at HD2
            obtain ⟨V, hV⟩ : ∃ V, v * 32 + d = V := ⟨_, rfl⟩
            rw [hV] at hor hmask hq HD2 HB hV4
            have HVV := Lib.hid hV
            clear hV
            go_wp2_with fail
            (with_reducible refine (WriteByte_calls 37 bty_builder b r acc _ _ (by omega) (by omega) HS2.out.bld.bld (by omega)).mono ?_)
            rintro e w3 ⟨rfl, r3, hb3, hf3, hn3⟩
            rw [HB.out _ (by omega)] at hb3
            have HS3 := Lib.hid (HS2.out.write hb3 hf3 hn3)
            clear hb3 hf3 hn3 HS2
            have HIP3 := Lib.hid (HS3.out.pos)
            go_wp2_with fail
            refine ⟨⟨pos + 1, 0, 0, r3, _, by omega, rfl, rfl, rfl, by decide, Lib.hid (by omega), by rw [ByteArray.size_append, bOf_size]; omega, HS3, HD2⟩, ?_⟩
            rw [HIP.out.1, HIP3.out]
            omega
          | 4, _, _ =>
            have hq : (v * 32 + d) / 2 < 256 := by omega
            rw [decG_big HDV.out.1 (by decide), map_snoc acc ((v * 32 + d) / 2 ^ (4 - 3))] at hD2
            have HD2 := Lib.hid hD2
            have HB : Hid (∀ c : Int, c = (((v * 32 + d) / 2 : Nat) : Int) → acc ++ bOf c = acc ++ bOf (((v * 32 + d) / 2 ^ (4 - 3) : Nat) : Int)) := Lib.hid (fun c hc => by rw [hc])
            have hmask : bits .and .i64 ((v * 32 + d : Nat) : Int) 1 = (((v * 32 + d) % 2 : Nat) : Int) := by
              have := i64_mask (v * 32 + d) 1 (by omega) (by decide)
              exact this
            clear hD2
            obtain ⟨V, hV⟩ : ∃ V, v * 32 + d = V := ⟨_, rfl⟩
            rw [hV] at hor hmask hq HD2 HB hV4
            have HVV := Lib.hid hV
            clear hV
            go_wp2_with fail
            (with_reducible refine (WriteByte_calls 37 bty_builder b r acc _ _ (by omega) (by omega) HS2.out.bld.bld (by omega)).mono ?_)
            rintro e w3 ⟨rfl, r3, hb3, hf3, hn3⟩
            rw [HB.out _ (by omega)] at hb3
            have HS3 := Lib.hid (HS2.out.write hb3 hf3 hn3)
            clear hb3 hf3 hn3 HS2
            have HIP3 := Lib.hid (HS3.out.pos)
            go_wp2_with fail
            refine ⟨⟨pos + 1, V % 2, 1, r3, _, by omega, rfl, rfl, rfl, by decide, Lib.hid (by omega), by rw [ByteArray.size_append, bOf_size]; omega, HS3, HD2⟩, ?_⟩
            rw [HIP.out.1, HIP3.out]
            omega
          | 5, _, _ =>
            have hq : (v * 32 + d) / 4 < 256 := by omega
            rw [decG_big HDV.out.1 (by decide), map_snoc acc ((v * 32 + d) / 2 ^ (5 - 3))] at hD2
            have HD2 := Lib.hid hD2
            have HB : Hid (∀ c : Int, c = (((v * 32 + d) / 4 : Nat) : Int) → acc ++ bOf c = acc ++ bOf (((v * 32 + d) / 2 ^ (5 - 3) : Nat) : Int)) := Lib.hid (fun c hc => by rw [hc])
            have hmask : bits .and .i64 ((v * 32 + d : Nat) : Int) 3 = (((v * 32 + d) % 4 : Nat) : Int) := by
              have := i64_mask (v * 32 + d) 2 (by omega) (by decide)
              exact this
            clear hD2
            obtain ⟨V, hV⟩ : ∃ V, v * 32 + d = V := ⟨_, rfl⟩
            rw [hV] at hor hmask hq HD2 HB hV4
            have HVV := Lib.hid hV
            clear hV
            go_wp2_with fail
            (with_reducible refine (WriteByte_calls 37 bty_builder b r acc _ _ (by omega) (by omega) HS2.out.bld.bld (by omega)).mono ?_)
            rintro e w3 ⟨rfl, r3, hb3, hf3, hn3⟩
            rw [HB.out _ (by omega)] at hb3
            have HS3 := Lib.hid (HS2.out.write hb3 hf3 hn3)
            clear hb3 hf3 hn3 HS2
            have HIP3 := Lib.hid (HS3.out.pos)
            go_wp2_with fail
            refine ⟨⟨pos + 1, V % 4, 2, r3, _, by omega, rfl, rfl, rfl, by decide, Lib.hid (by omega), by rw [ByteArray.size_append, bOf_size]; omega, HS3, HD2⟩, ?_⟩
            rw [HIP.out.1, HIP3.out]
            omega
          | 6, _, _ =>
            have hq : (v * 32 + d) / 8 < 256 := by omega
            rw [decG_big HDV.out.1 (by decide), map_snoc acc ((v * 32 + d) / 2 ^ (6 - 3))] at hD2
            have HD2 := Lib.hid hD2
            have HB : Hid (∀ c : Int, c = (((v * 32 + d) / 8 : Nat) : Int) → acc ++ bOf c = acc ++ bOf (((v * 32 + d) / 2 ^ (6 - 3) : Nat) : Int)) := Lib.hid (fun c hc => by rw [hc])
            have hmask : bits .and .i64 ((v * 32 + d : Nat) : Int) 7 = (((v * 32 + d) % 8 : Nat) : Int) := by
              have := i64_mask (v * 32 + d) 3 (by omega) (by decide)
              exact this
            clear hD2
            obtain ⟨V, hV⟩ : ∃ V, v * 32 + d = V := ⟨_, rfl⟩
            rw [hV] at hor hmask hq HD2 HB hV4
            have HVV := Lib.hid hV
            clear hV
            go_wp2_with fail
            (with_reducible refine (WriteByte_calls 37 bty_builder b r acc _ _ (by omega) (by omega) HS2.out.bld.bld (by omega)).mono ?_)
            rintro e w3 ⟨rfl, r3, hb3, hf3, hn3⟩
            rw [HB.out _ (by omega)] at hb3
            have HS3 := Lib.hid (HS2.out.write hb3 hf3 hn3)
            clear hb3 hf3 hn3 HS2
            have HIP3 := Lib.hid (HS3.out.pos)
            go_wp2_with fail
            refine ⟨⟨pos + 1, V % 8, 3, r3, _, by omega, rfl, rfl, rfl, by decide, Lib.hid (by omega), by rw [ByteArray.size_append, bOf_size]; omega, HS3, HD2⟩, ?_⟩
            rw [HIP.out.1, HIP3.out]
            omega
          | 7, _, _ =>
            have hq : (v * 32 + d) / 16 < 256 := by omega
            rw [decG_big HDV.out.1 (by decide), map_snoc acc ((v * 32 + d) / 2 ^ (7 - 3))] at hD2
            have HD2 := Lib.hid hD2
            have HB : Hid (∀ c : Int, c = (((v * 32 + d) / 16 : Nat) : Int) → acc ++ bOf c = acc ++ bOf (((v * 32 + d) / 2 ^ (7 - 3) : Nat) : Int)) := Lib.hid (fun c hc => by rw [hc])
            have hmask : bits .and .i64 ((v * 32 + d : Nat) : Int) 15 = (((v * 32 + d) % 16 : Nat) : Int) := by
              have := i64_mask (v * 32 + d) 4 (by omega) (by decide)
              exact this
            clear hD2
            obtain ⟨V, hV⟩ : ∃ V, v * 32 + d = V := ⟨_, rfl⟩
            rw [hV] at hor hmask hq HD2 HB hV4
            have HVV := Lib.hid hV
            clear hV
            go_wp2_with fail
            (with_reducible refine (WriteByte_calls 37 bty_builder b r acc _ _ (by omega) (by omega) HS2.out.bld.bld (by omega)).mono ?_)
            rintro e w3 ⟨rfl, r3, hb3, hf3, hn3⟩
            rw [HB.out _ (by omega)] at hb3
            have HS3 := Lib.hid (HS2.out.write hb3 hf3 hn3)
            clear hb3 hf3 hn3 HS2
            have HIP3 := Lib.hid (HS3.out.pos)
            go_wp2_with fail
            refine ⟨⟨pos + 1, V % 16, 4, r3, _, by omega, rfl, rfl, rfl, by decide, Lib.hid (by omega), by rw [ByteArray.size_append, bOf_size]; omega, HS3, HD2⟩, ?_⟩
            rw [HIP.out.1, HIP3.out]
            omega
          | n + 8, h, _ => exact absurd h (by omega)
      · have hbyte : 128 ≤ (s[pos]).toNat := by omega
        obtain ⟨hr1, hr2⟩ := decode_high s pos hlt hbyte
        have hnx := Lib.run_next_any_at (P := Tryd.prog) wr k s pos 0 H.out.it hlt
        have HS2 := Lib.hid (H.out.next (pos + (Utf8.decode s pos).2))
        have HX := Lib.hid (HIH.out (wr.iterAt k s (pos + (Utf8.decode s pos).2)) ((Utf8.decode s pos).1 : Int) (by omega) hr2)
        have hR : R = none := by rw [hD2, decG, digV_high hbyte]; rfl
        subst hR
        generalize (Utf8.decode s pos).1 = q at hnx HX
        generalize wr.iterAt k s (pos + (Utf8.decode s pos).2) = W2 at hnx HX HS2
        generalize pos + (Utf8.decode s pos).2 = pos2 at HS2
        clear hD2 hr1 hr2 hip H hbyte hasc
        go_wp2_with fail
        (with_reducible refine HX.out.mono ?_)
        rintro e w2 ⟨rfl, hf2⟩
        have HF2 := Lib.hid (HS2.out.bld.fr.then hf2)
        clear hnx HX hf2
        go_wp2_with fail
        (repeat rw [Exit.noGoto_ret])
        simp (config := { zetaDelta := true }) only [Exit.then, Exit.noGoto, Exit.inBlock]
        go_wp2_with fail
        go_ret2
        exact ⟨rfl, HF2.out⟩
    · have hnx := Lib.run_next_end_at (P := Tryd.prog) wr k s pos 0 H.out.it hlt
      have hD2 := HD.out
      rw [List.drop_of_length_le (by rw [Array.length_toList]; show s.size ≤ pos; omega), decG] at hD2
      clear hip HD
      by_cases hv0 : v = 0
      · by_cases hn5 : n < 5
        · have hR : R = some acc := by
            rw [hD2, if_pos ⟨hv0, hn5⟩]
            simp
          subst hR hv0
          have hn5' : ¬ (5 : Int) ≤ (n : Int) := by omega
          clear hD2
          go_wp2_with fail
          (with_reducible refine (String_calls 37 bty_builder b r acc _ H.out.bld.bld).mono ?_)
          rintro e w2 ⟨rfl, hb2, hf2⟩
          have HF2 := Lib.hid (H.out.bld.fr.trans hf2 (fun i hi => .inr (H.out.bld.new i (by simp [hi]))))
          clear hb2 hf2
          go_wp2_with fail
          (repeat rw [Exit.noGoto_ret])
          (try simp (config := { zetaDelta := true }) only [Exit.then, Exit.noGoto, Exit.inBlock])
          go_ret2
          exact ⟨rfl, HF2.out⟩
        · have hR : R = none := by rw [hD2, if_neg (fun h => hn5 h.2)]; rfl
          subst hR hv0
          have hn5' : (5 : Int) ≤ (n : Int) := by omega
          clear hD2
          go_wp2_with fail
          (repeat rw [Exit.noGoto_ret])
          (try simp (config := { zetaDelta := true }) only [Exit.then, Exit.noGoto, Exit.inBlock])
          go_ret2
          exact ⟨rfl, H.out.bld.fr⟩
      · have hR : R = none := by rw [hD2, if_neg (fun h => hv0 h.1)]; rfl
        subst hR
        have hv1 : ((v : Int) != 0) = true := by rw [bne_iff_ne]; omega
        have hv2 : ((v : Int) == 0) = false := beq_eq_false_iff_ne.2 (by omega)
        clear hD2
        go_wp2_with fail
        (repeat rw [Exit.noGoto_ret])
        (try simp (config := { zetaDelta := true }) only [Exit.then, Exit.noGoto, Exit.inBlock])
        go_ret2
        exact ⟨rfl, H.out.bld.fr⟩
end Go.Proofs.YtbfpfmnkmpcgpaaDoor
