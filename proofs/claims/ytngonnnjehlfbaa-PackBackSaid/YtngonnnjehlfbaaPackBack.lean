/- The law PackBack: for any numbers, texts and any byte the Go function returns true (its walk). -/
import Derived.Test.YtngonnnjehlfbaaAwake03
import Derived.Test.YtngonnnjehlfbaaPackPure4
import Derived.Test.YtngonnnjehlfbaaPackR2
import Derived.Test.YtngonnnjehlfbaaFewSize
import Derived.Test.YtngonnnjehlfbaaRef03W
import Derived.Deep.RegionWith
import Derived.Deep.RegionHeld3
import Derived.Deep.Cut
namespace Go.Proofs.Ytngonnnjehlfbaa
open Go.RowKit
set_option linter.unusedVariables false
set_option linter.unusedSimpArgs false

/-- The two readers. -/
structure Both (w wr : World) (a b : Nat) (sa sb : ByteArray) : Prop where
  ra : RS 91 wr a (some sa)
  rb : RS 91 wr b (some sb)
  fr : Fr [] w wr
  na : w.heap.size ≤ a
  nb : w.heap.size ≤ b
  ne : a ≠ b
theorem row_back {f : Nat} {args : Array Value} {W : World} {b : Nat} {x : List ByteArray} {st : Option ByteArray}
    (h : Calls Try.prog f args W fun e w' => ∃ v r, e = .returned v ∧ SRow 9 1 w' v r x.length (x.map .string) ∧ RS 91 w' b st ∧ Fr [b] W w' ∧ (∀ k, k ∈ r → W.heap.size ≤ k)) :
    Calls Try.prog f args W fun e w' => ∃ A1 c1, e = .returned (.slice A1 x.length c1) ∧ RdV w' A1 (x.map .string) ∧ (∀ ad, A1 = some ad → W.heap.size ≤ ad.block) ∧ RS 91 w' b st ∧ Fr [b] W w' := by
  refine h.mono ?_
  rintro e w' ⟨v, r, rfl, hsr, hrs, hf, hnew⟩
  obtain ⟨A1, c1, rfl, _, _, hrd, hA1⟩ := hsr.reads
  exact ⟨A1, c1, rfl, hrd, fun ad h => hnew _ (hA1 ad h), hrs, hf⟩
set_option maxHeartbeats 1000000 in
set_option maxRecDepth 100000 in
theorem W_Num_nil (b : Nat) (w : World) (A : Option Addr) (cap : Nat) :
    Calls Try.prog 16 #[.pointer (some ⟨b, 0, none⟩), .slice A 0 cap] w fun e w' => e = .returned (.pointer (some ⟨b, 0, none⟩)) ∧ w' = w := by
  go_enter Try.func16, Try.ntmps16
  go_wp2_with fail
  go_loopw [11] (fun v wr => v = .int .i64 0 ∧ wr = w) (fun _ _ => 0)
  case atStart => exact ⟨rfl, rfl⟩
  case round =>
    obtain ⟨rfl, rfl⟩ := hrel
    go_wp2_with fail
    go_ret
    exact ⟨rfl, rfl⟩
theorem W_Num_calls (b : Nat) (r : List Nat) (s : ByteArray) (w : World) (A : Option Addr) (cap : Nat) (l : List Int) {m : Nat} (hm : m = l.length) (hr : RdV w A (l.map (.int .u64))) (hw : ∀ x, x ∈ l → 0 ≤ x ∧ x < 18446744073709551616)
    (hlt : l ≠ [] → ∀ ad, A = some ad → ad.block ∉ b :: r ∧ ad.block < w.heap.size) (h : Bld 32 5 w b r s) (hlen : s.size + 10 * l.length + 10 ≤ 140737488355328) :
    Calls Try.prog 16 #[.pointer (some ⟨b, 0, none⟩), .slice A m cap] w fun e w' => e = .returned (.pointer (some ⟨b, 0, none⟩)) ∧ ∃ r', Bld 32 5 w' b r' (s ++ numsB l) ∧ Fr (b :: r) w w' ∧ (∀ k, k ∈ r' → k ∈ r ∨ w.heap.size ≤ k) := by
  subst hm
  by_cases hl : l = []
  · subst hl
    refine (W_Num_nil b w A cap).mono ?_
    rintro e w' ⟨rfl, rfl⟩
    exact ⟨rfl, r, by rw [numsB, app_nil]; exact h, Fr.refl _ _, fun k hk => .inl hk⟩
  · exact Writer_Num_calls _ bty_writer b r s w A cap l hr hw (fun ad ha => (hlt hl ad ha).1) (fun ad ha => (hlt hl ad ha).2) h hlen
theorem numsB_drop {l : List Int} {k : Nat} {x : Int} (hx : l[k]? = some x) : numsB (l.drop k) = numB x.toNat ++ numsB (l.drop (k + 1)) := by
  obtain ⟨h1, h2⟩ := List.getElem?_eq_some_iff.1 hx
  rw [List.drop_eq_getElem_cons h1, numsB, h2]
theorem txtsB_drop {l : List ByteArray} {k : Nat} {x : ByteArray} (hx : l[k]? = some x) : txtsB (l.drop k) = txtB x ++ txtsB (l.drop (k + 1)) := by
  obtain ⟨h1, h2⟩ := List.getElem?_eq_some_iff.1 hx
  rw [List.drop_eq_getElem_cons h1, txtsB, h2]

/-- One number more is read by both readers. -/
theorem num_step {w2 wr : World} {a q : Nat} {n : List Int} {m : List ByteArray} {c : Int} {i : Nat} {x : Int} (H : Both w2 wr a q (numsB (n.drop i) ++ txtsB m) (numsB (n.drop i) ++ (txtsB m ++ bOf c))) (hx : n[i]? = some x) (hnB : ∀ x, x ∈ n → 0 ≤ x ∧ x < 18446744073709551616) (hn : n.length ≤ 8) (hz : (txtsB m).size ≤ 1700) (hbz : (bOf c).size = 1) :
    ∃ (xn : Nat) (sa sb : ByteArray), x = (xn : Int) ∧ RS 91 wr a (some sa) ∧ RS 91 wr q (some sb) ∧
      Hid (∀ W, RS 91 W a (some sa) → Calls Try.prog 38 #[.pointer (some ⟨a, 0, none⟩), .int .u64 xn] W fun e w' => e = .returned (.int .u64 xn) ∧ RS 91 w' a (some (numsB (n.drop (i + 1)) ++ txtsB m)) ∧ Fr [a] W w') ∧
      Hid (∀ W, RS 91 W q (some sb) → Calls Try.prog 38 #[.pointer (some ⟨q, 0, none⟩), .int .u64 18446744073709551615] W fun e w' => e = .returned (.int .u64 xn) ∧ RS 91 w' q (some (numsB (n.drop (i + 1)) ++ (txtsB m ++ bOf c))) ∧ Fr [q] W w') := by
  obtain ⟨hx0, hx1⟩ := hnB x (List.mem_of_getElem? hx)
  obtain ⟨xn, rfl⟩ := Int.eq_ofNat_of_zero_le hx0
  have hdr := numsB_drop hx
  rw [Int.toNat_natCast] at hdr
  have hzd : (numsB (n.drop (i + 1))).size ≤ 80 := by
    have := numsB_size (n.drop (i + 1)) (fun y hy => (hnB y (List.mem_of_mem_drop hy)).2)
    rw [List.length_drop] at this
    omega
  have hxs := numB_size xn (by omega)
  have hra := H.ra
  have hrb := H.rb
  rw [hdr, app_assoc] at hra hrb
  generalize numsB (n.drop (i + 1)) = nd at *
  have hpa := pNum_wrote xn xn (nd ++ txtsB m) (by omega) (Nat.le_refl _)
  have hpb := pNum_wrote xn 18446744073709551615 (nd ++ (txtsB m ++ bOf c)) (by omega) (by omega)
  have hza : (numB xn ++ (nd ++ txtsB m)).size ≤ 100000 := by simp only [ByteArray.size_append]; omega
  have hzb : (numB xn ++ (nd ++ (txtsB m ++ bOf c))).size ≤ 100000 := by simp only [ByteArray.size_append]; omega
  refine ⟨xn, _, _, rfl, hra, hrb, fun W h => ?_, fun W h => ?_⟩
  · have h2 := R_Num_calls W a (some (numB xn ++ (nd ++ txtsB m))) (xn : Int) (by omega) (by omega) h (by simp only [Option.getD_some]; omega)
    rw [Int.toNat_natCast, hpa] at h2
    exact h2
  · have h2 := R_Num_calls W q (some (numB xn ++ (nd ++ (txtsB m ++ bOf c)))) 18446744073709551615 (by decide) (by decide) h (by simp only [Option.getD_some]; omega)
    rw [show (18446744073709551615 : Int).toNat = 18446744073709551615 from rfl, hpb] at h2
    exact h2
/-- One text more is read by both readers. -/
theorem txt_step {w2 wr : World} {a q : Nat} {m : List ByteArray} {c : Int} {i : Nat} {x : ByteArray} (H : Both w2 wr a q (txtsB (m.drop i) ++ ⟨#[]⟩) (txtsB (m.drop i) ++ bOf c)) (hx : m[i]? = some x) (hms : ∀ x, x ∈ m → x.size ≤ 200) (hml : m.length ≤ 8) (hbz : (bOf c).size = 1) :
    ∃ (sa sb : ByteArray), x.size ≤ 200 ∧ RS 91 wr a (some sa) ∧ RS 91 wr q (some sb) ∧
      Hid (∀ W, RS 91 W a (some sa) → Calls Try.prog 41 #[.pointer (some ⟨a, 0, none⟩), .int .i64 (x.size : Int)] W fun e w' => e = .returned (.string x) ∧ RS 91 w' a (some (txtsB (m.drop (i + 1)) ++ ⟨#[]⟩)) ∧ Fr [a] W w') ∧
      Hid (∀ W, RS 91 W q (some sb) → Calls Try.prog 41 #[.pointer (some ⟨q, 0, none⟩), .int .i64 200] W fun e w' => e = .returned (.string x) ∧ RS 91 w' q (some (txtsB (m.drop (i + 1)) ++ bOf c)) ∧ Fr [q] W w') := by
  have hxs := hms x (List.mem_of_getElem? hx)
  have hdr := txtsB_drop hx
  have hzd : (txtsB (m.drop (i + 1))).size ≤ 1700 := by
    have h1 := txtsB_size (m.drop (i + 1)) (fun y hy => by have := hms y (List.mem_of_mem_drop hy); omega)
    have h2 := sizes_few (m := m.drop (i + 1)) (fun y hy => hms y (List.mem_of_mem_drop hy))
    rw [List.length_drop] at h2
    omega
  have htx : (txtB x).size ≤ 210 := by have := numB_size x.size (by omega); simp only [txtB, ByteArray.size_append]; omega
  have hra := H.ra
  have hrb := H.rb
  rw [hdr, app_assoc] at hra hrb
  generalize txtsB (m.drop (i + 1)) = nd at *
  have hpa := pText_wrote x (nd ++ ⟨#[]⟩) (x.size : Int) (by omega) (by omega) (Int.le_refl _)
  have hpb := pText_wrote x (nd ++ bOf c) 200 (by decide) (by omega) (by omega)
  have hza : (txtB x ++ (nd ++ ⟨#[]⟩)).size ≤ 100000 := by rw [app_nil]; simp only [ByteArray.size_append]; omega
  have hzb : (txtB x ++ (nd ++ bOf c)).size ≤ 100000 := by simp only [ByteArray.size_append]; omega
  refine ⟨_, _, hxs, hra, hrb, fun W h => ?_, fun W h => ?_⟩
  · have h2 := R_Text_calls W a (some (txtB x ++ (nd ++ ⟨#[]⟩))) (x.size : Int) (by omega) (by omega) h (by simp only [Option.getD_some]; omega)
    rw [hpa] at h2
    exact h2
  · have h2 := R_Text_calls W q (some (txtB x ++ (nd ++ bOf c))) 200 (by decide) (by decide) h (by simp only [Option.getD_some]; omega)
    rw [hpb] at h2
    exact h2

theorem end_nil (a : Nat) (W : World) (h : RS 91 W a (some ⟨#[]⟩)) : Calls Try.prog 46 #[.pointer (some ⟨a, 0, none⟩)] W fun e w' => e = .returned (.bool true) ∧ W = w' := R_End_calls W a _ h
theorem end_one (a : Nat) (s : ByteArray) (hs : s.size = 1) (W : World) (h : RS 91 W a (some s)) : Calls Try.prog 46 #[.pointer (some ⟨a, 0, none⟩)] W fun e w' => e = .returned (.bool false) ∧ W = w' := by
  have h2 := R_End_calls W a _ h
  have h3 : pEnd (some s) = false := by
    show (s.size == 0) = false
    rw [hs]
    rfl
  rw [h3] at h2
  exact h2
theorem good_some (a : Nat) (s : ByteArray) (W : World) (h : RS 91 W a (some s)) : Calls Try.prog 39 #[.pointer (some ⟨a, 0, none⟩)] W fun e w' => e = .returned (.bool true) ∧ W = w' := R_Good_calls W a _ h
theorem rest_some (a : Nat) (s : ByteArray) (W : World) (h : RS 91 W a (some s)) : Calls Try.prog 40 #[.pointer (some ⟨a, 0, none⟩)] W fun e w' => e = .returned (.string s) ∧ W = w' := R_Rest_calls W a _ h
set_option maxHeartbeats 4000000 in
set_option maxRecDepth 100000 in
theorem PackBack_core (w : World) (A : Option Addr) (cap : Nat) (n0 : List Int) (hr : RdV w A (n0.map (.int .u64))) (hn : ∀ x, x ∈ n0 → Bd .u64 x) (hnl : n0.length ≤ maxLen) (hcap : n0.length ≤ cap) (B : Option Addr) (capB : Nat) (l : List ByteArray) (hrl : RdV w B (l.map .string)) (hsz : ∀ x, x ∈ l → x.size ≤ maxLen) (hll : l.length ≤ maxLen) (c : Int) (hc : Bd .u8 c) :
    Calls Try.prog 11 #[.slice A n0.length cap, .slice B l.length capB, .int .u8 c] w fun e w' => e = .returned (.bool true) ∧ Fr [] w w' := by
  obtain ⟨hc0, hc1⟩ := hc.u8
  have hcv : ∀ (W : World) (b : Nat), W.cell? ⟨b, 0, none⟩ = some (.int .u8 c) → (convert 26 9 (.slice (some ⟨b, 0, none⟩) 1 1)).run Try.prog W = .ok (.string (bOf c)) W := fun W b h => run_toString1 hc0 hc1 h
  have hbz : (bOf c).size = 1 := bOf_size c
  unfold maxLen at hnl
  clear hc
  go_enter Try.func11, Try.ntmps11
  go_wp2_with fail
  (with_reducible refine (awake03_calls _).mono ?_)
  rintro e w1 ⟨rfl, hf1⟩
  go_wp2_with fail
  (with_reducible refine (few03_calls _ B capB l (hrl.keep hf1 (by simp)) hsz hll).mono ?_)
  rintro e w2 ⟨v, r, rfl, hsr, hf2, hnew⟩
  have hms := fewB_size l
  have hml := fewB_length l
  generalize fewB l = m at *
  have hmz := sizes_few hms
  have hA1lt : ∀ k, k ∈ r → k < w2.heap.size := hsr.lt
  obtain ⟨A1, c1, rfl, -, -, hrd, hA1⟩ := hsr.reads
  have hA2 : ∀ ad, A1 = some ad → ad.block < w2.heap.size := fun ad h => hA1lt _ (hA1 ad h)
  have hF2 := hf1.then hf2
  have hr2 := hr.keep hF2 (by simp)
  have hw2 := hF2.size
  clear hsr hnew hf1 hf2 hA1 hA1lt hrl hsz hll hr
  have HN0 := Lib.hid hn
  clear hn
  go_upto_if 23 with fail
  go_cut [0] from 18 (fun s0 wx => wx = w2 ∧ ∃ (AA : Option Addr) (cp : Nat) (n : List Int), s0 = .slice AA n.length cp ∧ Hid (RdV w2 AA (n.map (.int .u64)) ∧ (∀ x, x ∈ n → 0 ≤ x ∧ x < 18446744073709551616) ∧ n.length ≤ 8 ∧ (n ≠ [] → ∀ ad', AA = some ad' → ad'.block < w2.heap.size)))
  case first =>
    by_cases h8 : 8 < n0.length
    · obtain ⟨ad, rfl, hc8⟩ := hr2 0 _ (by rw [List.getElem?_map, List.getElem?_eq_getElem (by omega : 0 < n0.length)]; rfl)
      have hnl8 : (n0.take 8).length = 8 := by rw [List.length_take]; omega
      have hcap8 : (8 : Int) ≤ (cap : Int) := by omega
      have hd8 : decide ((8 : Int) < (n0.length : Int)) = true := decide_eq_true (by omega)
      go_wp2_with fail
      go_meet
      refine ⟨rfl, some ad, cap, n0.take 8, by rw [hnl8], ?_, fun x hx => (HN0.out x (List.mem_of_mem_take hx)).u64, by omega, fun _ ad' h => ?_⟩
      · intro j v hj
        refine hr2 j v ?_
        rw [List.map_take, List.getElem?_take] at hj
        split at hj
        · exact hj
        · cases hj
      · injection h with h
        subst h
        have := World.block_lt_of_cell? _ _ hc8
        unfold Addr.add at this
        split at this <;> exact this
    · have hd8 : decide ((8 : Int) < (n0.length : Int)) = false := decide_eq_false (by omega)
      go_wp2_with fail
      go_meet
      refine ⟨rfl, A, cap, n0, rfl, hr2, fun x hx => (HN0.out x hx).u64, by omega, fun hne ad' h => ?_⟩
      exact hr2.lt h (by simpa using hne)
  case rest =>
    obtain ⟨hwc, AA, cp, n, rfl, HH⟩ := hcut
    obtain rfl : w2 = wc := hwc.symm
    clear hwc
    obtain ⟨hr3, hnB, hnl8, hadlt⟩ := HH.out
    clear HH HN0 hr2 hcap hnl
    go_wp2_with fail
    have hx0 : BldN 32 5 w2 _ w2.heap.size [] ⟨#[]⟩ := BldN.make 32 5 (Fr.refl [] w2) rfl
    have e0 : (⟨#[]⟩ : ByteArray).size = 0 := rfl
    generalize hbb : w2.heap.size = b at hx0 ⊢
    have hdA : ∀ (r : List Nat) (s : ByteArray) (W : World), BldN 32 5 w2 W b r s → ∀ ad, A1 = some ad → ad.block ∉ b :: r ∧ ad.block < W.heap.size := fun r s W h ad ha => ⟨fun hmem => by have := h.new _ hmem; have := hA2 ad ha; omega, by have := h.fr.size; have := hA2 ad ha; omega⟩
    have hdN : ∀ (r : List Nat) (s : ByteArray) (W : World), BldN 32 5 w2 W b r s → n ≠ [] → ∀ ad', AA = some ad' → ad'.block ∉ b :: r ∧ ad'.block < W.heap.size := fun r s W h hne ad' ha => ⟨fun hmem => by have := h.new _ hmem; have := hadlt hne ad' ha; omega, by have := h.fr.size; have := hadlt hne ad' ha; omega⟩
    (with_reducible refine (Writer_Row_calls _ bty_writer b [] _ _ A1 c1 m (hrd.keep hx0.fr (by simp)) (fun ad ha => (hdA _ _ _ hx0 ad ha).1) (fun ad ha => (hdA _ _ _ hx0 ad ha).2) hx0.bld (by omega)).mono ?_)
    rintro e w3 ⟨rfl, r3, h3, hf3, hn3⟩
    have hx1 := hx0.step h3 hf3 hn3
    rw [nil_app] at hx1
    have z1 := rowB_size m (by omega)
    clear h3 hf3 hn3 hx0
    go_wp2_with fail
    (with_reducible refine (W_Num_calls b r3 _ _ AA cp n rfl (hr3.keep hx1.fr (by simp)) hnB (fun hne ad' ha => hdN _ _ _ hx1 hne ad' ha) hx1.bld (by omega)).mono ?_)
    rintro e w4 ⟨rfl, r4, h4, hf4, hn4⟩
    have hx2 := hx1.step h4 hf4 hn4
    have z2 := numsB_size n (fun x hx => (hnB x hx).2)
    clear h4 hf4 hn4 hx1
    go_wp2_with fail
    (with_reducible refine (Writer_Text_calls _ bty_writer b r4 _ _ A1 c1 m (hrd.keep hx2.fr (by simp)) (fun ad ha => (hdA _ _ _ hx2 ad ha).1) hx2.bld (by rw [ByteArray.size_append]; omega)).mono ?_)
    rintro e w5 ⟨rfl, r5, h5, hf5, hn5⟩
    have hx3 := hx2.step h5 hf5 hn5
    have z3 := txtsB_size m (fun x hx => by have := hms x hx; omega)
    have zT : (rowB m ++ numsB n ++ txtsB m).size ≤ 10000 := by rw [ByteArray.size_append, ByteArray.size_append]; omega
    have hTe : rowB m ++ numsB n ++ txtsB m = rowB m ++ (numsB n ++ txtsB m) := by rw [app_assoc]
    have hTc : rowB m ++ numsB n ++ txtsB m ++ bOf c = rowB m ++ (numsB n ++ (txtsB m ++ bOf c)) := by simp only [app_assoc]
    have HTE := Lib.hid hTe
    have HTC := Lib.hid hTc
    generalize rowB m ++ numsB n ++ txtsB m = T at *
    clear h5 hf5 hn5 hx2 hTe hTc z1 z2 z3 hdA hdN
    go_wp2_with fail
    (with_reducible refine (Writer_String_calls _ bty_writer b r5 _ _ hx3.bld).mono ?_)
    rintro e w6 ⟨rfl, h6, hf6⟩
    have hx4 := hx3.step h6 (hf6.mono (fun k hk _ => by simp [hk])) (fun k hk => .inl hk)
    clear h6 hf6 hx3
    go_wp2_with fail
    (with_reducible refine (pack_Read_calls _ T).mono ?_)
    rintro e w7 ⟨a, rfl, ha, hra, hf7⟩
    have hx5 := hx4.other hf7 (by simp) (by simp)
    have hab : ∀ k, k ∈ b :: r5 → k ≠ a := fun k hk => by have := hx4.bld.lt k hk; omega
    have ha2 : w2.heap.size ≤ a := by have := hx4.fr.size; omega
    clear hx4 hf7 ha
    have hal := hra.lt
    have hcc : (w7.alloc (.cells #[.int .u8 c] 5)).drew.cell? ⟨w7.heap.size, 0, none⟩ = some (.int .u8 c) := by simp
    have hcx : ∀ W : World, (W.alloc (.cells #[.int .u8 c] 5)).cell? ⟨W.heap.size, 0, none⟩ = some (.int .u8 c) := fun W => by simp
    have g1 : (9223372036854775807 < T.size + (bOf c).size) = False := eq_false (by omega)
    have g2 : (9223372036854775807 < T.size + 1) = False := eq_false (by omega)
    have hbW := hx5.bld
    have HX5 := Lib.hid hx5
    have HRA := Lib.hid hra
    clear hx5 hra
    go_wp2_with fail
    go_cut [11] from 40 (fun s11 wx => ∃ q, s11 = .pointer (some ⟨q, 0, none⟩) ∧ Hid (Both w2 wx a q T (T ++ bOf c)))
    case first =>
      go_region_with (first
        | (go_at_call 17; refine (Writer_String_calls _ bty_writer b r5 T _ (by first | exact hbW | exact Bld.keep hbW (((Fr.refl [] w7).alloc (.cells #[.int .u8 c] 5)).drew) (by simp))).mono ?_; rintro e w' ⟨rfl, h9, hf9⟩; (try have hc9 := hf9.cell' (p := ⟨w7.heap.size, 0, none⟩) hcc (fun hm => by have := hbW.lt _ (List.mem_cons_of_mem _ hm); simp at this)); (have hcx9 := hcx w'); (have hFS : Fr r5 w7 w' := by first | exact ((Fr.refl r5 w7).drew).trans hf9 (fun k hk => .inl hk) | exact (((Fr.refl r5 w7).alloc _).drew).trans hf9 (fun k hk => .inl hk)))
        | (go_at_call 37; refine (pack_Read_calls _ (T ++ bOf c)).mono ?_; rintro e w'' ⟨q, rfl, hq, hrq, hfq⟩; (have hFR : Fr r5 w7 w'' := by first | exact hFS.then hfq | exact (hFS.alloc _).then hfq); (have hqa : w'.heap.size ≤ q := by first | exact hq | (simp at hq; omega))))
      all_goals
        go_wp2_with fail
        go_meet
        have hs9 := hFS.size
        exact ⟨q, rfl, HRA.out.keep hFR (fun hm => hab a (by simp [hm]) rfl), hrq, HX5.out.fr.trans hFR (fun k hk => .inr (HX5.out.new k (by simp [hk]))), ha2, by omega, by omega⟩
    case rest =>
      obtain ⟨q, rfl, HB⟩ := hcut
      have hp1 : pRow (some T) 8 200 = (m, some (numsB n ++ txtsB m)) := by
        rw [HTE.out]
        exact pRow_wrote m _ 8 200 (by decide) (by omega) (by omega) (fun x hx => ⟨by have := hms x hx; omega, by have := hms x hx; omega⟩)
      have hp2 : pRow (some (T ++ bOf c)) 8 200 = (m, some (numsB n ++ (txtsB m ++ bOf c))) := by
        rw [HTC.out]
        exact pRow_wrote m _ 8 200 (by decide) (by omega) (by omega) (fun x hx => ⟨by have := hms x hx; omega, by have := hms x hx; omega⟩)
      have zTc : (T ++ bOf c).size ≤ 20000 := by rw [ByteArray.size_append]; omega
      have HRA1 := Lib.hid (fun W h => row_back (by have h2 := R_Row_calls W a (some T) 8 200 (by decide) (by decide) (by decide) (by decide) h (by simp only [Option.getD_some]; omega); rw [hp1] at h2; exact h2))
      have HRB1 := Lib.hid (fun W h => row_back (by have h2 := R_Row_calls W q (some (T ++ bOf c)) 8 200 (by decide) (by decide) (by decide) (by decide) h (by simp only [Option.getD_some]; omega); rw [hp2] at h2; exact h2))
      have z2 := numsB_size n (fun x hx => (hnB x hx).2)
      have z3 := txtsB_size m (fun x hx => by have := hms x hx; omega)
      have HSM := Lib.hid (fun (W : World) (A B : Option Addr) (c d : Nat) (h1 : RdV W A (m.map .string)) (h2 : RdV W B (m.map .string)) => by have h := Same03_calls W A B c d m m h1 h2 (by simp only [maxLen]; omega) (by simp only [maxLen]; omega); rw [show sameB m m = true from decide_eq_true rfl] at h; exact h)
      clear hp1 hp2 HX5 HRA hbW hcc hcx g1 g2 hal hab
      have hra := HB.out.ra
      have hrb := HB.out.rb
      have hfr := HB.out.fr
      have hna := HB.out.na
      have hnb := HB.out.nb
      have hne := HB.out.ne
      have HF2 := Lib.hid hF2
      clear HB ha2 HTE HTC hF2
      have hqa : q ∉ [a] := by simp; omega
      have haq : a ∉ [q] := by simp; omega
      go_wp2_with fail
      have hqlt0 := hrb.lt
      (with_reducible refine (HRA1.out _ hra).mono ?_)
      rintro e w8 ⟨X1, cx, rfl, hx1, hX1, hra, hf8⟩
      have hX1q : ∀ ad, X1 = some ad → ad.block ∉ [q] := fun ad h => by have := hX1 ad h; simp; omega
      have hrb := hrb.keep hf8 hqa
      have hfr := hfr.trans hf8 (fun k hk => .inr (by simp at hk; omega))
      have hqlt := hrb.lt
      clear HRA1 hX1
      go_wp2_with fail
      (with_reducible refine (HRB1.out _ hrb).mono ?_)
      rintro e w9 ⟨X2, cy, rfl, hx2, hX2, hrb, hf9⟩
      have hra := hra.keep hf9 haq
      have hfr := hfr.trans hf9 (fun k hk => .inr (by simp at hk; omega))
      have hx1 := hx1.keep hf9 hX1q
      have hrd9 := hrd.keep hfr (by simp)
      clear hf8 hf9 HRB1 hX2 hX1q hqlt hqlt0
      go_wp2_with fail
      (with_reducible refine (HSM.out _ _ _ _ _ hx1 hrd9).mono ?_)
      rintro e w10 ⟨rfl, hf10⟩
      have hx2 := hx2.keep hf10 (by simp)
      have hrd9 := hrd9.keep hf10 (by simp)
      have hra := hra.keep hf10 (by simp)
      have hrb := hrb.keep hf10 (by simp)
      have hfr := hfr.then hf10
      clear hf10 hx1
      go_wp2_with fail
      (with_reducible refine (HSM.out _ _ _ _ _ hx2 hrd9).mono ?_)
      rintro e w11 ⟨rfl, hf11⟩
      have hra := hra.keep hf11 (by simp)
      have hrb := hrb.keep hf11 (by simp)
      have hfr := hfr.then hf11
      have hBB : Both w2 w11 a q (numsB n ++ txtsB m) (numsB n ++ (txtsB m ++ bOf c)) := ⟨hra, hrb, hfr, hna, hnb, hne⟩
      have HBB := Lib.hid hBB
      have HR3 := Lib.hid hr3
      have HNB := Lib.hid hnB
      have HRD := Lib.hid hrd
      have HMS := Lib.hid hms
      have HZ2 := Lib.hid z2
      have HZ3 := Lib.hid z3
      have HTZ : Hid ((txtsB m).size ≤ 1700) := by show (txtsB m).size ≤ 1700; omega
      clear hf11 hx2 hrd9 hra hrb hfr HSM hBB hr3 hnB hrd hms z2 z3 hna hnb hadlt hA2 zT zTc hmz
      go_upto_if 68 with fail
      go_cut [] from 18 (fun wx => wx = w11)
      case first =>
        go_wp2_with fail
        go_meet
        rfl
      case rest =>
        obtain rfl : w11 = wc := hcut.symm
        clear hcut
        go_wp2_with fail
        go_loopw [16] (fun v16 wr => ∃ (i : Nat), v16 = .int .i64 i ∧ i ≤ n.length ∧ Hid (Both w2 wr a q (numsB (n.drop i) ++ txtsB m) (numsB (n.drop i) ++ (txtsB m ++ bOf c)))) (fun v16 _ => n.length - (intOf v16).toNat)
        case atStart => exact ⟨0, rfl, Nat.zero_le _, HBB.out⟩
        case round =>
          obtain ⟨i, rfl, hin, H⟩ := hrel
          by_cases hlt : i < n.length
          · obtain ⟨x, hx⟩ : ∃ x, n[i]? = some x := ⟨_, List.getElem?_eq_getElem hlt⟩
            obtain ⟨xn, sa, sb, rfl, hra0, hrb0, HNA, HNQ⟩ := num_step H.out hx HNB.out hnl8 HTZ.out hbz
            obtain ⟨ad, rfl, hc⟩ := HR3.out i (.int .u64 xn) (by rw [List.getElem?_map, hx]; rfl)
            have hadb := World.block_lt_of_cell? _ _ hc
            have hc := H.out.fr.cell' hc (by simp)
            have hna := H.out.na
            have hnb := H.out.nb
            have hF0 : Fr [] w2 wr.drew := H.out.fr.drew
            have hra0 : RS 91 wr.drew a (some sa) := hra0
            have hrb0 : RS 91 wr.drew q (some sb) := hrb0
            have hi0 : (0 : Int) ≤ (i : Int) := Int.natCast_nonneg _
            have hi1 : (i : Int) < (n.length : Int) := Int.ofNat_lt.2 hlt
            have had1 : (ad.add i).block ∉ [a] := fun hm => Nat.lt_irrefl _ (Nat.lt_of_lt_of_le hadb ((List.mem_singleton.1 hm) ▸ hna))
            have had2 : (ad.add i).block ∉ [q] := fun hm => Nat.lt_irrefl _ (Nat.lt_of_lt_of_le hadb ((List.mem_singleton.1 hm) ▸ hnb))
            clear H hx hadb
            go_wp2_with fail
            go_region_held3 (fun w' => w'.cell? (ad.add i) = some (.int .u64 xn)) (first | exact hcB | exact hcA | exact hc | go_keep)
              (first
              | (go_at_call 38; (with_reducible refine (HNQ.out _ hrb9).mono ?_); rintro e wB ⟨rfl, hrbB, hfB⟩; (have hcB := hfB.cell' hcA had2))
              | (go_at_call 38; (with_reducible refine (HNA.out _ hra0).mono ?_); rintro e wA ⟨rfl, hraA, hfA⟩; (have hcA := hfA.cell' hc had1); (have hrb9 := hrb0.keep hfA hqa)))
            all_goals
              have hB : Both w2 wB a q (numsB (n.drop (i + 1)) ++ txtsB m) (numsB (n.drop (i + 1)) ++ (txtsB m ++ bOf c)) := ⟨hraA.keep hfB haq, hrbB, (hF0.trans hfA (fun k hk => .inr (by simp at hk; omega))).trans hfB (fun k hk => .inr (by simp at hk; omega)), hna, hnb, hne⟩
              have HB := Lib.hid hB
              clear hB hraA hrbB hfA hfB hcA hcB hrb9 hra0 hrb0 hF0 hc HNA HNQ
              go_wp2_with fail
              exact ⟨⟨i + 1, by go_num, hlt, HB.out⟩, by simp only [intOf]; omega⟩
          · obtain rfl : i = n.length := by omega
            have hB := H.out
            rw [List.drop_length, numsB, nil_app, nil_app] at hB
            have hB2 : Both w2 wr a q (txtsB (m.drop 0) ++ ⟨#[]⟩) (txtsB (m.drop 0) ++ bOf c) := by rw [List.drop_zero, app_nil]; exact hB
            have HB2 := Lib.hid hB2
            clear H hB hB2 HBB HR3 HNB
            go_wp2_with fail
            go_loopw [17] (fun v17 wr => ∃ (i : Nat), v17 = .int .i64 i ∧ i ≤ m.length ∧ Hid (Both w2 wr a q (txtsB (m.drop i) ++ ⟨#[]⟩) (txtsB (m.drop i) ++ bOf c))) (fun v17 _ => m.length - (intOf v17).toNat)
            case atStart => exact ⟨0, rfl, Nat.zero_le _, HB2.out⟩
            case round =>
              clear HB2
              obtain ⟨i, rfl, him, H⟩ := hrel
              by_cases hlt : i < m.length
              · obtain ⟨x, hx⟩ : ∃ x, m[i]? = some x := ⟨_, List.getElem?_eq_getElem hlt⟩
                obtain ⟨sa, sb, hxs, hra0, hrb0, HNA, HNQ⟩ := txt_step H.out hx HMS.out hml hbz
                obtain ⟨ad, rfl, hc⟩ := HRD.out i (.string x) (by rw [List.getElem?_map, hx]; rfl)
                have hadb := World.block_lt_of_cell? _ _ hc
                have hc := H.out.fr.cell' hc (by simp)
                have hna := H.out.na
                have hnb := H.out.nb
                have hF0 : Fr [] w2 wr.drew := H.out.fr.drew
                have hra0 : RS 91 wr.drew a (some sa) := hra0
                have hrb0 : RS 91 wr.drew q (some sb) := hrb0
                have hi0 : (0 : Int) ≤ (i : Int) := Int.natCast_nonneg _
                have hi1 : (i : Int) < (m.length : Int) := Int.ofNat_lt.2 hlt
                have had1 : (ad.add i).block ∉ [a] := fun hm => Nat.lt_irrefl _ (Nat.lt_of_lt_of_le hadb ((List.mem_singleton.1 hm) ▸ hna))
                have had2 : (ad.add i).block ∉ [q] := fun hm => Nat.lt_irrefl _ (Nat.lt_of_lt_of_le hadb ((List.mem_singleton.1 hm) ▸ hnb))
                clear H hx hadb
                go_wp2_with fail
                go_region_held3 (fun w' => w'.cell? (ad.add i) = some (.string x)) (first | exact hcB | exact hcA | exact hc | go_keep)
                  (first
                  | (go_at_call 41; (with_reducible refine (HNQ.out _ hrb9).mono ?_); rintro e wB ⟨rfl, hrbB, hfB⟩; (have hcB := hfB.cell' hcA had2))
                  | (go_at_call 41; (with_reducible refine (HNA.out _ hra0).mono ?_); rintro e wA ⟨rfl, hraA, hfA⟩; (have hcA := hfA.cell' hc had1); (have hrb9 := hrb0.keep hfA hqa)))
                all_goals
                  have hB : Both w2 wB a q (txtsB (m.drop (i + 1)) ++ ⟨#[]⟩) (txtsB (m.drop (i + 1)) ++ bOf c) := ⟨hraA.keep hfB haq, hrbB, (hF0.trans hfA (fun k hk => .inr (by simp at hk; omega))).trans hfB (fun k hk => .inr (by simp at hk; omega)), hna, hnb, hne⟩
                  have HB := Lib.hid hB
                  clear hB hraA hrbB hfA hfB hcA hcB hrb9 hra0 hrb0 hF0 hc HNA HNQ
                  go_wp2_with fail
                  exact ⟨⟨i + 1, by go_num, hlt, HB.out⟩, by simp only [intOf]; omega⟩
              · obtain rfl : i = m.length := by omega
                have hB := H.out
                rw [List.drop_length, txtsB, nil_app, nil_app] at hB
                have hra := hB.ra
                have hrb := hB.rb
                have hF := HF2.out.then hB.fr
                have HEA := Lib.hid (end_nil a)
                have HGA := Lib.hid (good_some a ⟨#[]⟩)
                have HEQ := Lib.hid (end_one q (bOf c) hbz)
                have HGQ := Lib.hid (good_some q (bOf c))
                have HRQ := Lib.hid (rest_some q (bOf c))
                have hcc : (wr.alloc (.cells #[.int .u8 c] 5)).drew.cell? ⟨wr.heap.size, 0, none⟩ = some (.int .u8 c) := by simp
                clear H hB HRD HMS HZ2 HZ3 HTZ
                go_wp2_with fail
                have hraX : RS 91 wr.drew a (some ⟨#[]⟩) := hra
                have hrbX : RS 91 wr.drew q (some (bOf c)) := hrb
                have hrbY : RS 91 (wr.alloc (.cells #[.int .u8 c] 5)).drew q (some (bOf c)) := hrb.keep (((Fr.refl [] wr).alloc _).drew) (by simp)
                clear hra hrb
                go_region_with (first
                  | (go_at_call 46; (with_reducible refine (HEA.out _ hraX).mono ?_); rintro e w9 ⟨rfl, rfl⟩)
                  | (go_at_call 46; (with_reducible refine (HEQ.out _ hrbX).mono ?_); rintro e w9 ⟨rfl, rfl⟩)
                  | (go_at_call 39; (with_reducible refine (HGA.out _ hraX).mono ?_); rintro e w9 ⟨rfl, rfl⟩)
                  | (go_at_call 39; (with_reducible refine (HGQ.out _ hrbX).mono ?_); rintro e w9 ⟨rfl, rfl⟩)
                  | (go_at_call 40; (with_reducible refine (HRQ.out _ hrbX).mono ?_); rintro e w9 ⟨rfl, rfl⟩)
                  | (go_at_call 40; (with_reducible refine (HRQ.out _ hrbY).mono ?_); rintro e w9 ⟨rfl, rfl⟩))
                all_goals
                  go_wp2_with fail
                  go_ret
                  exact ⟨rfl, (hF.alloc _).drew⟩
theorem PackBack_walk (w : World) (A : Option Addr) (cap : Nat) (n0 : List Int) (hr : RdV w A (n0.map (.int .u64))) (hn : ∀ x, x ∈ n0 → Bd .u64 x) (hnl : n0.length ≤ maxLen) (hcap : n0.length ≤ cap) (B : Option Addr) (capB : Nat) (l : List ByteArray) (hrl : RdV w B (l.map .string)) (hsz : ∀ x, x ∈ l → x.size ≤ maxLen) (hll : l.length ≤ maxLen) (c : Int) (hc : Bd .u8 c) :
    Calls Try.prog 11 #[.slice A n0.length cap, .slice B l.length capB, .int .u8 c] w fun e w' => e = .returned (.bool true) ∧ Fr [] w w' := PackBack_core w A cap n0 hr hn hnl hcap B capB l hrl hsz hll c hc
end Go.Proofs.Ytngonnnjehlfbaa
