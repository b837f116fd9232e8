/- The law FrameTells: for any bytes, texts and numbers the Go function returns true (its walk). -/
import Derived.Test.YtjlhbmgbiobpaaaDoorFrameScan
import Derived.Test.YtjlhbmgbiobpaaaDoorFrameEmpty
import Derived.Test.YtjlhbmgbiobpaaaDoorFew04
import Derived.Test.YtjlhbmgbiobpaaaDoorFrameAwake
import Derived.Test.YtjlhbmgbiobpaaaDoorBS
import Derived.Test.YtjlhbmgbiobpaaaDoorRef04B
import Derived.Test.YtjlhbmgbiobpaaaDoorSame03
import Derived.Test.YtjlhbmgbiobpaaaDoorMask
import Derived.Deep.Cut
import Derived.Deep.RegionWith
namespace Go.Proofs.YtjlhbmgbiobpaaaDoor
open Go.RowKit
set_option linter.unusedVariables false
set_option linter.unusedSimpArgs false

theorem sameB_self (x : List ByteArray) : sameB x x = true := decide_eq_true rfl
theorem next_both (s : ByteArray) : ∃ (a : ByteArray) (n : Int) (ok : Bool), nextV (nextB s) = .tuple #[.string a, .int .i64 n, .bool ok] ∧ gotV (nextB s) = .agg #[.string a, .int .i64 n] ∧ decide ((0 : Int) < n) = ok := by
  cases hq : nextB s with
  | none => exact ⟨_, _, _, rfl, rfl, rfl⟩
  | some x =>
    obtain ⟨t, k⟩ := x
    have := nextB_le hq
    exact ⟨_, _, _, rfl, rfl, decide_eq_true (by omega)⟩
theorem Fr.rdv {w w' : World} (h : Fr [] w w') {A : Option Addr} {vs : List Value} (hr : RdV w A vs) : RdV w' A vs := hr.keep h (by simp)

theorem scan_bounds (s : ByteArray) : ∀ (m a : Nat), s.size - a ≤ m → (scanAt s a).length ≤ s.size - a ∧ ∀ x, x ∈ scanAt s a → x.2 ≤ s.size := by
  intro m
  induction m with
  | zero =>
    intro a ha
    have : nextB (s.extract a s.size) = none := by
      cases hq : nextB (s.extract a s.size) with
      | none => rfl
      | some x =>
        have h := nextB_le (t := x.1) (k := x.2) hq
        rw [ByteArray.size_extract] at h
        omega
    rw [scanAt_none this]
    exact ⟨Nat.zero_le _, fun x hx => by cases hx⟩
  | succ m ih =>
    intro a ha
    cases hq : nextB (s.extract a s.size) with
    | none =>
      rw [scanAt_none hq]
      exact ⟨Nat.zero_le _, fun x hx => by cases hx⟩
    | some x =>
      obtain ⟨t, k⟩ := x
      have h := nextB_le hq
      rw [ByteArray.size_extract] at h
      obtain ⟨h1, h2⟩ := ih (a + k) (by omega)
      rw [scanAt_some hq]
      refine ⟨by rw [List.length_cons]; omega, fun x hx => ?_⟩
      rcases List.mem_cons.1 hx with rfl | hx
      · show a + k ≤ s.size
        omega
      · exact h2 x hx
theorem textsB_len (s : ByteArray) : (textsB s).length ≤ s.size := by
  unfold textsB
  rw [List.length_map]
  exact (scan_bounds s _ 0 (Nat.le_refl _)).1
theorem foldl_last : ∀ (l : List (ByteArray × Nat)) (a m : Nat), a ≤ m → (∀ x, x ∈ l → x.2 ≤ m) → List.foldl (fun _ (x : ByteArray × Nat) => x.2) a l ≤ m := by
  intro l
  induction l with
  | nil => intro a m h _; exact h
  | cons x l ih => intro a m _ hl; exact ih x.2 m (hl x (by simp)) (fun y hy => hl y (by simp [hy]))
theorem endOf_le (s : ByteArray) : endOf s ≤ s.size := foldl_last _ 0 _ (Nat.zero_le _) (scan_bounds s _ 0 (Nat.le_refl _)).2

set_option maxHeartbeats 2000000 in
set_option maxRecDepth 100000 in
theorem tells_calls (w : World) (s : ByteArray) (hs : s.size ≤ 1000) (at' : Int) (hat : Bd .i64 at') :
    Calls Tryd.prog 13 #[.string s, .int .i64 at'] w fun e w' => e = .returned (.bool true) ∧ Fr [] w w' := by
  obtain ⟨a, n, ok, hnv, hgv, hok⟩ := next_both s
  have HNV := Lib.hid hnv
  have HGV := Lib.hid hgv
  have HOK := Lib.hid hok
  have hm3 : ∀ x, x ∈ [s, ⟨#[120]⟩, s] → x.size ≤ 1000 := fun x hx => by
    simp at hx
    rcases hx with rfl | rfl | rfl
    · exact hs
    · decide
    · exact hs
  have HALL : Hid (∀ (W : World) (A : Option Addr), RdV W A ([s, ⟨#[120]⟩, s].map .string) → Calls Tryd.prog 28 #[.slice A 3 3] W fun e w' => e = .returned (.string (allB [s, ⟨#[120]⟩, s])) ∧ Fr [] W w') := Lib.hid (fun W A h => All_calls W A 3 [s, ⟨#[120]⟩, s] h hm3 (by show 3 ≤ 1000000; decide))
  have HRALL : Hid (∀ (W : World) (A : Option Addr), RdV W A ([s, ⟨#[120]⟩, s].map .string) → Calls Tryd.prog 12 #[.slice A 3 3] W fun e w' => e = .returned (.string (allB [s, ⟨#[120]⟩, s])) ∧ Fr [] W w') := Lib.hid (fun W A h => RAll_calls W A 3 [s, ⟨#[120]⟩, s] h hm3 (by show 3 ≤ 1000000; decide))
  have hend : endOf s ≤ s.size := endOf_le s
  clear hnv hgv hok hm3
  generalize allB [s, ⟨#[120]⟩, s] = al at HALL HRALL
  go_enter Tryd.func13, Tryd.ntmps13
  go_wp2_with fail
  (with_reducible refine (Next_calls _ s (by omega)).mono ?_)
  rintro e w1 ⟨rfl, hf1⟩
  rw [HNV.out]
  go_wp2_with fail
  (with_reducible refine (RNext_calls _ s (by omega)).mono ?_)
  rintro e w2 ⟨rfl, hf2⟩
  rw [HGV.out]
  have HF2 := Lib.hid (hf1.then hf2)
  clear hf1 hf2 HNV HGV
  go_wp2_with fail
  have HG := Lib.hid (heap_alloc_new w2 (.cells #[.string a, .int .i64 n] 55))
  have HF3 := Lib.hid (HF2.out.alloc (.cells #[.string a, .int .i64 n] 55))
  generalize w2.alloc (.cells #[.string a, .int .i64 n] 55) = w3 at HG HF3 ⊢
  generalize w2.heap.size = g at HG ⊢
  clear HF2
  (with_reducible refine (Scan_calls _ s (by omega)).mono ?_)
  rintro e w4 ⟨A, c4, r4, rfl, h4, hf4, -⟩
  obtain ⟨A', c4', he4, -, -, hb4, -⟩ := h4.reads
  obtain ⟨rfl, rfl⟩ : A = A' ∧ c4 = c4' := by injection he4 with a b c; exact ⟨a, c⟩
  have HA4 := Lib.hid hb4
  have HG4 := Lib.hid ((hf4.block g (lt_of_heap HG.out) (by simp)).trans HG.out)
  have HF4 := Lib.hid (HF3.out.then hf4)
  clear h4 he4 hb4 hf4 HG HF3
  generalize htx : textsB s = tx at *
  generalize hen : endOf s = en at *
  have hlen : tx.length ≤ maxLen := by rw [← htx]; have := textsB_len s; simp only [maxLen]; omega
  have HLEN := Lib.hid hlen
  have HTX := Lib.hid htx
  have HEN := Lib.hid hen
  clear htx hen hlen
  go_wp2_with fail
  (with_reducible refine (RScan_calls _ s (by omega)).mono ?_)
  rintro e w5 ⟨B, c5, r5, rfl, h5, hf5, -⟩
  obtain ⟨B', c5', he5, -, -, hb5, -⟩ := h5.reads
  obtain ⟨rfl, rfl⟩ : B = B' ∧ c5 = c5' := by injection he5 with a b c; exact ⟨a, c⟩
  rw [HTX.out] at hb5 ⊢
  rw [HEN.out]
  have HB5 := Lib.hid hb5
  have HA5 := Lib.hid (hf5.rdv HA4.out)
  have HG5 := Lib.hid ((hf5.block g (lt_of_heap HG4.out) (by simp)).trans HG4.out)
  have HF5 := Lib.hid (HF4.out.then hf5)
  clear h5 he5 hb5 hf5 HG4 HF4 HA4
  go_wp2_with fail
  (with_reducible refine (Same03_calls _ A B c4 c5 tx tx HA5.out HB5.out HLEN.out HLEN.out).mono ?_)
  rintro e w6 ⟨rfl, hf6⟩
  rw [sameB_self]
  have hg6 := (hf6.block g (lt_of_heap HG5.out) (by simp)).trans HG5.out
  have c0 : w6.cell? ⟨g, 0, none⟩ = some (.string a) := by rw [Lib.cell_of_heap hg6]; rfl
  have c1 : w6.cell? ⟨g, 1, none⟩ = some (.int .i64 n) := by rw [Lib.cell_of_heap hg6]; rfl
  have HF6 := Lib.hid (HF5.out.then hf6)
  clear hf6 hg6 HG5 HF5 HA5 HB5
  have ha1 : (a.toList == a.toList) = true := beq_iff_eq.2 rfl
  have hn1 : (n == n) = true := beq_iff_eq.2 rfl
  have ho1 : decide ((0 : Int) < n) = ok := HOK.out
  have ho2 : (ok == ok) = true := beq_iff_eq.2 rfl
  have he1 : ((en : Int) == (en : Int)) = true := beq_iff_eq.2 rfl
  have hw1 : ((wrapB s).toList == (wrapB s).toList) = true := beq_iff_eq.2 rfl
  have hal : (al.toList == al.toList) = true := beq_iff_eq.2 rfl
  go_wp2_with fail
  (with_reducible refine (Wrap_calls _ s (by omega)).mono ?_)
  rintro e w7 ⟨rfl, hf7⟩
  have HF7 := Lib.hid (HF6.out.then hf7)
  clear hf7 HF6 c0 c1 ho1 ha1 hn1
  go_wp2_with fail
  (with_reducible refine (RWrap_calls _ s (by omega)).mono ?_)
  rintro e w8 ⟨rfl, hf8⟩
  have HF8 := Lib.hid (HF7.out.then hf8)
  clear hf8 HF7
  go_wp2_with fail
  (with_reducible refine (HALL.out _ _ (RdV.new w8 #[.string s, .string ⟨#[120]⟩, .string s] 9 rfl rfl)).mono ?_)
  rintro e w9 ⟨rfl, hf9⟩
  have HF9 := Lib.hid ((HF8.out.alloc (.cells #[.string s, .string ⟨#[120]⟩, .string s] 9)).then hf9)
  clear hf9 HF8
  go_wp2_with fail
  (with_reducible refine (HRALL.out _ _ (RdV.new w9 #[.string s, .string ⟨#[120]⟩, .string s] 9 rfl rfl)).mono ?_)
  rintro e w10 ⟨rfl, hf10⟩
  have HF10 := Lib.hid ((HF9.out.alloc (.cells #[.string s, .string ⟨#[120]⟩, .string s] 9)).then hf10)
  clear hf10 HF9
  go_wp2_with fail
  (with_reducible refine (Empty_calls _ s (by omega) at' hat).mono ?_)
  rintro e w11 ⟨rfl, hf11⟩
  have HF11 := Lib.hid (HF10.out.then hf11)
  clear hf11 HF10
  go_wp2_with fail
  (with_reducible refine (REmpty_calls _ s (by omega) at' hat).mono ?_)
  rintro e w12 ⟨rfl, rfl⟩
  generalize zeroB (s.extract (clampN at' s.size) s.size) = z1
  have hz1 : (z1 == z1) = true := beq_iff_eq.2 rfl
  go_wp2_with fail
  (with_reducible refine (Empty_calls _ s (by omega) en (Bd.of_i64 (by omega) (by omega))).mono ?_)
  rintro e w13 ⟨rfl, hf13⟩
  have HF13 := Lib.hid (HF11.out.then hf13)
  clear hf13 HF11
  go_wp2_with fail
  (with_reducible refine (REmpty_calls _ s (by omega) en (Bd.of_i64 (by omega) (by omega))).mono ?_)
  rintro e w14 ⟨rfl, rfl⟩
  generalize zeroB (s.extract (clampN en s.size) s.size) = z2
  have hz2 : (z2 == z2) = true := beq_iff_eq.2 rfl
  go_wp2_with fail
  go_ret
  exact ⟨rfl, HF13.out⟩

set_option maxHeartbeats 2000000 in
set_option maxRecDepth 100000 in
theorem FrameTells_walk (w : World) (s0 : ByteArray) (hs0 : s0.size ≤ 140737488351232) (A : Option Addr) (cap : Nat) (l : List ByteArray) (hr : RdV w A (l.map .string)) (hsz : ∀ x, x ∈ l → x.size ≤ maxLen) (hl : l.length ≤ maxLen) (q0 q1 q2 : Int) (hq0 : Bd .i64 q0) (hq1 : Bd .i64 q1) (hq2 : Bd .i64 q2) :
    Calls Tryd.prog 4 #[.string s0, .slice A l.length cap, .agg #[.int .i64 q0, .int .i64 q1, .int .i64 q2]] w fun e w' => e = .returned (.bool true) ∧ Fr [] w w' := by
  obtain ⟨hfit, h80, h6⟩ := few04_fits l
  have HFEW := Lib.hid (fun (W : World) (h : RdV W A (l.map .string)) => few04_calls W A cap l h hsz hl)
  generalize few04B l = m at hfit h80 h6 HFEW
  have hml := allB_le m h80
  have hx := shortB_size s0 200
  have hsh := Lib.hid (fun W => short04_calls s0 200 200 rfl W (by omega) (by decide))
  generalize shortB s0 200 = s at hx hsh
  go_enter Tryd.func4, Tryd.ntmps4
  go_wp2_with fail
  have hq := heap_alloc_new w (.cells #[.int .i64 q0, .int .i64 q1, .int .i64 q2] 32)
  have hfa : Fr [] w (w.alloc (.cells #[.int .i64 q0, .int .i64 q1, .int .i64 q2] 32)) := (Fr.refl _ _).alloc _
  generalize w.alloc (.cells #[.int .i64 q0, .int .i64 q1, .int .i64 q2] 32) = W0 at hq hfa ⊢
  generalize w.heap.size = bq at hq ⊢
  (with_reducible refine (awake04_calls _).mono ?_)
  rintro e w1 ⟨rfl, hf1⟩
  have HQ1 := Lib.hid ((hf1.block bq (lt_of_heap hq) (by simp)).trans hq)
  have HF1 := Lib.hid (hfa.then hf1)
  have HR1 := Lib.hid ((hfa.then hf1).rdv hr)
  clear hq hfa hf1 hr hs0 hsz
  go_wp2_with fail
  (with_reducible refine (hsh.out _).mono ?_)
  rintro e w2 ⟨rfl, rfl⟩
  go_wp2_with fail
  (with_reducible refine (HFEW.out _ HR1.out).mono ?_)
  rintro e w2 ⟨v, r, rfl, hs2, hf2, -⟩
  obtain ⟨B, c2, rfl, -, -, hb2, -⟩ := hs2.reads
  have HB2 := Lib.hid hb2
  have HQ2 := Lib.hid ((hf2.block bq (lt_of_heap HQ1.out) (by simp)).trans HQ1.out)
  have HF2 := Lib.hid (HF1.out.then hf2)
  have hm6 : m.length ≤ 1000000 := by omega
  have HM1 : Hid (∀ x, x ∈ m → x.size ≤ 1000) := Lib.hid (fun x hx => by have := h80 x hx; omega)
  clear hs2 hb2 hf2 HQ1 HF1 HR1 HFEW h80
  go_wp2_with fail
  (with_reducible refine (RAll_calls _ B c2 m HB2.out HM1.out hm6).mono ?_)
  rintro e w3 ⟨rfl, hf3⟩
  have hq3 := (hf3.block bq (lt_of_heap HQ2.out) (by simp)).trans HQ2.out
  generalize allB m = T at hml ⊢
  have hT : T.size ≤ 528 := by omega
  obtain ⟨w4, cap4, hrun, hB4, hf4⟩ := run_toBytes w3 T
  have hq4 := (hf4.block bq (lt_of_heap hq3) (by simp)).trans hq3
  have HG := Lib.hid (Nat.le_trans HF2.out.size hf3.size)
  have hgq : w3.heap.size ≠ bq := Nat.ne_of_gt (lt_of_heap hq3)
  have HF4 := Lib.hid ((HF2.out.then hf3).then hf4)
  have HB4 := Lib.hid hB4
  have HQ4 := Lib.hid hq4
  clear hf3 hf4 hB4 HB2 HQ2 HF2 hq3 hq4 hml HM1 hm6 hfit
  obtain ⟨z, hz, hz0, hz4⟩ : ∃ z, bits BinOp.and IntKind.i64 q2 3 = z ∧ 0 ≤ z ∧ z < 4 := ⟨q2 % 4, i64_and3 _, by omega, by omega⟩
  have HZ := Lib.hid hz
  clear hz
  go_upto_if 19 with fail
  clear hrun
  generalize hgg : w3.heap.size = g at HB4 HG hgq ⊢
  clear hgg
  go_cut [8] from 9 (fun s8 wx => ∃ (n c : Nat) (tt : ByteArray), s8 = .slice (some ⟨g, 0, none⟩) n c ∧ n ≤ tt.size ∧ tt.size ≤ 528 ∧ Hid (BS wx g cap4 tt ∧ Fr [] w wx ∧ wx.heap[bq]? = some (.cells #[.int .i64 q0, .int .i64 q1, .int .i64 q2] 32 (0, 0))))
  case first =>
    by_cases hTz : T.size = 0
    · have hd : ¬ 0 < T.size := by omega
      go_wp2_with fail
      go_meet
      exact ⟨T.size, cap4, T, rfl, Nat.le_refl _, hT, HB4.out, HF4.out, HQ4.out⟩
    · have hTp : (0 : Int) < (T.size : Int) := by omega
      have hd : 0 < T.size := by omega
      have k0 : w4.cell? ⟨bq, 0, none⟩ = some (.int .i64 q0) := by rw [Lib.cell_of_heap HQ4.out]; rfl
      have k1 : w4.cell? ⟨bq, 1, none⟩ = some (.int .i64 q1) := by rw [Lib.cell_of_heap HQ4.out]; rfl
      have k2 : w4.cell? ⟨bq, 2, none⟩ = some (.int .i64 q2) := by rw [Lib.cell_of_heap HQ4.out]; rfl
      have hb0 := hq0.i64
      obtain ⟨R, hR, hR0, hR1⟩ : ∃ R, q0.tmod (T.size : Int) = R ∧ -(T.size : Int) < R ∧ R < (T.size : Int) := ⟨_, rfl, Int.lt_tmod_of_pos _ hTp, Int.tmod_lt_of_pos _ hTp⟩
      obtain ⟨k, hk, hkT⟩ : ∃ k : Nat, (R + (T.size : Int)).tmod (T.size : Int) = (k : Int) ∧ k < T.size := by
        have h1 := Int.tmod_nonneg (T.size : Int) (by omega : 0 ≤ R + (T.size : Int))
        have h2 := Int.tmod_lt_of_pos (R + (T.size : Int)) hTp
        exact ⟨((R + (T.size : Int)).tmod (T.size : Int)).toNat, by omega, by omega⟩
      go_upto_region 6 with fail
      obtain ⟨cc, hc'⟩ : ∃ cc : UInt8, bits BinOp.xor IntKind.u8 (((T[k]'hkT).toNat : Nat) : Int) (IntKind.u8.wrap q1) = ((cc.toNat : Nat) : Int) := by
        have h1 : ((T[k]'hkT).toNat : Int) < 256 := by have := (T[k]'hkT).toNat_lt; omega
        have h2 : 0 ≤ IntKind.u8.wrap q1 ∧ IntKind.u8.wrap q1 < 256 := by rw [IntKind.wrap_u8]; omega
        have h3 := u8_xor (((T[k]'hkT).toNat : Nat) : Int) (IntKind.u8.wrap q1) (by omega) h1 h2.1 h2.2
        have h4 := Nat.xor_lt_two_pow (x := (((T[k]'hkT).toNat : Nat) : Int).toNat) (y := (IntKind.u8.wrap q1).toNat) (n := 8) (by omega) (by omega)
        refine ⟨UInt8.ofNat ((((T[k]'hkT).toNat : Nat) : Int).toNat ^^^ (IntKind.u8.wrap q1).toNat), ?_⟩
        rw [h3, UInt8.toNat_ofNat', Nat.mod_eq_of_lt (by omega)]
      have hc2 : bits BinOp.xor IntKind.u8 (((T[k]'hkT).toNat : Nat) : Int) (q1 % 256) = ((cc.toNat : Nat) : Int) := by rw [← IntKind.wrap_u8]; exact hc'
      have hcell := HB4.out.cell k hkT
      have hfrz := HB4.out.frozen k hkT
      have hk0 : (0 : Int) ≤ (k : Int) := by omega
      have hk1 : (k : Int) ≤ (T.size : Int) := by omega
      have hk2 : (k : Int) < (T.size : Int) := by omega
      have hkc : (k : Int) ≤ (cap4 : Int) := by have := HB4.out.cap; omega
      have hkc' : k ≤ cap4 := by omega
      have hN : ∀ W, W = (w4.setCell ⟨g, k, none⟩ (.int .u8 ((cc.toNat : Nat) : Int))).drew → BS W g cap4 (setB T k cc) ∧ Fr [] w W ∧ W.heap[bq]? = some (.cells #[.int .i64 q0, .int .i64 q1, .int .i64 q2] 32 (0, 0)) := by
        intro W hW
        subst hW
        have hf : Fr [g] w4 (w4.setCell ⟨g, k, none⟩ (.int .u8 ((cc.toNat : Nat) : Int))).drew := ((Fr.refl _ _).setCell (.inl (by simp)) _).drew
        exact ⟨(HB4.out.set k hkT cc).drew, HF4.out.trans hf (fun j hj => .inr (by simp at hj; subst hj; exact HG.out)), (hf.block bq (lt_of_heap HQ4.out) (by simp; exact fun e => hgq e.symm)).trans HQ4.out⟩
      have HN := Lib.hid hN
      clear hN hR hk
      go_region
      all_goals
        clear hc' hc2 hcell hfrz k0 k1 k2
        have hn1 := HN.out _ rfl
        clear HN
        generalize (w4.setCell ⟨g, k, none⟩ (.int .u8 ((cc.toNat : Nat) : Int))).drew = w5 at hn1 ⊢
        have k2 : w5.cell? ⟨bq, 2, none⟩ = some (.int .i64 q2) := by rw [Lib.cell_of_heap hn1.2.2]; rfl
        have HN1 := Lib.hid hn1
        clear hn1
        by_cases hz : z = 0
        · have hzz : bits BinOp.and IntKind.i64 q2 3 = 0 := by rw [HZ.out, hz]
          clear hz
          go_wp2_with fail
          go_meet
          exact ⟨k, cap4, setB T k cc, rfl, by rw [setB_size]; omega, by rw [setB_size]; exact hT, HN1.out⟩
        · have hzz : bits BinOp.and IntKind.i64 q2 3 = z := HZ.out
          have hzb : (z == 0) = false := beq_eq_false_iff_ne.2 hz
          clear hz
          go_wp2_with fail
          go_meet
          exact ⟨T.size, cap4, setB T k cc, rfl, by rw [setB_size]; exact Nat.le_refl _, by rw [setB_size]; exact hT, HN1.out⟩
  case rest =>
    obtain ⟨n, c, tt, rfl, hn, htt, HC⟩ := hcut
    go_upto_region 9 with fail
    clear HB4 HF4 HQ4 HZ
    have HX : Hid ((tt.extract 0 n ++ s).size ≤ 1000) := Lib.hid (by rw [ByteArray.size_append, ByteArray.size_extract]; omega)
    have hxl : (tt.extract 0 n).size ≤ 528 := by rw [ByteArray.size_extract]; omega
    have HT0 := Lib.hid (fun W => tells_calls W s (by omega) q0 hq0)
    have HT1 := Lib.hid (fun W => tells_calls W (tt.extract 0 n ++ s) HX.out q0 hq0)
    have HCV : Hid (∀ W, BS W g cap4 tt → (convert 25 9 (.slice (some ⟨g, 0, none⟩) n c)).run Tryd.prog W = .ok (.string (tt.extract 0 n)) W) := Lib.hid (fun W h => run_bsCut h hn)
    have hq00 := HC.out.2.2
    have k0 : wc.cell? ⟨bq, 0, none⟩ = some (.int .i64 q0) := by rw [Lib.cell_of_heap hq00]; rfl
    have HQC : Hid (wc.drew.heap[bq]? = some (.cells #[.int .i64 q0, .int .i64 q1, .int .i64 q2] 32 (0, 0))) := Lib.hid hq00
    have HBC : Hid (BS wc.drew g cap4 tt) := Lib.hid HC.out.1
    have HFC : Hid (Fr [] w wc.drew) := Lib.hid HC.out.2.1.drew
    have HS0 := Lib.hid (fun W => FSize_calls W q0 hq0)
    have HS1 := Lib.hid (fun W => RSize_calls W q0 hq0)
    have hfz : (fsize q0 == fsize q0) = true := beq_iff_eq.2 rfl
    have g1 : (9223372036854775807 < (tt.extract 0 n).size + s.size) = False := eq_false (by omega)
    have g2 : (9223372036854775807 < min n tt.size + s.size) = False := eq_false (by omega)
    have g3 : (9223372036854775807 < min n tt.size - 0 + s.size) = False := eq_false (by omega)
    clear hq00 HC hxl
    generalize hX : tt.extract 0 n = X at HX HT1 HCV g1
    clear hX
    go_region_with (first
      | (go_at_call 13; (with_reducible refine (HT0.out _).mono ?_); rintro e w6 ⟨rfl, hf6⟩; have hq6 := (hf6.block bq (lt_of_heap HQC.out) (by simp)).trans HQC.out; have k06 : w6.cell? ⟨bq, 0, none⟩ = some (.int .i64 q0) := (by rw [Lib.cell_of_heap hq6]; rfl); have hcv6 := HCV.out w6 (HBC.out.keep hf6 (by simp)))
      | (go_at_call 13; (with_reducible refine (HT1.out _).mono ?_); rintro e w7 ⟨rfl, hf7⟩; have hq7 := (hf7.block bq (lt_of_heap hq6) (by simp)).trans hq6; have k07 : w7.cell? ⟨bq, 0, none⟩ = some (.int .i64 q0) := (by rw [Lib.cell_of_heap hq7]; rfl))
      | (go_at_call 14; (with_reducible refine (HS0.out _).mono ?_); rintro e w8 ⟨rfl, rfl⟩)
      | (go_at_call 15; (with_reducible refine (HS1.out _).mono ?_); rintro e w9 ⟨rfl, rfl⟩))
    all_goals
      have HF9 := Lib.hid ((HFC.out.then hf6).then hf7)
      clear HS0 HS1 HT0 HT1 HCV HBC HQC HFC hf6 hf7 hq6 hq7 hcv6 k0 k06 k07
      go_wp2_with fail
      go_ret
      exact ⟨rfl, HF9.out⟩

end Go.Proofs.YtjlhbmgbiobpaaaDoor
