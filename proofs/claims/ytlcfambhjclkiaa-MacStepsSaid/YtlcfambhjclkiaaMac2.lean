/- Contracts of Mac, of Equal and Cost; the chapter's example. -/
import Derived.Test.YtlcfambhjclkiaaMacIn
namespace Go.Proofs.Ytlcfambhjclkiaa
open Go.RowKit
set_option linter.unusedVariables false
set_option linter.unusedSimpArgs false

theorem drewN_twice (w : World) (a b : Nat) : (w.drewN a).drewN b = w.drewN (a + b) := by
  simp only [World.drewN, Nat.add_assoc]
/-- A quiet call, in a region that only reads. -/
theorem quiet1 {P : Program} {f : FuncId} {args : Array Value} {w : World} {n : Nat} {v : Value} (h : ∀ W, Calls P f args W fun e w' => e = .returned v ∧ ∃ m, w' = W.drewN m) :
    Calls P f args (w.drewN n) fun e w'' => e = .returned v ∧ ∃ m, w'' = w.drewN m := (h _).mono fun _ _ ⟨h1, m, h2⟩ => ⟨h1, n + m, by rw [h2, drewN_twice]⟩
theorem mac_twice (k n : Nat) (m : Option Nat) : mtK m (mtK m n (k + 1)) (k + 1) = mtK m n (2 * k + 2) := by rw [mtK_add]; congr 1; omega

set_option maxHeartbeats 2000000 in
set_option maxRecDepth 100000 in
theorem Mac_calls (w : World) (m : Option Nat) (n : Nat) (hn : n ≤ 700000) (hm : MtR w m n) (key : ByteArray) (hk : key.size ≤ 1000)
    (ad : Addr) (cp : Nat) (l : List ByteArray) (hA : RdV w (some ad) (l.map .string)) (hadm : ∀ b, m = some b → ad.block ≠ b) (hadb : ad.block < w.heap.size) (hl : 0 < l.length) (hl2 : l.length ≤ 1000) (hs : (catB l).size ≤ 100000) :
    Calls Try.prog 24 #[mtP m, .string key, .slice (some ad) l.length cp] w
      fun e w' => e = .returned (.string (macB key (catB l))) ∧ MtR w' m (mtK m n (2 * macK key + 2)) ∧ Fr m.toList w w' := by
  have hmf : ∀ (fn : Fn) (first cap : Array Value) (w : World), (Instr.makeFunc fn first cap).run Try.prog w = .ok (.func fn first cap) w := fun _ _ _ _ => rfl
  have HLT := Lib.hid hm.lt
  have hF0 : Fr [] w ((w.alloc (.cells #[mtP m] 33)).alloc (.cells #[.string key] 9)) := ((Fr.refl _ w).alloc _).alloc _
  have hbm : VarV 33 ((w.alloc (.cells #[mtP m] 33)).alloc (.cells #[.string key] 9)) w.heap.size (mtP m) := (VarV.new _ _ _ rfl).keep ((Fr.refl [] _).alloc _) (by simp)
  have hbk : VarV 9 ((w.alloc (.cells #[mtP m] 33)).alloc (.cells #[.string key] 9)) (w.heap.size + 1) (.string key) := VarV.new _ _ _ (by simp)
  have hadl : ∀ b, m = some b → b < w.heap.size := hm.lt
  have hm0 := hm.keep hF0 (by simp)
  have hA0 := hA.keep hF0 (by simp)
  have hk1 : macK key ≤ 1 := by unfold macK; split <;> omega
  have hn1 := mtK_le m n (macK key + 1)
  have HS1 := Lib.hid (side_calls _ m n (by omega) hm0 key hk 54 (show (54 : Int) = ((54 : Nat) : Int) from rfl) (by decide) w.heap.size (w.heap.size + 1) hbm hbk (fun b hb => by have := hadl b hb; omega) ad cp l hA0 hadm (Nat.lt_of_lt_of_le hadb hF0.size) hl hl2 hs)
  have HMB : Hid (macB key (catB l) = macSide key 92 (macSide key 54 (catB l))) := Lib.hid rfl
  have hd1 := macSide_size key 54 (catB l)
  have HT := Lib.hid (mac_twice (macK key) n m)
  rw [HMB.out]
  generalize macSide key 54 (catB l) = d at HS1 hd1 ⊢
  have HS2 : Hid (∀ W : World, MtR W m (mtK m n (macK key + 1)) → VarV 33 W w.heap.size (mtP m) → VarV 9 W (w.heap.size + 1) (.string key) → Calls Try.prog 43 #[.int .u8 92, .slice (some ⟨W.heap.size, 0, none⟩) 1 1, .pointer (some ⟨w.heap.size, 0, none⟩), .pointer (some ⟨w.heap.size + 1, 0, none⟩)] (W.alloc (.cells #[.string d] 9))
      fun e w' => e = .returned (.string (macSide key 92 d)) ∧ MtR w' m (mtK m (mtK m n (macK key + 1)) (macK key + 1)) ∧ Fr m.toList (W.alloc (.cells #[.string d] 9)) w') := Lib.hid fun W h1 h2 h3 => by
    have hf : Fr [] W (W.alloc (.cells #[.string d] 9)) := (Fr.refl _ _).alloc _
    have := side_calls (W.alloc (.cells #[.string d] 9)) m (mtK m n (macK key + 1)) (by omega) (h1.keep hf (by simp)) key hk 92 (show (92 : Int) = ((92 : Nat) : Int) from rfl) (by decide) w.heap.size (w.heap.size + 1) (h2.keep hf (by simp)) (h3.keep hf (by simp)) (fun b hb => by have := hadl b hb; omega) ⟨W.heap.size, 0, none⟩ 1 [d] (RdV.new _ _ _ rfl rfl) (fun b hb => by have := hadl b hb; have := h2.lt; show W.heap.size ≠ b; omega) (by simp) (by simp) (by simp) (by rw [catB_one]; omega)
    rw [catB_one] at this
    exact this
  have HW0 := Lib.hid (And.intro hF0 (And.intro hbm hbk))
  have HNB : Hid (w.heap.size ∉ m.toList ∧ w.heap.size + 1 ∉ m.toList) := Lib.hid (by
    cases m with
    | none => simp
    | some b => have := hadl b rfl; simp; omega)
  generalize macSide key 92 d = D at HS2 ⊢
  obtain ⟨po, hpo⟩ : ∃ po, mtP m = .pointer po := ⟨_, rfl⟩
  rw [hpo] at HS1 HS2 HW0 ⊢
  clear hpo
  clear hm0 hA0 hF0 hbm hbk hadl hm hA hadm hadb hl2 hs hd1 hn1 hk1 HMB hn hk
  go_enter Try.func24, Try.ntmps24
  go_wp2_with fail
  (with_reducible refine HS1.out.mono ?_)
  rintro e w1 ⟨rfl, hm1, hf1⟩
  have H1 := Lib.hid (And.intro hm1 (And.intro (HW0.out.2.1.keep hf1 HNB.out.1) (And.intro (HW0.out.2.2.keep hf1 HNB.out.2) ((HW0.out.1.mono (S' := m.toList) (by simp)).trans hf1 (fun i hi => .inl hi)))))
  clear hm1 hf1 HS1 HW0
  go_wp2_with fail
  (with_reducible refine (HS2.out w1 H1.out.1 H1.out.2.1 H1.out.2.2.1).mono ?_)
  rintro e w2 ⟨rfl, hm2, hf2⟩
  have H2 := Lib.hid (And.intro hm2 ((H1.out.2.2.2.alloc _).trans hf2 (fun i hi => .inl hi)))
  clear hm2 hf2 HS2 H1
  go_wp2_with fail
  go_ret
  refine ⟨rfl, ?_, H2.out.2⟩
  rw [← HT.out]
  exact H2.out.1

set_option maxRecDepth 100000 in
theorem mac_fox : hexB (macB ⟨#[107, 101, 121]⟩ (⟨#[84, 104, 101, 32, 113, 117, 105, 99, 107, 32, 98, 114, 111, 119, 110, 32, 102, 111, 120, 32]⟩ ++ ⟨#[106, 117, 109, 112, 115, 32, 111, 118, 101, 114, 32, 116, 104, 101, 32, 108, 97, 122, 121, 32, 100, 111, 103]⟩)) = ⟨#[102, 55, 98, 99, 56, 51, 102, 52, 51, 48, 53, 51, 56, 52, 50, 52, 98, 49, 51, 50, 57, 56, 101, 54, 97, 97, 54, 102, 98, 49, 52, 51, 101, 102, 52, 100, 53, 57, 97, 49, 52, 57, 52, 54, 49, 55, 53, 57, 57, 55, 52, 55, 57, 100, 98, 99, 50, 100, 49, 97, 51, 99, 100, 56]⟩ := by decide +kernel
theorem Mac2 (w : World) (b : Nat) (key s t : ByteArray) (hk : key.size ≤ 1000) (hs : s.size + t.size ≤ 100000) (h : w.heap[b]? = some (.cells #[.string s, .string t] 9 (0, 0))) :
    Calls Try.prog 24 #[.pointer none, .string key, .slice (some ⟨b, 0, none⟩) 2 2] w fun e w' => e = .returned (.string (macB key (s ++ t))) ∧ Fr [] w w' := by
  have he : catB [s, t] = s ++ t := by rw [catB_cons, catB_one]
  have := Mac_calls w none 0 (by omega) rfl key hk ⟨b, 0, none⟩ 2 [s, t] (by have := rdv_cells h; simpa using this) (by rintro b ⟨⟩) (lt_of_heap h) (by simp) (by simp) (by rw [he, ByteArray.size_append]; exact hs)
  rw [he] at this
  exact this.mono fun e w' ⟨h1, h2, h3⟩ => ⟨h1, h3⟩
theorem Mac1 (w : World) (b : Nat) (key s : ByteArray) (hk : key.size ≤ 1000) (hs : s.size ≤ 100000) (h : w.heap[b]? = some (.cells #[.string s] 9 (0, 0))) :
    Calls Try.prog 24 #[.pointer none, .string key, .slice (some ⟨b, 0, none⟩) 1 1] w fun e w' => e = .returned (.string (macB key s)) ∧ Fr [] w w' := by
  have := Mac_calls w none 0 (by omega) rfl key hk ⟨b, 0, none⟩ 1 [s] (by have := rdv_cells h; simpa using this) (by rintro b ⟨⟩) (lt_of_heap h) (by simp) (by simp) (by rw [catB_one]; exact hs)
  rw [catB_one] at this
  exact this.mono fun e w' ⟨h1, h2, h3⟩ => ⟨h1, h3⟩

set_option maxHeartbeats 400000 in
set_option maxRecDepth 100000 in
theorem awake07_calls (w : World) :
    Calls Try.prog 22 #[] w fun e w' => e = .returned (.bool true) ∧ Fr [] w w' := by
  have HE := Lib.hid mac_fox
  have HC := Lib.hid (fun W b h => Mac2 W b ⟨#[107, 101, 121]⟩ ⟨#[84, 104, 101, 32, 113, 117, 105, 99, 107, 32, 98, 114, 111, 119, 110, 32, 102, 111, 120, 32]⟩ ⟨#[106, 117, 109, 112, 115, 32, 111, 118, 101, 114, 32, 116, 104, 101, 32, 108, 97, 122, 121, 32, 100, 111, 103]⟩ (by decide) (by decide) h)
  have HZ := Lib.hid (macB_size ⟨#[107, 101, 121]⟩ (⟨#[84, 104, 101, 32, 113, 117, 105, 99, 107, 32, 98, 114, 111, 119, 110, 32, 102, 111, 120, 32]⟩ ++ ⟨#[106, 117, 109, 112, 115, 32, 111, 118, 101, 114, 32, 116, 104, 101, 32, 108, 97, 122, 121, 32, 100, 111, 103]⟩))
  generalize macB ⟨#[107, 101, 121]⟩ (⟨#[84, 104, 101, 32, 113, 117, 105, 99, 107, 32, 98, 114, 111, 119, 110, 32, 102, 111, 120, 32]⟩ ++ ⟨#[106, 117, 109, 112, 115, 32, 111, 118, 101, 114, 32, 116, 104, 101, 32, 108, 97, 122, 121, 32, 100, 111, 103]⟩) = d at HE HC HZ
  go_enter Try.func22, Try.ntmps22
  go_wp2_with fail
  (with_reducible refine (HC.out _ _ (heap_alloc_new w _)).mono ?_)
  rintro e w1 ⟨rfl, hf1⟩
  have HF := Lib.hid (((Fr.refl [] w).alloc _).then hf1)
  clear hf1
  go_wp2_with fail
  (with_reducible refine (Hex_calls w1 d (by have := HZ.out; omega)).mono ?_)
  rintro e w2 ⟨rfl, hf2⟩
  rw [HE.out]
  have HF2 := Lib.hid (HF.out.then hf2)
  clear hf2 HF
  go_wp2_with fail
  go_ret
  exact ⟨rfl, HF2.out⟩

/-! ### Equal, Cost -/
def eqB (a b : ByteArray) : Bool := decide (a.data.toList = b.data.toList)
theorem eqB_self (a : ByteArray) : eqB a a = true := decide_eq_true rfl
theorem eqB_iff (a b : ByteArray) : eqB a b = true ↔ a = b := by
  unfold eqB
  rw [decide_eq_true_eq]
  exact ⟨fun h => ByteArray.ext (Array.toList_inj.1 h), fun h => by rw [h]⟩
theorem eqB_ne {a b : ByteArray} (h : a ≠ b) : eqB a b = false := by
  cases hb : eqB a b with
  | false => rfl
  | true => exact absurd ((eqB_iff a b).1 hb) h
theorem or8 {a b : Nat} (ha : a < 256) (hb : b < 256) : a ||| b < 256 := Nat.or_lt_two_pow (n := 8) ha hb
theorem xor_zero_iff (a b : Nat) : a ^^^ b = 0 ↔ a = b := by
  constructor
  · intro h
    apply Nat.eq_of_testBit_eq
    intro i
    have := congrArg (fun x => x.testBit i) h
    simp only [Nat.testBit_xor, Nat.zero_testBit] at this
    cases ha : a.testBit i <;> cases hb : b.testBit i <;> simp_all
  · rintro rfl; exact Nat.xor_self a
theorem or_zero_iff (a b : Nat) : a ||| b = 0 ↔ a = 0 ∧ b = 0 := by
  constructor
  · intro h
    have h1 : a ≤ a ||| b := Nat.left_le_or
    have h2 : b ≤ a ||| b := Nat.right_le_or
    omega
  · rintro ⟨rfl, rfl⟩; rfl

set_option maxHeartbeats 2000000 in
set_option maxRecDepth 100000 in
theorem Equal_quiet (w : World) (a b : ByteArray) (ha : a.size ≤ 1000000) (hb : b.size ≤ 1000000) :
    Calls Try.prog 26 #[.string a, .string b] w fun e w' => e = .returned (.bool (eqB a b)) ∧ ∃ n, w' = w.drewN n := by
  by_cases hz : a.size = b.size
  · have HA : Hid (∀ d : Nat, (d = 0 ↔ a.data.toList.take a.size = b.data.toList.take a.size) → eqB a b = decide (d = 0)) := Lib.hid (fun d h => by
      rw [List.take_of_length_le (by rw [Array.length_toList]; exact Nat.le_refl _), List.take_of_length_le (by rw [Array.length_toList]; exact Nat.le_of_eq hz.symm)] at h
      unfold eqB
      by_cases e : d = 0
      · rw [decide_eq_true e, decide_eq_true (h.1 e)]
      · rw [decide_eq_false e, decide_eq_false (fun e2 => e (h.2 e2))])
    have HZ := Lib.hid hz
    have hzi : ((a.size : Int) == (b.size : Int)) = true := beq_iff_eq.2 (by omega)
    generalize eqB a b = q at HA ⊢
    have hz1 : b.size ≤ a.size := by omega
    have hz2 : a.size ≤ b.size := by omega
    clear hz
    go_enter Try.func26, Try.ntmps26
    go_wp2_with fail
    go_loopw [5, 6, 14] (fun v5 v6 v14 wr => ∃ i d : Nat, v14 = .int .i64 i ∧ i ≤ a.size ∧ v5 = .int .u8 d ∧ d < 256 ∧ Hid ((d = 0 ↔ a.data.toList.take i = b.data.toList.take i) ∧ ∃ n, wr = w.drewN n)) (fun _ _ v14 _ => a.size - (intOf v14).toNat)
    case atStart => exact ⟨0, 0, rfl, Nat.zero_le _, rfl, by decide, Lib.hid ⟨by simp, 0, rfl⟩⟩
    case round =>
      obtain ⟨i, d, rfl, hi, rfl, hd, H⟩ := hrel
      by_cases hlt : i < a.size
      · have hlb : i < b.size := by omega
        have hca := (a[i]).toNat_lt
        have hcb := (b[i]).toNat_lt
        have hx := u8_xor_nat (a[i]).toNat (b[i]).toNat hca hcb
        have hx8 := xor8 hca hcb
        have HN : Hid (d ||| ((a[i]).toNat ^^^ (b[i]).toNat) = 0 ↔ a.data.toList.take (i + 1) = b.data.toList.take (i + 1)) := Lib.hid (by
          rw [or_zero_iff, xor_zero_iff, H.out.1, take_next a i hlt, take_next b i hlb]
          constructor
          · rintro ⟨h1, h2⟩
            rw [h1, UInt8.toNat_inj.1 h2]
          · intro h
            obtain ⟨h1, h2⟩ := List.append_inj' h rfl
            exact ⟨h1, by rw [List.cons.inj h2 |>.1]⟩)
        generalize hxx : (a[i]).toNat ^^^ (b[i]).toNat = x at hx hx8 HN
        have ho := u8_or_nat d x hd hx8
        have hdx := or8 hd hx8
        generalize d ||| x = y at ho hdx HN
        have hi0 : (0 : Int) ≤ (i : Int) := by omega
        have hi1 : (i : Int) < a.size := by omega
        have hi2 : (i : Int) < b.size := by omega
        clear hxx
        go_wp2_with fail
        go_quiet (fail)
        go_wp2_with fail
        exact ⟨⟨i + 1, y, by go_num, by omega, rfl, hdx, Lib.hid ⟨HN.out, by obtain ⟨m, rfl⟩ := H.out.2; exact ⟨_, drewN_twice _ _ _⟩⟩⟩, by simp only [intOf]; omega⟩
      · obtain rfl : i = a.size := by omega
        have HQ := Lib.hid (HA.out d H.out.1)
        by_cases h0 : d = 0
        · subst h0
          go_wp2_with fail
          go_ret
          exact ⟨by rw [HQ.out]; rfl, H.out.2⟩
        · have hd0 : ((d : Int) == 0) = false := beq_eq_false_iff_ne.2 (by omega)
          have HQ2 : Hid (q = false) := Lib.hid (by rw [HQ.out]; exact decide_eq_false h0)
          clear h0
          go_wp2_with fail
          go_ret
          exact ⟨by rw [HQ2.out]; rfl, H.out.2⟩
  · have hq : eqB a b = false := eqB_ne (fun e => hz (by rw [e]))
    have hzi : ((a.size : Int) == (b.size : Int)) = false := beq_eq_false_iff_ne.2 (by omega)
    rw [hq]
    clear hq hz
    go_enter Try.func26, Try.ntmps26
    go_wp2_with fail
    go_ret
    exact ⟨rfl, 0, rfl⟩
theorem Equal_calls (w : World) (a b : ByteArray) (ha : a.size ≤ 1000000) (hb : b.size ≤ 1000000) :
    Calls Try.prog 26 #[.string a, .string b] w fun e w' => e = .returned (.bool (eqB a b)) ∧ Fr [] w w' :=
  (Equal_quiet w a b ha hb).mono fun e w' ⟨h1, n, h2⟩ => ⟨h1, by rw [h2]; exact (Fr.refl _ _).drewN n⟩

def costN (n r : Nat) : Nat := if r < 1 then 0 else if 64 < n then 4 * r else 2 * r
set_option maxHeartbeats 1000000 in
set_option maxRecDepth 100000 in
theorem Cost_calls (w : World) (n r : Nat) (hr : r ≤ 1000) (hn : n ≤ 1000000) :
    Calls Try.prog 28 #[.int .i64 (n : Int), .int .i64 (r : Int)] w fun e w' => e = .returned (.int .i64 (costN n r : Int)) ∧ w = w' := by
  by_cases h0 : r < 1
  · have hc : costN n r = 0 := if_pos h0
    have h0' : (r : Int) < 1 := by omega
    rw [hc]
    clear hc h0
    go_enter Try.func28, Try.ntmps28
    go_wp2_with fail
    go_ret
    exact ⟨rfl, rfl⟩
  · by_cases h64 : 64 < n
    · have hc : costN n r = 4 * r := by unfold costN; rw [if_neg h0, if_pos h64]
      have h0' : ¬ (r : Int) < 1 := by omega
      have h1' : (64 : Int) < (n : Int) := by omega
      have h2' : ¬ (1000 : Int) < (r : Int) := by omega
      rw [hc]
      clear hc h0
      go_enter Try.func28, Try.ntmps28
      go_wp2_with fail
      go_ret
      exact ⟨by congr 2, rfl⟩
    · have hc : costN n r = 2 * r := by unfold costN; rw [if_neg h0, if_neg h64]
      have h0' : ¬ (r : Int) < 1 := by omega
      have h1' : ¬ (64 : Int) < (n : Int) := by omega
      have h2' : ¬ (1000 : Int) < (r : Int) := by omega
      rw [hc]
      clear hc h0
      go_enter Try.func28, Try.ntmps28
      go_wp2_with fail
      go_ret
      exact ⟨by congr 2, rfl⟩
end Go.Proofs.Ytlcfambhjclkiaa
