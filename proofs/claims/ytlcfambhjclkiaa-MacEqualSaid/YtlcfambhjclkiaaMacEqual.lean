/- The law MacEqual: for any texts the Go function returns true (its walk). -/
import Derived.Test.YtlcfambhjclkiaaMac2
import Derived.Test.YtlcfambhjclkiaaShaParts
namespace Go.Proofs.Ytlcfambhjclkiaa
open Go.RowKit
set_option linter.unusedVariables false
set_option linter.unusedSimpArgs false

/-- A text of which the byte at k is turned by q. -/
def turnB (s : ByteArray) (k : Nat) (c : Int) : ByteArray := s.extract 0 k ++ bOf c ++ s.extract (k + 1) s.size
theorem turnB_size (s : ByteArray) (k : Nat) (c : Int) (hk : k < s.size) : (turnB s k c).size = s.size := by
  rw [turnB, ByteArray.size_append, ByteArray.size_append, bOf_size, ByteArray.size_extract, ByteArray.size_extract]; omega
theorem turnB_list (s : ByteArray) (k : Nat) (c : Int) (hk : k < s.size) : (turnB s k c).data.toList = s.data.toList.set k (UInt8.ofNat c.toNat) := by
  have hl : s.data.toList.length = s.size := by rw [Array.length_toList]; rfl
  apply List.ext_getElem?
  intro i
  simp only [turnB, ByteArray.data_append, ByteArray.data_extract, Array.toList_append, Array.toList_extract, List.extract_eq_take_drop, bOf, List.drop_zero, Nat.sub_zero]
  have e1 : (s.data.toList.take k).length = k := by rw [List.length_take]; omega
  rw [List.take_of_length_le (l := s.data.toList.drop (k + 1)) (by rw [List.length_drop, hl]; exact Nat.le_refl _)]
  rw [List.append_assoc, List.getElem?_set]
  by_cases h1 : i < k
  · rw [List.getElem?_append_left (by omega), List.getElem?_take, if_pos h1, if_neg (by omega)]
  · rw [List.getElem?_append_right (by omega), e1]
    by_cases h2 : i = k
    · subst h2
      rw [Nat.sub_self, if_pos rfl, if_pos (by omega)]
      rfl
    · obtain ⟨j, rfl⟩ : ∃ j, i = k + 1 + j := ⟨i - k - 1, by omega⟩
      rw [if_neg (by omega), show k + 1 + j - k = 1 + j from by omega, List.getElem?_append_right (by simp)]
      simp
theorem turnB_eq (s : ByteArray) (k : Nat) (c : Int) (hk : k < s.size) (h0 : 0 ≤ c) (h1 : c < 256) : eqB s (turnB s k c) = decide (c = ((s[k]).toNat : Int)) := by
  have hg : s.data.toList[k]'(by rw [Array.length_toList]; exact hk) = s[k] := rfl
  have hcc : (UInt8.ofNat c.toNat).toNat = c.toNat := by rw [UInt8.toNat_ofNat']; omega
  unfold eqB
  rw [turnB_list s k c hk]
  by_cases h : c = ((s[k]).toNat : Int)
  · have e : UInt8.ofNat c.toNat = s.data.toList[k]'(by rw [Array.length_toList]; exact hk) := by
      rw [hg]
      apply UInt8.toNat_inj.1
      rw [hcc, h]; rfl
    rw [e, List.set_getElem_self, decide_eq_true rfl, decide_eq_true h]
  · rw [decide_eq_false h, decide_eq_false]
    intro he
    have := congrArg (fun l => l[k]?) he
    simp only [List.getElem?_set_self (show k < s.data.toList.length by rw [Array.length_toList]; exact hk), List.getElem?_eq_getElem (show k < s.data.toList.length by rw [Array.length_toList]; exact hk), hg] at this
    injection this with this
    apply h
    rw [this, hcc]
    omega

theorem tmod_bd0 (a : Int) (n : Nat) (hn : 0 < n) : -(n : Int) < a.tmod (n : Int) ∧ a.tmod (n : Int) < n := by
  have h1 := Int.tmod_lt_of_pos a (show (0 : Int) < (n : Int) by omega)
  have h2 := Int.lt_tmod_of_pos a (show (0 : Int) < (n : Int) by omega)
  omega
theorem size_ne {a b : ByteArray} (h : a.size ≠ b.size) : a ≠ b := fun e => h (by rw [e])
theorem str_ne {a b : ByteArray} (h : a ≠ b) : (a.toList == b.toList) = false := beq_eq_false_iff_ne.2 (fun e => h (toList_inj e))
theorem run_toStringC {w : World} {b : Nat} {c : Int} (h0 : 0 ≤ c) (h1 : c < 256) (h : w.cell? ⟨b, 0, none⟩ = some (.int .u8 c)) :
    (convert 27 9 (.slice (some ⟨b, 0, none⟩) 1 1)).run Try.prog w = .ok (.string (bOf c)) w := by
  refine run_toString Try.underlying27 Try.underlying5 Try.underlying9 (bOf_size c).symm ?_ (by rintro ad ⟨⟩; rfl)
  intro j v hj
  have hcv : Lib.strCells (bOf c) = [.int .u8 c] := by
    have : ((UInt8.ofNat c.toNat).toNat : Int) = c := by
      rw [UInt8.toNat_ofNat']
      omega
    simp only [Lib.strCells, bOf, List.map_cons, List.map_nil, this]
  rw [hcv] at hj
  match j, hj with
  | 0, hj =>
    simp at hj
    subst hj
    exact ⟨_, rfl, by simpa [Addr.add] using h⟩

set_option maxHeartbeats 4000000 in
set_option maxRecDepth 100000 in
theorem MacEqual_walk (w : World) (s : ByteArray) (hs : s.size ≤ 140737488351232) (q0 q1 : Int) (hq0 : Bd .i64 q0) (hq1 : Bd .i64 q1) (o : ByteArray) (ho : o.size ≤ 140737488351232) :
    Calls Try.prog 11 #[.string s, .agg #[.int .i64 q0, .int .i64 q1], .string o] w fun e w' => e = .returned (.bool true) ∧ Fr [] w w' := by
  have hsh := fun W => short07_calls s 60 60 rfl W (by omega) (by decide)
  have h60 := shortB_size s 60
  generalize shortB s 60 = x at hsh h60
  have hso := fun W => short07_calls o 60 60 rfl W (by omega) (by decide)
  have h60o := shortB_size o 60
  generalize shortB o 60 = y at hso h60o
  have b1 : (⟨#[120]⟩ : ByteArray).size = 1 := rfl
  have hx1 : (x ++ ⟨#[120]⟩ : ByteArray).size = x.size + 1 := ByteArray.size_append
  have he1 := fun W => Equal_calls W x x (by omega) (by omega)
  have he2 := fun W => Equal_calls W x (x ++ ⟨#[120]⟩) (by omega) (by omega)
  have he3 := fun W => Equal_calls W x y (by omega) (by omega)
  rw [eqB_self] at he1
  rw [eqB_ne (size_ne (by rw [hx1]; omega))] at he2
  have HE := Lib.hid (And.intro he1 (And.intro he2 he3))
  have hsx : x.size + (⟨#[120]⟩ : ByteArray).size ≤ 9223372036854775807 := by omega
  obtain ⟨n, hn⟩ : ∃ n, x.size = n := ⟨_, rfl⟩
  obtain ⟨B, hB⟩ : ∃ B, eqB x y = B := ⟨_, rfl⟩
  have HBQ : Hid ((x.toList == y.toList) = B) := Lib.hid (by
    rw [← hB]
    by_cases e : x = y
    · subst e; rw [eqB_self]; simp
    · rw [eqB_ne e, str_ne e])
  rw [hB] at HE
  have H2 : Hid (∀ (k : Nat) (c : Int), k < n → 0 ≤ c → c < 256 → ∀ W, Calls Try.prog 26 #[.string x, .string (turnB x k c)] W fun e w' => e = .returned (.bool (eqB x (turnB x k c))) ∧ ∃ m, w' = W.drewN m) := Lib.hid (fun k c hk h0 h1 W => Equal_quiet W x _ (by omega) (by rw [turnB_size x k c (by omega)]; omega))
  have h60n : n ≤ 60 := by omega
  clear he1 he2 he3 hx1 hB h60 h60o ho hs
  have hq0b := hq0.i64
  have hq1b := hq1.i64
  clear hq0 hq1
  go_enter Try.func11, Try.ntmps11
  go_wp2_with fail
  have hf0 : Fr [] w (w.alloc (.cells #[.int .i64 q0, .int .i64 q1] 45)) := (Fr.refl _ _).alloc _
  have hb0 := heap_alloc_new w (.cells #[.int .i64 q0, .int .i64 q1] 45)
  generalize w.alloc (.cells #[.int .i64 q0, .int .i64 q1] 45) = W0 at hf0 hb0 ⊢
  generalize w.heap.size = Q at hb0 ⊢
  have HB0 := Lib.hid (And.intro hf0 hb0)
  clear hf0 hb0
  (with_reducible refine (awake07_calls _).mono ?_)
  rintro e w1 ⟨rfl, hf1⟩
  have HB1 : Hid (Fr [] w w1 ∧ w1.heap[Q]? = some (.cells #[.int .i64 q0, .int .i64 q1] 45 (0, 0))) := Lib.hid ⟨HB0.out.1.then hf1, (hf1.block Q (lt_of_heap HB0.out.2) (by simp)).trans HB0.out.2⟩
  clear hf1 HB0
  go_wp2_with fail
  (with_reducible refine (hsh _).mono ?_)
  rintro e w2 ⟨rfl, rfl⟩
  clear hsh
  go_wp2_with fail
  (with_reducible refine (hso _).mono ?_)
  rintro e w2 ⟨rfl, rfl⟩
  clear hso
  go_wp2_with fail
  (with_reducible refine (HE.out.1 _).mono ?_)
  rintro e w3 ⟨rfl, hf3⟩
  have HB3 : Hid (Fr [] w w3 ∧ w3.heap[Q]? = some (.cells #[.int .i64 q0, .int .i64 q1] 45 (0, 0))) := Lib.hid ⟨HB1.out.1.then hf3, (hf3.block Q (lt_of_heap HB1.out.2) (by simp)).trans HB1.out.2⟩
  clear hf3 HB1
  go_wp2_with fail
  (with_reducible refine (HE.out.2.1 _).mono ?_)
  rintro e w4 ⟨rfl, hf4⟩
  have HB4 : Hid (Fr [] w w4 ∧ w4.heap[Q]? = some (.cells #[.int .i64 q0, .int .i64 q1] 45 (0, 0))) := Lib.hid ⟨HB3.out.1.then hf4, (hf4.block Q (lt_of_heap HB3.out.2) (by simp)).trans HB3.out.2⟩
  clear hf4 HB3
  go_wp2_with fail
  (with_reducible refine (HE.out.2.2 _).mono ?_)
  rintro e w5 ⟨rfl, hf5⟩
  have HB5 : Hid (Fr [] w w5 ∧ w5.heap[Q]? = some (.cells #[.int .i64 q0, .int .i64 q1] 45 (0, 0))) := Lib.hid ⟨HB4.out.1.then hf5, (hf5.block Q (lt_of_heap HB4.out.2) (by simp)).trans HB4.out.2⟩
  have hBQ := HBQ.out
  clear hf5 HB4 HE HBQ hsx
  by_cases hn0 : n = 0
  · subst hn0
    cases B <;> (go_wp2_with fail; go_ret; exact ⟨rfl, HB5.out.1⟩)
  · have hnp : 0 < n := by omega
    obtain ⟨hT0, hT1⟩ := tmod_bd0 q0 n hnp
    generalize hT : q0.tmod (n : Int) = T at hT0 hT1
    obtain ⟨k, hk, hkn⟩ : ∃ k : Nat, (T + n) % (n : Int) = k ∧ k < n := ⟨((T + n) % (n : Int)).toNat, by have := Int.emod_nonneg (T + n) (show (n : Int) ≠ 0 by omega); omega, by have := Int.emod_lt_of_pos (T + n) (show (0 : Int) < (n : Int) by omega); omega⟩
    have c0 : w5.cell? ⟨Q, 0, none⟩ = some (.int .i64 q0) := by rw [Lib.cell_of_heap HB5.out.2]; rfl
    have c1 : w5.cell? ⟨Q, 1, none⟩ = some (.int .i64 q1) := by rw [Lib.cell_of_heap HB5.out.2]; rfl
    have hn0' : ((n : Int) == 0) = false := beq_eq_false_iff_ne.2 (by omega)
    have hn0'' : ¬ (n : Int) = 0 := by omega
    have hkx : k < x.size := by omega
    have hcx := (x[k]).toNat_lt
    obtain ⟨v, hv, hv256⟩ : ∃ v : Nat, q1 % 256 = (v : Int) ∧ v < 256 := ⟨(q1 % 256).toNat, by omega, by omega⟩
    have hxx := u8_xor_nat (x[k]).toNat v hcx hv256
    have hx8 := xor8 hcx hv256
    have HEQ : Hid (eqB x (turnB x k (((x[k]).toNat ^^^ v : Nat) : Int)) = decide (v = 0)) := Lib.hid (by
      rw [turnB_eq x k _ hkx (by omega) (by omega)]
      by_cases hv0 : v = 0
      · subst hv0; simp
      · rw [decide_eq_false hv0, decide_eq_false]
        intro h
        have h' : (x[k]).toNat ^^^ v = (x[k]).toNat := by omega
        have := congrArg (fun z => (x[k]).toNat ^^^ z) h'
        simp only [← Nat.xor_assoc, Nat.xor_self, Nat.zero_xor] at this
        exact hv0 this)
    have HC2 := Lib.hid (H2.out k (((x[k]).toNat ^^^ v : Nat) : Int) hkn (by omega) (by omega))
    rw [HEQ.out] at HC2
    have HTB : Hid (turnB x k (((x[k]).toNat ^^^ v : Nat) : Int) = x.extract 0 k ++ bOf (((x[k]).toNat ^^^ v : Nat) : Int) ++ x.extract (k + 1) n) := Lib.hid (by rw [turnB, hn])
    have hvv : ((v : Int) == 0) = decide (v = 0) := by
      by_cases h : v = 0
      · subst h; rfl
      · rw [decide_eq_false h]; exact beq_eq_false_iff_ne.2 (by omega)
    have HVV := Lib.hid hvv
    generalize turnB x k (((x[k]).toNat ^^^ v : Nat) : Int) = t at HC2 HTB
    generalize decide (v = 0) = dz at HC2 HVV
    have hcv : ∀ (W : World) (b : Nat), W.cell? ⟨b, 0, none⟩ = some (.int .u8 (((x[k]).toNat ^^^ v : Nat) : Int)) → (convert 27 9 (.slice (some ⟨b, 0, none⟩) 1 1)).run Try.prog W = .ok (.string (bOf (((x[k]).toNat ^^^ v : Nat) : Int))) W := fun W b h => run_toStringC (by omega) (by omega) h
    generalize (((x[k]).toNat ^^^ v : Nat) : Int) = cc at hxx hcv HTB
    clear hvv HEQ H2 hx8
    have hbs : (bOf cc).size = 1 := bOf_size cc
    have he0 : (x.extract 0 k).size = k := by rw [ByteArray.size_extract]; omega
    have he2 : (x.extract (k + 1) n).size = n - (k + 1) := by rw [ByteArray.size_extract]; omega
    have hp1 : (0 : Int) ≤ (k : Int) := by omega
    have hp2 : (k : Int) < (n : Int) := by omega
    have hp3 : (k : Int) ≤ (n : Int) := by omega
    have hp4 : (k : Int) + 1 ≤ (n : Int) := by omega
    have hp5 : (0 : Int) ≤ (k : Int) + 1 := by omega
    have hp6 : ((k : Int) + 1).toNat = k + 1 := by omega
    have hp7 : k ≤ n := by omega
    have hp8 : k + 1 ≤ n := by omega
    cases B
    all_goals
      go_wp2_with fail
      rw [hk]
      clear hk hT hT0 hT1 hn0' hn0'' c0 hBQ
      go_region
      all_goals
        rw [← HTB.out]
        clear hcv hxx hbs he0 he2 HTB
        have HF6 : Hid (Fr [] w (w5.alloc (.cells #[.int .u8 cc] 5)).drew) := Lib.hid (HB5.out.1.alloc _).drew
        have c6 : (w5.alloc (.cells #[.int .u8 cc] 5)).drew.cell? ⟨Q, 1, none⟩ = some (.int .i64 q1) := ((Fr.refl [] w5).alloc _).drew.cell' c1 (by simp)
        clear c1
        generalize (w5.alloc (.cells #[.int .u8 cc] 5)).drew = W6 at HF6 c6 ⊢
        have hvv := HVV.out
        go_wp2_with fail
        go_quiet ((go_at_call 26; with_reducible exact quiet1 HC2.out))
        go_wp2_with fail
        go_ret
        exact ⟨by first | rfl | (cases dz <;> rfl), HF6.out.drewN _⟩
end Go.Proofs.Ytlcfambhjclkiaa
