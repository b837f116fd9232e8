/- The law AddressSame: for any numbers the Go function returns true (its walk). -/
import Derived.Test.YtfaopjoglgmoiaaDoorAddrL
import Derived.Test.YtfaopjoglgmoiaaDoorAddressMasks
namespace Go.Proofs.YtfaopjoglgmoiaaDoor
open Go.RowKit Go.Lib
set_option linter.unusedVariables false
set_option linter.unusedSimpArgs false

theorem bOf_cellsA {c : Int} (h0 : 0 ≤ c) (h1 : c < 256) : Lib.strCells (bOf c) = [.int .u8 c] := by
  have : ((UInt8.ofNat c.toNat).toNat : Int) = c := by
    rw [UInt8.toNat_ofNat']
    omega
  simp only [Lib.strCells, bOf, List.map_cons, List.map_nil, this]
theorem toStr1 {w : World} {b : Nat} {c : Int} (h0 : 0 ≤ c) (h1 : c < 256) (h : w.cell? ⟨b, 0, none⟩ = some (.int .u8 c)) :
    (convert 30 9 (.slice (some ⟨b, 0, none⟩) 1 1)).run Tryd.prog w = .ok (.string (bOf c)) w := by
  refine run_toString Tryd.underlying30 Tryd.underlying5 Tryd.underlying9 (show 1 = (bOf c).size from rfl) ?_ (by rintro ad ⟨⟩; rfl)
  intro j v hj
  rw [bOf_cellsA h0 h1] at hj
  match j, hj with
  | 0, hj =>
    simp at hj
    subst hj
    exact ⟨_, rfl, by rw [show (⟨b, 0, none⟩ : Addr).add 0 = ⟨b, 0, none⟩ from by simp [Addr.add]]; exact h⟩
theorem lets_tag (l : List Int) : (madeS letT (l.take 10) ⟨#[]⟩).data.toList.all lowN = true ∧ (madeS letT (l.take 10) ⟨#[]⟩).size ≤ 10 := by
  refine ⟨madeS_all lowN letT (by decide) _ _ (by decide), ?_⟩
  have h := madeS_size letT (l.take 10) ⟨#[]⟩
  rw [List.length_take] at h
  have e : (⟨#[]⟩ : ByteArray).size = 0 := rfl
  omega
/-- Where the third loop stands: the letters so far, some of them capital. -/
def CapS (a : ByteArray) (i : Nat) (c : ByteArray) : Prop := ∃ cl : List UInt8, c = bL cl ∧ cl.all alN = true ∧ cl.map lowC = a.data.toList.take i
theorem CapS.next {a c : ByteArray} {i : Nat} (h : CapS a i c) (hi : i < a.size) {d : UInt8} (hd : alN d = true ∧ lowC d = a[i]) : CapS a (i + 1) (c ++ bL [d]) := by
  obtain ⟨cl, rfl, h1, h2⟩ := h
  have hil : i < a.data.toList.length := by rw [len_size]; exact hi
  refine ⟨cl ++ [d], bL_app _ _, ?_, ?_⟩
  · rw [List.all_append, h1]; simp [hd.1]
  · rw [List.map_append, h2, List.take_succ_eq_append_getElem hil]
    simp only [List.map_cons, List.map_nil, hd.2]
    rfl
theorem CapS.size {a c : ByteArray} {i : Nat} (h : CapS a i c) : c.size ≤ i := by
  obtain ⟨cl, rfl, _, h2⟩ := h
  have := congrArg List.length h2
  rw [List.length_map, List.length_take] at this
  rw [bL_size]
  omega

set_option maxHeartbeats 4000000 in
set_option maxRecDepth 100000 in
theorem AddressSame_walk (w : World) (hM : ML w) (A : Option Addr) (cap : Nat) (l : List Int) (hr : RdV w A (l.map (.int .i64))) (hb : ∀ x, x ∈ l → Bd .i64 x) (hl : l.length ≤ maxLen) (B : Option Addr) (cap2 : Nat) (m : List Int) (hr2 : RdV w B (m.map (.int .i64))) (hb2 : ∀ x, x ∈ m → Bd .i64 x) (hl2 : m.length ≤ maxLen) (n0 : Int) (hn0 : Bd .u64 n0) :
    Calls Tryd.prog 4 #[.slice A l.length cap, .slice B m.length cap2, .int .u64 n0] w fun e w' => e = .returned (.bool true) ∧ Fr [] w w' := by
  unfold maxLen at hl hl2
  have haw := awake09_calls w hM
  have hmk : ∀ W, Fr [] w W → ∀ x : ByteArray, x.size ≤ 1000 → Calls Tryd.prog 12 #[.string x] W fun e w' => e = .returned (.tuple #[.string (mailS x.data.toList).1, .bool (mailS x.data.toList).2]) ∧ Fr [] W w' := fun W hf x hx => Mail_calls W (hM.keep hf) x (by omega)
  have HR := Lib.hid hr
  have HR2 := Lib.hid hr2
  have HMK := Lib.hid hmk
  have ⟨hn1, hn2⟩ := hn0.u64
  clear hr hb hr2 hb2 hmk hM hn0
  go_enter Tryd.func4, Tryd.ntmps4
  go_wp2_with fail
  (with_reducible refine haw.mono ?_)
  rintro e w1 ⟨rfl, hf1⟩
  have HF := Lib.hid hf1
  clear hf1 haw
  go_wp2_with fail
  go_loop [9, 10] (fun v9 v11 => ∃ (i : Nat) (s : ByteArray), v9 = .string s ∧ v11 = .int .i64 i ∧ i ≤ l.length ∧ i ≤ 10 ∧ s.size ≤ 1 + i ∧ Hid (s = madeS letT (l.take i) ⟨#[120]⟩)) (fun _ v11 => 10 - (intOf v11).toNat)
  case atStart => exact ⟨0, _, rfl, rfl, Nat.zero_le _, Nat.zero_le _, by decide, Lib.hid rfl⟩
  case round =>
    obtain ⟨i, sl, rfl, rfl, hil, hi10, hss, H⟩ := hrel
    rcases (by omega : (i < l.length ∧ i < 10) ∨ (i < l.length ∧ ¬ i < 10) ∨ ¬ i < l.length) with ⟨h1, h2⟩ | ⟨h1, h2⟩ | h1
    · obtain ⟨ad, rfl, hc0⟩ := HR.out i (.int .i64 l[i]) (by simp [h1])
      have hc := HF.out.cell' hc0 (by simp)
      obtain ⟨k, hk, hk16⟩ : ∃ k : Nat, l[i] % 16 = (k : Int) ∧ k < 16 := ⟨(l[i] % 16).toNat, by omega, by omega⟩
      have hand : bits .and .i64 l[i] 15 = (k : Int) := by rw [i64_and15, hk]
      have hn : madeS letT (l.take (i + 1)) ⟨#[120]⟩ = madeS letT (l.take i) ⟨#[120]⟩ ++ letT.extract k (k + 1) := by
        rw [List.take_succ_eq_append_getElem h1, madeS_snoc, hk, Int.toNat_natCast]
      have HN := Lib.hid hn
      clear hk hn hc0
      generalize l[i] = z at *
      have hk0 : (0 : Int) ≤ (k : Int) := by omega
      have g1 : (9223372036854775807 < sl.size + 1) = False := eq_false (by omega)
      go_wp2_with fail
      refine ⟨⟨i + 1, _, rfl, by go_num, by omega, by omega, ?_, Lib.hid ?_⟩, by simp only [intOf]; omega⟩
      · rw [ByteArray.size_append, ByteArray.size_extract]; omega
      · rw [HN.out, ← H.out]; rfl
    all_goals
      have HSl : Hid (sl = madeS letT (l.take 10) ⟨#[120]⟩) := Lib.hid (by
        rw [H.out]
        first
        | rw [show i = 10 from by omega]
        | rw [List.take_of_length_le (show l.length ≤ i by omega), List.take_of_length_le (show l.length ≤ 10 by omega)])
      have hzl : sl.size ≤ 11 := by omega
      clear H hss
      go_wp2_with fail
      go_loop [12, 13] (fun v9 v11 => ∃ (i : Nat) (s : ByteArray), v9 = .string s ∧ v11 = .int .i64 i ∧ i ≤ m.length ∧ i ≤ 10 ∧ s.size ≤ 0 + i ∧ Hid (s = madeS letT (m.take i) ⟨#[]⟩)) (fun _ v11 => 10 - (intOf v11).toNat)
      case atStart => exact ⟨0, _, rfl, rfl, Nat.zero_le _, Nat.zero_le _, by decide, Lib.hid rfl⟩
      case round =>
        obtain ⟨i, sm, rfl, rfl, hil, hi10, hss, H⟩ := hrel
        rcases (by omega : (i < m.length ∧ i < 10) ∨ (i < m.length ∧ ¬ i < 10) ∨ ¬ i < m.length) with ⟨h1, h2⟩ | ⟨h1, h2⟩ | h1
        · obtain ⟨ad, rfl, hc0⟩ := HR2.out i (.int .i64 m[i]) (by simp [h1])
          have hc := HF.out.cell' hc0 (by simp)
          obtain ⟨k, hk, hk16⟩ : ∃ k : Nat, m[i] % 16 = (k : Int) ∧ k < 16 := ⟨(m[i] % 16).toNat, by omega, by omega⟩
          have hand : bits .and .i64 m[i] 15 = (k : Int) := by rw [i64_and15, hk]
          have hn : madeS letT (m.take (i + 1)) ⟨#[]⟩ = madeS letT (m.take i) ⟨#[]⟩ ++ letT.extract k (k + 1) := by
            rw [List.take_succ_eq_append_getElem h1, madeS_snoc, hk, Int.toNat_natCast]
          have HN := Lib.hid hn
          clear hk hn hc0
          generalize m[i] = z at *
          have hk0 : (0 : Int) ≤ (k : Int) := by omega
          have g1 : (9223372036854775807 < sm.size + 1) = False := eq_false (by omega)
          go_wp2_with fail
          refine ⟨⟨i + 1, _, rfl, by go_num, by omega, by omega, ?_, Lib.hid ?_⟩, by simp only [intOf]; omega⟩
          · rw [ByteArray.size_append, ByteArray.size_extract]; omega
          · rw [HN.out, ← H.out]; rfl
        all_goals
          have HSm : Hid (sm = madeS letT (m.take 10) ⟨#[]⟩) := Lib.hid (by
            rw [H.out]
            first
            | rw [show i = 10 from by omega]
            | rw [List.take_of_length_le (show m.length ≤ i by omega), List.take_of_length_le (show m.length ≤ 10 by omega)])
          have hzm : sm.size ≤ 11 := by omega
          clear H hss
          go_wp2_with fail
          obtain ⟨la, hza⟩ := lets_facts l
          rw [← HSl.out] at la hza
          obtain ⟨lb, hzb⟩ := lets_tag m
          rw [← HSm.out] at lb hzb
          obtain ⟨t0, ht0⟩ := lets_head letT 120 (l.take 10) ⟨#[120]⟩ ⟨[], rfl⟩
          rw [← HSl.out] at ht0
          have hne : sl.data.toList ≠ [] := by rw [ht0]; simp
          have HA := Lib.hid (And.intro la (And.intro lb hne))
          clear la lb hne ht0 HSl HSm
          go_loopw [15, 16] (fun v15 v16 wr => ∃ (i : Nat) (c : ByteArray), v15 = .string c ∧ v16 = .int .i64 i ∧ i ≤ sl.size ∧ c.size ≤ i ∧ Hid (CapS sl i c ∧ Fr [] w wr)) (fun _ v16 _ => sl.size - (intOf v16).toNat)
          case atStart => exact ⟨0, ⟨#[]⟩, rfl, rfl, Nat.zero_le _, Nat.zero_le _, ⟨[], rfl, rfl, rfl⟩, HF.out⟩
          case round =>
            obtain ⟨i, c, rfl, rfl, hi, hci, H⟩ := hrel
            by_cases hlt : i < sl.size
            · have hil : i < sl.data.toList.length := by rw [len_size]; exact hlt
              have hlo : lowN sl[i] = true := List.all_eq_true.1 HA.out.1 _ (List.getElem_mem hil)
              obtain ⟨u1, u2⟩ := low_up hlo
              have u3 := low_same hlo
              have hb97 : 97 ≤ (sl[i]).toNat ∧ (sl[i]).toNat ≤ 122 := by
                unfold lowN at hlo
                simpa only [Bool.and_eq_true, decide_eq_true_eq] using hlo
              have hN1 := Lib.hid (CapS.next H.out.1 hlt (d := sl[i]) u3)
              have hN2 := Lib.hid (CapS.next H.out.1 hlt (d := sl[i] - 32) ⟨u1, u2⟩)
              have e1 : bL [sl[i]] = bOf ((sl[i]).toNat : Int) := by unfold bOf bL; simp
              have e2 : bL [sl[i] - 32] = bOf (((sl[i]).toNat : Int) - 32) := by
                unfold bOf bL
                have : sl[i] - 32 = UInt8.ofNat ((((sl[i]).toNat : Int) - 32).toNat) := by
                  apply UInt8.toNat_inj.1
                  rw [UInt8.toNat_ofNat', UInt8.toNat_sub_of_le]
                  · show (sl[i]).toNat - 32 = _; omega
                  · show (32 : UInt8).toNat ≤ (sl[i]).toNat; have : (32 : UInt8).toNat = 32 := rfl; omega
                rw [this]
              rw [e1] at hN1
              rw [e2] at hN2
              have HFR := Lib.hid H.out.2
              clear H hlo u1 u2 u3 e1 e2
              obtain ⟨h97, h122⟩ := hb97
              obtain ⟨d, hd⟩ : ∃ d, (sl[i]).toNat = d := ⟨_, rfl⟩
              rw [hd] at h97 h122 hN1 hN2
              have d1 : (97 : Int) ≤ (d : Int) := by omega
              have d2 : (d : Int) ≤ 122 := by omega
              have hcv1 := fun (W : World) (hW : W.cell? ⟨wr.heap.size, 0, none⟩ = some (.int .u8 (d : Int))) => toStr1 (w := W) (b := wr.heap.size) (c := (d : Int)) (by omega) (by omega) hW
              have hcv2 := fun (W : World) (hW : W.cell? ⟨wr.heap.size, 0, none⟩ = some (.int .u8 ((d : Int) - 32))) => toStr1 (w := W) (b := wr.heap.size) (c := (d : Int) - 32) (by omega) (by omega) hW
              have q1 := hcv1 (wr.alloc (.cells #[.int .u8 (d : Int)] 5)) (by rw [Lib.cell_of_heap (heap_alloc_new wr _)]; rfl)
              have q2 := hcv2 (wr.alloc (.cells #[.int .u8 ((d : Int) - 32)] 5)) (by rw [Lib.cell_of_heap (heap_alloc_new wr _)]; rfl)
              have hb1 := bOf_size (d : Int)
              have hb2 := bOf_size ((d : Int) - 32)
              have g1 : (9223372036854775807 < c.size + (bOf (d : Int)).size) = False := eq_false (by omega)
              have g2 : (9223372036854775807 < c.size + (bOf ((d : Int) - 32)).size) = False := eq_false (by omega)
              have g3 : (9223372036854775807 < c.size + 1) = False := eq_false (by omega)
              have hm : ((d : Int) - 32) % 256 = (d : Int) - 32 := by omega
              have hF1 := Lib.hid (HFR.out.alloc (.cells #[.int .u8 (d : Int)] 5))
              have hF2 := Lib.hid (HFR.out.alloc (.cells #[.int .u8 ((d : Int) - 32)] 5))
              clear hcv1 hcv2
              go_wp2_with fail
              · refine ⟨⟨i + 1, _, rfl, by go_num, by omega, by rw [ByteArray.size_append]; omega, hN2.out, hF2.out⟩, by simp only [intOf]; omega⟩
              · refine ⟨⟨i + 1, _, rfl, by go_num, by omega, by rw [ByteArray.size_append]; omega, hN1.out, hF1.out⟩, by simp only [intOf]; omega⟩
            · obtain rfl : i = sl.size := by omega
              obtain ⟨cl, hcl, hc1, hc2⟩ := H.out.1
              have hFR := Lib.hid H.out.2
              rw [List.take_of_length_le (by rw [len_size]; exact Nat.le_refl _)] at hc2
              have hls := len_size sl
              have hlm := len_size sm
              have hms : mailS (sl ++ ⟨#[64, 104, 111, 115, 116, 46, 111, 114, 103]⟩ : ByteArray).data.toList = (sl ++ ⟨#[64, 104, 111, 115, 116, 46, 111, 114, 103]⟩, true) := by
                rw [ByteArray.data_append, Array.toList_append]
                refine (mailS_letters (h := [104, 111, 115, 116, 46, 111, 114, 103]) HA.out.2.2 HA.out.1 (by decide) (by rw [hls]; simp; omega)).trans ?_
                rw [show (sl ++ ⟨#[64, 104, 111, 115, 116, 46, 111, 114, 103]⟩ : ByteArray) = bL (sl.data.toList ++ 64 :: [104, 111, 115, 116, 46, 111, 114, 103]) from bL_of (by rw [ByteArray.data_append, Array.toList_append])]
              have hmt : mailS (⟨#[32, 9]⟩ ++ c ++ ⟨#[43]⟩ ++ sm ++ ⟨#[64, 72, 111, 115, 116, 46, 79, 82, 71, 32]⟩ : ByteArray).data.toList = (sl ++ ⟨#[64, 104, 111, 115, 116, 46, 111, 114, 103]⟩, true) := by
                have e := mail_same (a := sl.data.toList) (c := cl) (b := sm.data.toList) HA.out.2.2 HA.out.1 hc1 hc2 HA.out.2.1 (by omega)
                rw [hcl]
                rw [show (⟨#[32, 9]⟩ ++ bL cl ++ ⟨#[43]⟩ ++ sm ++ ⟨#[64, 72, 111, 115, 116, 46, 79, 82, 71, 32]⟩ : ByteArray).data.toList = [32, 9] ++ cl ++ [43] ++ sm.data.toList ++ [64, 72, 111, 115, 116, 46, 79, 82, 71, 32] from by simp [bL], e]
                rw [show (sl ++ ⟨#[64, 104, 111, 115, 116, 46, 111, 114, 103]⟩ : ByteArray) = bL (sl.data.toList ++ 64 :: [104, 111, 115, 116, 46, 111, 114, 103]) from bL_of (by rw [ByteArray.data_append, Array.toList_append])]
              have z1 : (sl ++ ⟨#[64, 104, 111, 115, 116, 46, 111, 114, 103]⟩ : ByteArray).size ≤ 1000 := by rw [ByteArray.size_append]; show sl.size + 9 ≤ _; omega
              have z2 : (⟨#[32, 9]⟩ ++ c ++ ⟨#[43]⟩ ++ sm ++ ⟨#[64, 72, 111, 115, 116, 46, 79, 82, 71, 32]⟩ : ByteArray).size ≤ 1000 := by simp only [ByteArray.size_append]; show 2 + c.size + 1 + sm.size + 10 ≤ _; omega
              have hM1 := fun W hf => HMK.out W hf (sl ++ ⟨#[64, 104, 111, 115, 116, 46, 111, 114, 103]⟩) z1
              have hM2 := fun W hf => HMK.out W hf (⟨#[32, 9]⟩ ++ c ++ ⟨#[43]⟩ ++ sm ++ ⟨#[64, 72, 111, 115, 116, 46, 79, 82, 71, 32]⟩) z2
              rw [hms] at hM1
              rw [hmt] at hM2
              simp only at hM1 hM2
              have H1 := Lib.hid hM1
              have H2 := Lib.hid hM2
              have g1 : (9223372036854775807 < sl.size + 9) = False := eq_false (by omega)
              have g2 : (9223372036854775807 < 2 + c.size) = False := eq_false (by omega)
              have g3 : (9223372036854775807 < 2 + c.size + 1) = False := eq_false (by omega)
              have g4 : (9223372036854775807 < 2 + c.size + 1 + sm.size) = False := eq_false (by omega)
              have g5 : (9223372036854775807 < 2 + c.size + 1 + sm.size + 10) = False := eq_false (by omega)
              clear hM1 hM2 hms hmt z1 z2 hc1 hc2 hcl HMK H hls hlm
              go_wp2_with fail
              (with_reducible refine (H1.out _ hFR.out).mono ?_)
              rintro e w3 ⟨rfl, hf3⟩
              have HF3 := Lib.hid (hFR.out.then hf3)
              clear hf3
              go_wp2_with fail
              (with_reducible refine (H2.out _ HF3.out).mono ?_)
              rintro e w4 ⟨rfl, hf4⟩
              have HF4 := Lib.hid (HF3.out.then hf4)
              clear hf4
              go_wp2_with fail
              go_ret
              exact ⟨rfl, HF4.out⟩
end Go.Proofs.YtfaopjoglgmoiaaDoor
