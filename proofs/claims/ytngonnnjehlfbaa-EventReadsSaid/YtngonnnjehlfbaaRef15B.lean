/- The contracts of the document's layer 15: Batch and Name. -/
import Derived.Test.YtngonnnjehlfbaaRef15
import Derived.Test.YtngonnnjehlfbaaEvBatch
import Derived.Test.YtngonnnjehlfbaaEvName
namespace Go.Proofs.Ytngonnnjehlfbaa
open Go.RowKit
set_option linter.unusedVariables false
set_option linter.unusedSimpArgs false

theorem infoString' : (Try.prog.info? 9).map (fun i => (i.zero, i.size, i.bytes)) = some (some (.string ⟨#[]⟩), 1, 16) := by kernel_rfl
def rVals : Array Value := #[.string ⟨#[115, 105, 103, 110, 117, 112]⟩, .string ⟨#[118, 101, 114, 105, 102, 105, 101, 100]⟩, .string ⟨#[112, 97, 115, 115, 119, 111, 114, 100]⟩, .string ⟨#[109, 105, 115, 115, 101, 100]⟩, .string ⟨#[112, 97, 115, 115, 101, 100]⟩, .string ⟨#[109, 111, 118, 101, 100]⟩, .string ⟨#[99, 111, 110, 116, 97, 99, 116]⟩, .string ⟨#[115, 101, 115, 115, 105, 111, 110]⟩, .string ⟨#[114, 101, 118, 111, 107, 101, 100]⟩, .string ⟨#[115, 101, 99, 114, 101, 116]⟩, .string ⟨#[117, 115, 101, 100]⟩, .string ⟨#[116, 114, 105, 101, 100]⟩, .string ⟨#[100, 114, 111, 112, 112, 101, 100]⟩, .string ⟨#[111, 119, 101, 100]⟩, .string ⟨#[116, 97, 107, 101, 110]⟩, .string ⟨#[102, 97, 105, 108, 101, 100]⟩, .string ⟨#[99, 97, 115, 101]⟩, .string ⟨#[118, 111, 117, 99, 104, 101, 100]⟩, .string ⟨#[99, 97, 110, 99, 101, 108, 108, 101, 100]⟩, .string ⟨#[114, 101, 99, 111, 118, 101, 114, 101, 100]⟩, .string ⟨#[115, 116, 97, 114, 116, 101, 100]⟩]
theorem rv_map : rVals.toList = evNames.tail.map .string := rfl
set_option maxHeartbeats 2000000 in
set_option maxRecDepth 100000 in
theorem RName_core (V : Array Value) (hV : V = rVals) (w : World) (k : Int) (h0 : -9223372036854775808 ≤ k) (h1 : k ≤ 9223372036854775807) :
    Calls Try.prog 35 #[.int .i64 k] w fun e w' => e = .returned (.string (evName k)) ∧ Fr [] w w' := by
  obtain ⟨ie, hi, hz, hs1, hb1⟩ := info_parts infoString'
  have HV := Lib.hid hV
  have HI := Lib.hid hi
  have HZ := Lib.hid hz
  have HS := Lib.hid hs1
  have hnew := heap_alloc_new w (.cells V 9)
  have HN := Lib.hid hnew
  clear hV hi hz hs1 hb1 hnew
  by_cases hneg : k < 1
  · have hn : evName k = ⟨#[]⟩ := by
      rw [evName]
      split
      · rfl
      · obtain rfl : k = 0 := by omega
        rfl
    rw [hn]
    clear hn
    go_enter Try.func35, Try.ntmps35
    go_wp2_with (refine wpList_buildSlice rfl 38 9 21 _ rfl V ie (.string ⟨#[]⟩) Try.underlying38 HI.out HZ.out (by rw [HS.out]; decide) (by rw [HS.out]; decide) (by rw [HS.out, HV.out]; kernel_rfl) ?_)
    go_ret
    exact ⟨rfl, (Fr.refl _ _).alloc _⟩
  · obtain ⟨j, rfl⟩ : ∃ j : Nat, k = (j : Int) + 1 := ⟨(k - 1).toNat, by omega⟩
    by_cases hbig : 21 ≤ j
    · have hn : evName ((j : Int) + 1) = ⟨#[]⟩ := by
        rw [evName, if_neg (by omega), List.getElem?_eq_none (by simp [evNames]; omega)]
        rfl
      rw [hn]
      have hd1 : decide ((j : Int) + 1 < 1) = false := decide_eq_false (by omega)
      have hd2 : decide ((21 : Int) < (j : Int) + 1) = true := decide_eq_true (by omega)
      clear hn hneg hbig
      go_enter Try.func35, Try.ntmps35
      go_wp2_with (refine wpList_buildSlice rfl 38 9 21 _ rfl V ie (.string ⟨#[]⟩) Try.underlying38 HI.out HZ.out (by rw [HS.out]; decide) (by rw [HS.out]; decide) (by rw [HS.out, HV.out]; kernel_rfl) ?_)
      go_ret
      exact ⟨rfl, (Fr.refl _ _).alloc _⟩
    · have hn : ∃ s, evNames.tail[j]? = some s := ⟨_, List.getElem?_eq_getElem (by simp [evNames]; omega)⟩
      obtain ⟨s, hs⟩ := hn
      have hn2 : evName ((j : Int) + 1) = s := by
        rw [List.getElem?_tail] at hs
        rw [evName, if_neg (by omega), show ((j : Int) + 1).toNat = j + 1 from by omega, hs]
        rfl
      rw [hn2]
      have hcell : (w.alloc (.cells V 9)).cell? ⟨w.heap.size, j, none⟩ = some (.string s) := by
        rw [Lib.cell_of_heap HN.out, HV.out, ← Array.getElem?_toList, rv_map, List.getElem?_map, hs]
        rfl
      have hm0 : (0 : Int) ≤ (j : Int) := by omega
      have hm1 : (j : Int) < 21 := by omega
      have hd1 : decide ((j : Int) + 1 < 1) = false := decide_eq_false (by omega)
      have hd2 : decide ((21 : Int) < (j : Int) + 1) = false := decide_eq_false (by omega)
      clear hn2 hneg hs hbig h0 h1
      go_enter Try.func35, Try.ntmps35
      go_wp2_with (refine wpList_buildSlice rfl 38 9 21 _ rfl V ie (.string ⟨#[]⟩) Try.underlying38 HI.out HZ.out (by rw [HS.out]; decide) (by rw [HS.out]; decide) (by rw [HS.out, HV.out]; kernel_rfl) ?_)
      go_ret
      exact ⟨rfl, (Fr.refl _ _).alloc _⟩
theorem RName_calls (w : World) (k : Int) (h0 : -9223372036854775808 ≤ k) (h1 : k ≤ 9223372036854775807) :
    Calls Try.prog 35 #[.int .i64 k] w fun e w' => e = .returned (.string (evName k)) ∧ Fr [] w w' := RName_core _ rfl w k h0 h1

set_option maxHeartbeats 4000000 in
set_option maxRecDepth 100000 in
theorem RBatch_calls (w : World) (A : Option Addr) (cap : Nat) (l : List Ev) (hr : EvR w A l) (hs : ∀ e, e ∈ l → e.short 140737488351232) (hl : l.length ≤ maxLen) :
    Calls Try.prog 34 #[.slice A l.length cap] w fun x w' => x = .returned (.tuple #[.string (evBatch l).1, .int .i64 (evBatch l).2]) ∧ Fr [] w w' := by
  unfold maxLen at hl
  by_cases hlen : 1 ≤ l.length ∧ l.length ≤ 24
  · have hwrap : IntKind.u64.wrap (l.length : Int) = (l.length : Int) := u64_wrap_nat (by omega)
    have HR := Lib.hid hr
    have HS := Lib.hid hs
    have hnum := fun W => refNum_calls (l.length : Int) W (by omega) (by omega)
    rw [Int.toNat_natCast] at hnum
    have hq0 : (numB l.length).size ≤ 10 := numB_size _ (by omega)
    have HQ0 := Lib.hid hq0
    generalize hqq : numB l.length = q at *
    have HQ1 := Lib.hid hqq
    have HNUM := Lib.hid hnum
    have hd1 : ¬ (l.length : Int) < 1 := by omega
    have hd2 : ¬ (24 : Int) < (l.length : Int) := by omega
    have hdd1 : decide ((l.length : Int) < 1) = false := decide_eq_false hd1
    have hdd2 : decide ((24 : Int) < (l.length : Int)) = false := decide_eq_false hd2
    clear hr hs hnum hq0 hqq hd1 hd2
    go_enter Try.func34, Try.ntmps34
    go_wp2_with fail
    (with_reducible refine (HNUM.out _).mono ?_)
    rintro e w2 ⟨rfl, hf2⟩
    have HF2 := Lib.hid hf2
    clear hf2 hwrap HNUM
    go_wp2_with fail
    go_loopw [4, 5, 6] (fun v4 v5 v6 wr => ∃ (k : Nat), v4 = .string (q ++ evsB (l.take k)) ∧ v5 = .int .i64 k ∧ k ≤ l.length ∧ Hid (Fr [] w wr ∧ (l.take k).all Ev.ok = true)) (fun _ v5 _ _ => l.length - (intOf v5).toNat)
    case atStart => exact ⟨0, by rw [List.take_zero]; simp only [evsB]; rw [app_nil], rfl, Nat.zero_le _, HF2.out, rfl⟩
    case round =>
      obtain ⟨i, rfl, rfl, hk, H⟩ := hrel
      by_cases hlk : i < l.length
      · obtain ⟨x, hx⟩ : ∃ x, l[i]? = some x := ⟨_, List.getElem?_eq_getElem hlk⟩
        have hxs := HS.out x (List.mem_of_getElem? hx)
        obtain ⟨ad, rfl, h0⟩ := HR.out i x hx
        have HC8 := Lib.hid h0
        obtain ⟨c0, c1, c2, c3, c4, c5, c6, c7⟩ := h0.keep H.out.1 (by simp)
        have hok2 : ∀ y, y ∈ l.take i → y.ok = true := List.all_eq_true.1 H.out.2
        have hsz := evsB_size _ hok2
        have htl : (l.take i).length ≤ 24 := by rw [List.length_take]; omega
        have hqs : (q ++ evsB (l.take i)).size ≤ 100000 := by have := HQ0.out; rw [ByteArray.size_append]; omega
        have hnext : q ++ evsB (l.take (i + 1)) = q ++ evsB (l.take i) ++ evB x := by
          rw [List.take_add_one, hx, evsB_append]
          simp [evsB, app_nil, app_assoc]
        have hall := take_all hx
        have hno := fun h => not_all hx h
        have hbs : (evBytes x).size ≤ 380 := by
          unfold evBytes
          split
          · next h => exact evB_size h
          · exact Nat.zero_le _
        have hby : x.ok = true → evBytes x = evB x := fun h => if_pos h
        have HBY := Lib.hid hby
        have HNEXT := Lib.hid hnext
        have HALL := Lib.hid hall
        have HNO := Lib.hid hno
        generalize hokx : x.ok = okx at HBY HALL HNO
        obtain ⟨xk, xac, xpu, xat, xn, xa, xb, xc⟩ := x
        have hck := fun W => RCheck_calls W xk xac xpu xat xn xa xb xc hxs
        rw [hokx] at hck
        have hby2 := fun W => RBytes_calls W xk xac xpu xat xn xa xb xc hxs
        simp only at c0 c1 c2 c3 c4 c5 c6 c7
        generalize evBytes ⟨xk, xac, xpu, xat, xn, xa, xb, xc⟩ = ex at *
        generalize evB ⟨xk, xac, xpu, xat, xn, xa, xb, xc⟩ = ey at *
        generalize hacc : q ++ evsB (l.take i) = acc at *
        have HC := Lib.hid hck
        have HBB := Lib.hid hby2
        clear hck hby2 hnext hall hno hok2 hsz htl hxs hx h0 hokx hby hacc
        go_wp2_with fail
        (with_reducible refine (HC.out _).mono ?_)
        rintro e w3 ⟨rfl, hf3⟩
        have hF3 := H.out.1.then hf3
        have HF3 := Lib.hid hF3
        clear c0 c1 c2 c3 c4 c5 c6 c7 hf3 hF3
        cases okx with
        | false =>
          go_wp2_with fail
          (try rw [Exit.noGoto_ret])
          go_ret2
          have he : evBatch l = (⟨#[]⟩, 1) := if_neg (fun h => HNO.out trivial h.2.2)
          rw [he]
          exact ⟨rfl, HF3.out⟩
        | true =>
          obtain ⟨c0, c1, c2, c3, c4, c5, c6, c7⟩ := HC8.out.keep HF3.out (by simp)
          simp only at c0 c1 c2 c3 c4 c5 c6 c7
          go_wp2_with fail
          (with_reducible refine (HBB.out _).mono ?_)
          rintro e w4 ⟨rfl, hf4⟩
          have hF4 := HF3.out.then hf4
          have HF4 := Lib.hid hF4
          have hyy : ex = ey := HBY.out trivial
          subst hyy
          have hsum : acc.size + ex.size ≤ 9223372036854775807 := by omega
          clear c0 c1 c2 c3 c4 c5 c6 c7 hf4 hF4
          go_wp2_with fail
          refine ⟨⟨i + 1, by rw [HNEXT.out], by go_num, by omega, HF4.out, by rw [HALL.out, H.out.2]; rfl⟩, by simp only [intOf]; omega⟩
      · obtain rfl : i = l.length := by omega
        have hF := H.out.1
        have ha := H.out.2
        rw [List.take_length] at ha ⊢
        have he : evBatch l = (q ++ evsB l, 0) := by
          rw [evBatch, if_pos ⟨hlen.1, hlen.2, ha⟩, HQ1.out]
        have HE := Lib.hid he
        have HFF := Lib.hid hF
        clear he ha H hF
        generalize q ++ evsB l = t at HE ⊢
        go_wp2_with fail
        (try rw [Exit.noGoto_ret])
        go_ret2
        rw [HE.out]
        exact ⟨rfl, HFF.out⟩
  · have he : evBatch l = (⟨#[]⟩, 1) := if_neg (fun h => hlen ⟨h.1, h.2.1⟩)
    rw [he]
    by_cases h1 : 1 ≤ l.length
    · have hdd1 : decide ((l.length : Int) < 1) = false := decide_eq_false (by omega)
      have hdd2 : decide ((24 : Int) < (l.length : Int)) = true := decide_eq_true (by omega)
      clear hr hs he
      go_enter Try.func34, Try.ntmps34
      go_wp2_with fail
      go_ret2
      exact ⟨rfl, Fr.refl _ _⟩
    · have hdd1 : decide ((l.length : Int) < 1) = true := decide_eq_true (by omega)
      clear hr hs he
      go_enter Try.func34, Try.ntmps34
      go_wp2_with fail
      go_ret2
      exact ⟨rfl, Fr.refl _ _⟩
end Go.Proofs.Ytngonnnjehlfbaa
