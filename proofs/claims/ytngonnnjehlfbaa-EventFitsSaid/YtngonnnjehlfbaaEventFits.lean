/- The law EventFits: for any events the Go function returns true (its walk). -/
import Derived.Test.YtngonnnjehlfbaaEvBatch
import Derived.Test.YtngonnnjehlfbaaEvRight
namespace Go.Proofs.Ytngonnnjehlfbaa
open Go.RowKit
set_option linter.unusedVariables false
set_option linter.unusedSimpArgs false

theorem evRight_short (e : Ev) : (evRight e).short 100 := ⟨shortB_size _ _, shortB_size _ _, shortB_size _ _⟩
theorem evsB_take {l : List Ev} {k : Nat} {x : Ev} (hx : l[k]? = some x) : evsB (l.take (k + 1)) = evsB (l.take k) ++ evB x := by
  rw [List.take_add_one, hx, evsB_append]
  simp [evsB, app_nil]

set_option maxHeartbeats 4000000 in
set_option maxRecDepth 100000 in
theorem EventFits_core (w : World) (A : Option Addr) (cap : Nat) (l : List Ev) (hr : EvR w A l) (hb : ∀ e, e ∈ l → e.bd) (hl : l.length ≤ maxLen) :
    Calls Try.prog 7 #[.slice A l.length cap] w fun e w' => e = .returned (.bool true) ∧ Fr [] w w' := by
  go_enter Try.func7, Try.ntmps7
  go_wp2_with fail
  (with_reducible refine (awake15_calls _).mono ?_)
  rintro e w1 ⟨rfl, hf1⟩
  go_wp2_with fail
  (with_reducible refine (right_calls _ A cap l (hr.keep hf1 (by simp)) hb hl).mono ?_)
  rintro e w2 ⟨v, r, rfl, hsr, hf2, hnew⟩
  have hok := evRights_ok l
  have hsh : ∀ e, e ∈ evRights l → e.short 140737488351232 := by
    intro e he
    obtain ⟨x, _, rfl⟩ := List.mem_map.1 he
    obtain ⟨h1, h2, h3⟩ := evRight_short x
    exact ⟨by omega, by omega, by omega⟩
  have h24 := evRights_length l
  generalize evRights l = m at *
  obtain ⟨A1, c1, rfl, hc1, hc2, hrd, hA1⟩ := hsr.reads
  have her := EvR.of_flat hrd
  have hF2 := hf1.then hf2
  clear hsr hrd hA1 hnew hf1 hf2 hc1 hc2 hr hb hl
  go_wp2_with fail
  (with_reducible refine (Batch_calls _ A1 c1 m her hsh (by simp only [maxLen]; omega)).mono ?_)
  rintro e w3 ⟨rfl, hf3⟩
  have her := her.keep hf3 (by simp)
  have hF3 := hF2.then hf3
  have HER := Lib.hid her
  have HF3 := Lib.hid hF3
  have hsz := evsB_size m hok
  have hall : m.all Ev.ok = true := List.all_eq_true.2 hok
  have HSZ := Lib.hid hsz
  have HOK := Lib.hid hok
  have HSH := Lib.hid hsh
  clear her hF2 hf3 hF3 hsz hok hsh
  by_cases h0 : m.length = 0
  · have he : evBatch m = (⟨#[]⟩, 1) := if_neg (fun h => by omega)
    rw [he]
    have hz : ((m.length : Int) == 0) = true := beq_iff_eq.2 (by omega)
    clear he hall
    go_wp2_with fail
    go_ret
    exact ⟨rfl, HF3.out⟩
  · have he : evBatch m = (numB m.length ++ evsB m, 0) := if_pos ⟨by omega, h24, hall⟩
    have hq1 : (numB m.length).size = 1 := by rw [numB_small (by omega)]; rfl
    rw [he]
    have hts : (numB m.length ++ evsB m).size = 1 + (evsB m).size := by rw [ByteArray.size_append, hq1]
    have HTS := Lib.hid hts
    clear he hall hq1 hts
    generalize numB m.length ++ evsB m = t at *
    have hz : ((m.length : Int) == 0) = false := beq_eq_false_iff_ne.2 (by omega)
    go_wp2_with fail
    go_loopw [7, 8] (fun v7 v8 wr => ∃ (k : Nat), v7 = .int .i64 (1 + (evsB (m.take k)).size : Nat) ∧ v8 = .int .i64 k ∧ k ≤ m.length ∧ Hid (Fr [] w3 wr)) (fun _ v8 _ => m.length - (intOf v8).toNat)
    case atStart => exact ⟨0, by rw [List.take_zero]; rfl, rfl, Nat.zero_le _, Fr.refl _ _⟩
    case round =>
      obtain ⟨i, rfl, rfl, hk, H⟩ := hrel
      by_cases hlk : i < m.length
      · obtain ⟨x, hx⟩ : ∃ x, m[i]? = some x := ⟨_, List.getElem?_eq_getElem hlk⟩
        have hxs := HSH.out x (List.mem_of_getElem? hx)
        have hxo := HOK.out x (List.mem_of_getElem? hx)
        obtain ⟨ad, rfl, h0⟩ := HER.out i x hx
        obtain ⟨c0, c1, c2, c3, c4, c5, c6, c7⟩ := h0.keep H.out (by simp)
        have hnext := congrArg ByteArray.size (evsB_take hx)
        rw [ByteArray.size_append] at hnext
        have hmono : (evsB (m.take i)).size ≤ 9120 := by
          have := evsB_size (m.take i) (fun e he => HOK.out e (List.mem_of_mem_take he))
          have h2 : (m.take i).length ≤ 24 := by rw [List.length_take]; omega
          omega
        have hxB := evB_size hxo
        have hby : evBytes x = evB x := if_pos hxo
        obtain ⟨xk, xac, xpu, xat, xn, xa, xb, xc⟩ := x
        have hcall := fun W => EBytes_calls W xk xac xpu xat xn xa xb xc hxs
        rw [hby] at hcall
        generalize evB ⟨xk, xac, xpu, xat, xn, xa, xb, xc⟩ = eb at *
        have HN := Lib.hid hnext
        have HC := Lib.hid hcall
        simp only at c0 c1 c2 c3 c4 c5 c6 c7
        clear hnext hcall hxo hxs hx h0 hby
        generalize (evsB (m.take i)).size = z at *
        go_wp2_with fail
        (with_reducible refine (HC.out _).mono ?_)
        rintro e w5 ⟨rfl, hf5⟩
        have hH := H.out.then hf5
        have HH := Lib.hid hH
        clear c0 c1 c2 c3 c4 c5 c6 c7 hf5 hH
        go_wp2_with fail
        refine ⟨⟨i + 1, by rw [HN.out]; go_num, by go_num, by omega, HH.out⟩, by simp only [intOf]; omega⟩
      · obtain rfl : i = m.length := by omega
        have hts := HTS.out
        have hsz := HSZ.out
        rw [List.take_length]
        generalize (evsB m).size = z at *
        have hd1 : ((t.size : Nat) : Int) = 1 + (z : Int) := by omega
        have hd2 : decide (1 + (z : Int) ≤ 32768) = true := decide_eq_true (by omega)
        go_wp2_with fail
        go_ret
        exact ⟨rfl, HF3.out.then H.out⟩
theorem EventFits_walk (w : World) (A : Option Addr) (cap : Nat) (l : List (List Value)) (hr : RdR w A 8 l) (hrow : ∀ row, row ∈ l → FRow [.int .i64, .int .i64, .int .i64, .int .i64, .int .i64, .str, .str, .str] row) (hl : l.length ≤ maxLen) :
    Calls Try.prog 7 #[.slice A l.length cap] w fun e w' => e = .returned (.bool true) ∧ Fr [] w w' := by
  obtain ⟨es, rfl, hlen, hbd⟩ := Ev.of_rows l hrow
  rw [List.length_map] at hl ⊢
  exact EventFits_core w A cap es (EvR.of_rdr hr) hbd hl
end Go.Proofs.Ytngonnnjehlfbaa
