/- The law EventOnce: for any bytes the Go function returns true (its walk). -/
import Derived.Test.YtngonnnjehlfbaaEvPure
import Derived.Test.YtngonnnjehlfbaaShort15
namespace Go.Proofs.Ytngonnnjehlfbaa
open Go.RowKit
set_option linter.unusedVariables false
set_option linter.unusedSimpArgs false

theorem ok_short {l : List Ev} (h : ∀ e, e ∈ l → e.ok = true) : ∀ e, e ∈ l → e.short 140737488351232 := by
  intro e he
  obtain ⟨_, h1, h2, h3⟩ := Ev.ok_iff (h e he)
  exact ⟨by omega, by omega, by omega⟩
set_option maxHeartbeats 4000000 in
set_option maxRecDepth 100000 in
theorem EventOnce_walk (w : World) (s0 : ByteArray) (hs0 : s0.size ≤ 140737488351232) :
    Calls Try.prog 14 #[.string s0] w fun e w' => e = .returned (.bool true) ∧ Fr [] w w' := by
  have h120 := shortB_size s0 120
  have hsh := fun W => short15_calls s0 120 120 rfl W (by omega) (by decide)
  generalize shortB s0 120 = s at *
  have hrd := fun W => ERead_calls W s (by omega)
  have HSH := Lib.hid hsh
  have HRD := Lib.hid hrd
  clear hsh hrd hs0
  go_enter Try.func14, Try.ntmps14
  go_wp2_with fail
  (with_reducible refine (awake15_calls _).mono ?_)
  rintro e w1 ⟨rfl, hf1⟩
  go_wp2_with fail
  (with_reducible refine (HSH.out _).mono ?_)
  rintro e w2 ⟨rfl, rfl⟩
  go_wp2_with fail
  (with_reducible refine (HRD.out _).mono ?_)
  rintro e w3 ⟨v, r, rfl, hsr, hf3, hn3⟩
  have hF3 := hf1.then hf3
  rcases evRead_back s with he | ⟨l, he, hb, hl1, hl24, hok⟩
  · rw [he] at hsr ⊢
    simp only at hsr ⊢
    obtain ⟨A1, c1, rfl, -, -, -, -⟩ := hsr.reads
    clear he hsr HSH HRD hf1 hf3 hn3
    go_wp2_with fail
    go_ret
    exact ⟨rfl, hF3⟩
  · rw [he] at hsr ⊢
    simp only at hsr ⊢
    obtain ⟨A1, c1, rfl, -, -, hrd, -⟩ := hsr.reads
    have her := EvR.of_flat hrd
    have hbt := fun W h => Batch_calls W A1 c1 l h (ok_short hok) (by simp only [maxLen]; omega)
    rw [hb] at hbt
    have HBT := Lib.hid hbt
    have hd : decide ((1 : Int) ≤ (l.length : Int)) = true := decide_eq_true (by omega)
    clear he hsr HSH HRD hf1 hf3 hn3 hbt hb hok hrd
    go_wp2_with fail
    (with_reducible refine (HBT.out _ her).mono ?_)
    rintro e w4 ⟨rfl, hf4⟩
    have hF4 := hF3.then hf4
    clear her hf4
    go_wp2_with fail
    go_ret
    exact ⟨rfl, hF4⟩
end Go.Proofs.Ytngonnnjehlfbaa
