/- The law WireOnce: for any bytes the Go function returns true (its walk). -/
import Derived.Test.YtbeoegppldjpoaaWireRead2
import Derived.Test.YtbeoegppldjpoaaWireAwake
import Derived.Test.YtbeoegppldjpoaaShort19
namespace Go.Proofs.Ytbeoegppldjpoaa
open Go.RowKit
set_option linter.unusedVariables false
set_option linter.unusedSimpArgs false

set_option maxHeartbeats 4000000 in
set_option maxRecDepth 100000 in
theorem WireOnce_walk (w : World) (s0 : ByteArray) (hs0 : s0.size ≤ 140737488351232) :
    Calls Try.prog 6 #[.string s0] w fun e w' => e = .returned (.bool true) ∧ Fr [] w w' := by
  have h120 := shortB_size s0 120
  have hsh := fun W => short19_calls s0 120 120 rfl W (by omega) (by decide)
  generalize shortB s0 120 = s at *
  have hrd := fun W => WRead_calls W s (by omega)
  have hrr := fun W => WReadReply_calls W s (by omega)
  rcases wireR_cases s with he | ⟨⟨k, pu, so, ma, ot, se, pa⟩, he, hok, hb⟩
  · rcases replyR_cases s with hg | ⟨c, t, hg, hc, ht, hbr⟩
    · skip
      rw [he] at hrd
      rw [hg] at hrr
      simp only [rqNo, Rq.val] at hrd
      have HSH := Lib.hid hsh
      have HRD := Lib.hid hrd
      have HRR := Lib.hid hrr
      clear hsh hrd hrr he hg hs0
      go_enter Try.func6, Try.ntmps6
      go_wp2_with fail
      (with_reducible refine (awake19_calls _).mono ?_)
      rintro e w1 ⟨rfl, hf1⟩
      go_wp2_with fail
      (with_reducible refine (HSH.out _).mono ?_)
      rintro e w2 ⟨rfl, rfl⟩
      go_wp2_with fail
      (with_reducible refine (HRD.out _).mono ?_)
      rintro e w3 ⟨rfl, hf3⟩
      have hF3 := hf1.then hf3
      clear hf1 hf3 HSH HRD
      go_wp2_with fail
      have hR3 := heap_alloc_new w3 (.cells #[.int .i64 0, .int .i64 0, .string ⟨#[]⟩, .string ⟨#[]⟩, .string ⟨#[]⟩, .string ⟨#[]⟩, .string ⟨#[]⟩] 23)
      have hF4 := hF3.alloc (.cells #[.int .i64 0, .int .i64 0, .string ⟨#[]⟩, .string ⟨#[]⟩, .string ⟨#[]⟩, .string ⟨#[]⟩, .string ⟨#[]⟩] 23)
      generalize w3.alloc (.cells #[.int .i64 0, .int .i64 0, .string ⟨#[]⟩, .string ⟨#[]⟩, .string ⟨#[]⟩, .string ⟨#[]⟩, .string ⟨#[]⟩] 23) = W3 at *
      generalize w3.heap.size = R at *
      (with_reducible refine (HRR.out _).mono ?_)
      rintro e w4 ⟨rfl, hf4⟩
      have hR4 := blk_keep hR3 hf4 (by simp)
      have hF5 := hF4.then hf4
      clear hR3 hF3 hF4 hf4 HRR
      have e0 := fun o o' o'' => (rq_cells (alloc_keep (o := o'') (alloc_keep (o := o') (alloc_keep (o := o) hR4)))).1
      have e1 := fun o o' o'' => (rq_cells (alloc_keep (o := o'') (alloc_keep (o := o') (alloc_keep (o := o) hR4)))).2.1
      have e2 := fun o o' o'' => (rq_cells (alloc_keep (o := o'') (alloc_keep (o := o') (alloc_keep (o := o) hR4)))).2.2.1
      have e3 := fun o o' o'' => (rq_cells (alloc_keep (o := o'') (alloc_keep (o := o') (alloc_keep (o := o) hR4)))).2.2.2.1
      have e4 := fun o o' o'' => (rq_cells (alloc_keep (o := o'') (alloc_keep (o := o') (alloc_keep (o := o) hR4)))).2.2.2.2.1
      have e5 := fun o o' o'' => (rq_cells (alloc_keep (o := o'') (alloc_keep (o := o') (alloc_keep (o := o) hR4)))).2.2.2.2.2.1
      have e6 := fun o o' o'' => (rq_cells (alloc_keep (o := o'') (alloc_keep (o := o') (alloc_keep (o := o) hR4)))).2.2.2.2.2.2
      go_wp2_with fail
      go_ret
      exact ⟨rfl, ((hF5.alloc _).alloc _).alloc _⟩
    · skip
      rw [he] at hrd
      rw [hg] at hrr
      simp only [rqNo, Rq.val] at hrd
      have HSH := Lib.hid hsh
      have HRD := Lib.hid hrd
      have HRR := Lib.hid hrr
      have hrp := fun W => WReply_calls W c t (by omega)
      rw [hbr] at hrp
      have HRP := Lib.hid hrp
      clear hbr hc ht hrp
      clear hsh hrd hrr he hg hs0
      go_enter Try.func6, Try.ntmps6
      go_wp2_with fail
      (with_reducible refine (awake19_calls _).mono ?_)
      rintro e w1 ⟨rfl, hf1⟩
      go_wp2_with fail
      (with_reducible refine (HSH.out _).mono ?_)
      rintro e w2 ⟨rfl, rfl⟩
      go_wp2_with fail
      (with_reducible refine (HRD.out _).mono ?_)
      rintro e w3 ⟨rfl, hf3⟩
      have hF3 := hf1.then hf3
      clear hf1 hf3 HSH HRD
      go_wp2_with fail
      have hR3 := heap_alloc_new w3 (.cells #[.int .i64 0, .int .i64 0, .string ⟨#[]⟩, .string ⟨#[]⟩, .string ⟨#[]⟩, .string ⟨#[]⟩, .string ⟨#[]⟩] 23)
      have hF4 := hF3.alloc (.cells #[.int .i64 0, .int .i64 0, .string ⟨#[]⟩, .string ⟨#[]⟩, .string ⟨#[]⟩, .string ⟨#[]⟩, .string ⟨#[]⟩] 23)
      generalize w3.alloc (.cells #[.int .i64 0, .int .i64 0, .string ⟨#[]⟩, .string ⟨#[]⟩, .string ⟨#[]⟩, .string ⟨#[]⟩, .string ⟨#[]⟩] 23) = W3 at *
      generalize w3.heap.size = R at *
      (with_reducible refine (HRR.out _).mono ?_)
      rintro e w4 ⟨rfl, hf4⟩
      have hR4 := blk_keep hR3 hf4 (by simp)
      have hF5 := hF4.then hf4
      clear hR3 hF3 hF4 hf4 HRR
      have e0 := fun o o' o'' => (rq_cells (alloc_keep (o := o'') (alloc_keep (o := o') (alloc_keep (o := o) hR4)))).1
      have e1 := fun o o' o'' => (rq_cells (alloc_keep (o := o'') (alloc_keep (o := o') (alloc_keep (o := o) hR4)))).2.1
      have e2 := fun o o' o'' => (rq_cells (alloc_keep (o := o'') (alloc_keep (o := o') (alloc_keep (o := o) hR4)))).2.2.1
      have e3 := fun o o' o'' => (rq_cells (alloc_keep (o := o'') (alloc_keep (o := o') (alloc_keep (o := o) hR4)))).2.2.2.1
      have e4 := fun o o' o'' => (rq_cells (alloc_keep (o := o'') (alloc_keep (o := o') (alloc_keep (o := o) hR4)))).2.2.2.2.1
      have e5 := fun o o' o'' => (rq_cells (alloc_keep (o := o'') (alloc_keep (o := o') (alloc_keep (o := o) hR4)))).2.2.2.2.2.1
      have e6 := fun o o' o'' => (rq_cells (alloc_keep (o := o'') (alloc_keep (o := o') (alloc_keep (o := o) hR4)))).2.2.2.2.2.2
      go_wp2_with fail
      clear e0 e1 e2 e3 e4 e5 e6
      have hR5 := alloc_keep (o := .cells #[.int .i64 c, .string t] 26) hR4
      have hF6 := hF5.alloc (.cells #[.int .i64 c, .string t] 26)
      generalize w4.alloc (.cells #[.int .i64 c, .string t] 26) = W5 at *
      clear hR4 hF5
      (with_reducible refine (HRP.out _).mono ?_)
      rintro e w6 ⟨rfl, hf6⟩
      have hR6 := blk_keep hR5 hf6 (by simp)
      have hF7 := hF6.then hf6
      have e0 := fun o o' => (rq_cells (alloc_keep (o := o') (alloc_keep (o := o) hR6))).1
      have e1 := fun o o' => (rq_cells (alloc_keep (o := o') (alloc_keep (o := o) hR6))).2.1
      have e2 := fun o o' => (rq_cells (alloc_keep (o := o') (alloc_keep (o := o) hR6))).2.2.1
      have e3 := fun o o' => (rq_cells (alloc_keep (o := o') (alloc_keep (o := o) hR6))).2.2.2.1
      have e4 := fun o o' => (rq_cells (alloc_keep (o := o') (alloc_keep (o := o) hR6))).2.2.2.2.1
      have e5 := fun o o' => (rq_cells (alloc_keep (o := o') (alloc_keep (o := o) hR6))).2.2.2.2.2.1
      have e6 := fun o o' => (rq_cells (alloc_keep (o := o') (alloc_keep (o := o) hR6))).2.2.2.2.2.2
      go_wp2_with fail
      go_ret
      exact ⟨rfl, (hF7.alloc _).alloc _⟩
  · rcases replyR_cases s with hg | ⟨c, t, hg, hc, ht, hbr⟩
    · skip
      rw [he] at hrd
      rw [hg] at hrr
      simp only [Rq.val] at hrd
      have HSH := Lib.hid hsh
      have HRD := Lib.hid hrd
      have HRR := Lib.hid hrr
      have hsz : (Rq.mk k pu so ma ot se pa).short 140737488351232 := by
        have := Rq.ok_iff hok
        simp only at this
        exact ⟨by show so.size ≤ _; omega, by show ma.size ≤ _; omega, by show ot.size ≤ _; omega, by show se.size ≤ _; omega, by show pa.size ≤ _; omega⟩
      have hck := fun W => Check_calls W k pu so ma ot se pa hsz
      have hby := fun W => WBytes_calls W k pu so ma ot se pa hsz
      rw [hok] at hck
      rw [wireB, if_pos hok, hb] at hby
      have HCK := Lib.hid hck
      have HBY := Lib.hid hby
      clear hok hb hck hby hsz
      clear hsh hrd hrr he hg hs0
      go_enter Try.func6, Try.ntmps6
      go_wp2_with fail
      (with_reducible refine (awake19_calls _).mono ?_)
      rintro e w1 ⟨rfl, hf1⟩
      go_wp2_with fail
      (with_reducible refine (HSH.out _).mono ?_)
      rintro e w2 ⟨rfl, rfl⟩
      go_wp2_with fail
      (with_reducible refine (HRD.out _).mono ?_)
      rintro e w3 ⟨rfl, hf3⟩
      have hF3 := hf1.then hf3
      clear hf1 hf3 HSH HRD
      go_wp2_with fail
      have hR3 := heap_alloc_new w3 (.cells #[.int .i64 k, .int .i64 pu, .string so, .string ma, .string ot, .string se, .string pa] 23)
      have hF4 := hF3.alloc (.cells #[.int .i64 k, .int .i64 pu, .string so, .string ma, .string ot, .string se, .string pa] 23)
      generalize w3.alloc (.cells #[.int .i64 k, .int .i64 pu, .string so, .string ma, .string ot, .string se, .string pa] 23) = W3 at *
      generalize w3.heap.size = R at *
      (with_reducible refine (HRR.out _).mono ?_)
      rintro e w4 ⟨rfl, hf4⟩
      have hR4 := blk_keep hR3 hf4 (by simp)
      have hF5 := hF4.then hf4
      clear hR3 hF3 hF4 hf4 HRR
      have d0 := fun o => (rq_cells (alloc_keep (o := o) hR4)).1
      have d1 := fun o => (rq_cells (alloc_keep (o := o) hR4)).2.1
      have d2 := fun o => (rq_cells (alloc_keep (o := o) hR4)).2.2.1
      have d3 := fun o => (rq_cells (alloc_keep (o := o) hR4)).2.2.2.1
      have d4 := fun o => (rq_cells (alloc_keep (o := o) hR4)).2.2.2.2.1
      have d5 := fun o => (rq_cells (alloc_keep (o := o) hR4)).2.2.2.2.2.1
      have d6 := fun o => (rq_cells (alloc_keep (o := o) hR4)).2.2.2.2.2.2
      go_wp2_with fail
      clear d0 d1 d2 d3 d4 d5 d6
      have hP5 := heap_alloc_new w4 (.cells #[.int .i64 0, .string ⟨#[]⟩] 26)
      have hR5 := alloc_keep (o := .cells #[.int .i64 0, .string ⟨#[]⟩] 26) hR4
      have hF6 := hF5.alloc (.cells #[.int .i64 0, .string ⟨#[]⟩] 26)
      generalize w4.alloc (.cells #[.int .i64 0, .string ⟨#[]⟩] 26) = W5 at *
      generalize w4.heap.size = P at *
      clear hR4 hF5
      (with_reducible refine (HCK.out _).mono ?_)
      rintro e w6 ⟨rfl, hf6⟩
      have hP6 := blk_keep hP5 hf6 (by simp)
      have hR6 := blk_keep hR5 hf6 (by simp)
      have hF7 := hF6.then hf6
      clear hP5 hR5 hF6 hf6 HCK
      obtain ⟨d0, d1, d2, d3, d4, d5, d6⟩ := rq_cells hR6
      go_wp2_with fail
      clear d0 d1 d2 d3 d4 d5 d6
      (with_reducible refine (HBY.out _).mono ?_)
      rintro e w7 ⟨rfl, hf7⟩
      have hP7 := blk_keep hP6 hf7 (by simp)
      have hF8 := hF7.then hf7
      clear hP6 hR6 hF7 hf7 HBY
      obtain ⟨p0, p1⟩ := rp_cells hP7
      have q0 := fun o o' => (rp_cells (alloc_keep (o := o') (alloc_keep (o := o) hP7))).1
      have q1 := fun o o' => (rp_cells (alloc_keep (o := o') (alloc_keep (o := o) hP7))).2
      go_wp2_with fail
      go_ret
      exact ⟨rfl, (hF8.alloc _).alloc _⟩
    · skip
      rw [he] at hrd
      rw [hg] at hrr
      simp only [Rq.val] at hrd
      have HSH := Lib.hid hsh
      have HRD := Lib.hid hrd
      have HRR := Lib.hid hrr
      have hsz : (Rq.mk k pu so ma ot se pa).short 140737488351232 := by
        have := Rq.ok_iff hok
        simp only at this
        exact ⟨by show so.size ≤ _; omega, by show ma.size ≤ _; omega, by show ot.size ≤ _; omega, by show se.size ≤ _; omega, by show pa.size ≤ _; omega⟩
      have hck := fun W => Check_calls W k pu so ma ot se pa hsz
      have hby := fun W => WBytes_calls W k pu so ma ot se pa hsz
      rw [hok] at hck
      rw [wireB, if_pos hok, hb] at hby
      have HCK := Lib.hid hck
      have HBY := Lib.hid hby
      clear hok hb hck hby hsz
      have hrp := fun W => WReply_calls W c t (by omega)
      rw [hbr] at hrp
      have HRP := Lib.hid hrp
      clear hbr hc ht hrp
      clear hsh hrd hrr he hg hs0
      go_enter Try.func6, Try.ntmps6
      go_wp2_with fail
      (with_reducible refine (awake19_calls _).mono ?_)
      rintro e w1 ⟨rfl, hf1⟩
      go_wp2_with fail
      (with_reducible refine (HSH.out _).mono ?_)
      rintro e w2 ⟨rfl, rfl⟩
      go_wp2_with fail
      (with_reducible refine (HRD.out _).mono ?_)
      rintro e w3 ⟨rfl, hf3⟩
      have hF3 := hf1.then hf3
      clear hf1 hf3 HSH HRD
      go_wp2_with fail
      have hR3 := heap_alloc_new w3 (.cells #[.int .i64 k, .int .i64 pu, .string so, .string ma, .string ot, .string se, .string pa] 23)
      have hF4 := hF3.alloc (.cells #[.int .i64 k, .int .i64 pu, .string so, .string ma, .string ot, .string se, .string pa] 23)
      generalize w3.alloc (.cells #[.int .i64 k, .int .i64 pu, .string so, .string ma, .string ot, .string se, .string pa] 23) = W3 at *
      generalize w3.heap.size = R at *
      (with_reducible refine (HRR.out _).mono ?_)
      rintro e w4 ⟨rfl, hf4⟩
      have hR4 := blk_keep hR3 hf4 (by simp)
      have hF5 := hF4.then hf4
      clear hR3 hF3 hF4 hf4 HRR
      have d0 := fun o => (rq_cells (alloc_keep (o := o) hR4)).1
      have d1 := fun o => (rq_cells (alloc_keep (o := o) hR4)).2.1
      have d2 := fun o => (rq_cells (alloc_keep (o := o) hR4)).2.2.1
      have d3 := fun o => (rq_cells (alloc_keep (o := o) hR4)).2.2.2.1
      have d4 := fun o => (rq_cells (alloc_keep (o := o) hR4)).2.2.2.2.1
      have d5 := fun o => (rq_cells (alloc_keep (o := o) hR4)).2.2.2.2.2.1
      have d6 := fun o => (rq_cells (alloc_keep (o := o) hR4)).2.2.2.2.2.2
      go_wp2_with fail
      clear d0 d1 d2 d3 d4 d5 d6
      have hP5 := heap_alloc_new w4 (.cells #[.int .i64 c, .string t] 26)
      have hR5 := alloc_keep (o := .cells #[.int .i64 c, .string t] 26) hR4
      have hF6 := hF5.alloc (.cells #[.int .i64 c, .string t] 26)
      generalize w4.alloc (.cells #[.int .i64 c, .string t] 26) = W5 at *
      generalize w4.heap.size = P at *
      clear hR4 hF5
      (with_reducible refine (HCK.out _).mono ?_)
      rintro e w6 ⟨rfl, hf6⟩
      have hP6 := blk_keep hP5 hf6 (by simp)
      have hR6 := blk_keep hR5 hf6 (by simp)
      have hF7 := hF6.then hf6
      clear hP5 hR5 hF6 hf6 HCK
      obtain ⟨d0, d1, d2, d3, d4, d5, d6⟩ := rq_cells hR6
      go_wp2_with fail
      clear d0 d1 d2 d3 d4 d5 d6
      (with_reducible refine (HBY.out _).mono ?_)
      rintro e w7 ⟨rfl, hf7⟩
      have hP7 := blk_keep hP6 hf7 (by simp)
      have hF8 := hF7.then hf7
      clear hP6 hR6 hF7 hf7 HBY
      obtain ⟨p0, p1⟩ := rp_cells hP7
      have q0 := fun o o' => (rp_cells (alloc_keep (o := o') (alloc_keep (o := o) hP7))).1
      have q1 := fun o o' => (rp_cells (alloc_keep (o := o') (alloc_keep (o := o) hP7))).2
      go_wp2_with fail
      clear p0 p1 q0 q1
      (with_reducible refine (HRP.out _).mono ?_)
      rintro e w8 ⟨rfl, hf8⟩
      have hF9 := hF8.then hf8
      go_wp2_with fail
      go_ret
      exact ⟨rfl, (hF9.alloc _).alloc _⟩

end Go.Proofs.Ytbeoegppldjpoaa
