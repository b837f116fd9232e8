/- A disk that was made in the call: its contracts; the chapter's example. -/
import Derived.Test.YtembnjpflllpbaaDisk6
namespace Go.Proofs.Ytembnjpflllpbaa
open Go.RowKit
set_option linter.unusedVariables false
set_option linter.unusedSimpArgs false

/-- A disk that was made since the world w0: nothing that lay in w0 has turned. -/
structure DN (w0 w : World) (b ps pn : Nat) (v : Value) (r : List Nat) (st nw : ByteArray) (wl : List (Nat × ByteArray)) (left : Int) (bad : Bool) : Prop where
  dk : DK w b ps pn v r st nw wl left bad
  fr : Fr [] w0 w
  new : ∀ k, k ∈ b :: ps :: pn :: r → w0.heap.size ≤ k
theorem DN.other {w0 w w' : World} {b ps pn : Nat} {v : Value} {r S : List Nat} {st nw : ByteArray} {wl : List (Nat × ByteArray)} {left : Int} {bad : Bool} (h : DN w0 w b ps pn v r st nw wl left bad) (hf : Fr S w w') (hd : ∀ k, k ∈ b :: ps :: pn :: r → k ∉ S) (hS : ∀ k, k ∈ S → w0.heap.size ≤ k) : DN w0 w' b ps pn v r st nw wl left bad :=
  ⟨h.dk.keep hf hd, h.fr.trans hf (fun k hk => .inr (hS k hk)), h.new⟩
theorem DN.then {w0 w w' : World} {b ps pn : Nat} {v : Value} {r : List Nat} {st nw : ByteArray} {wl : List (Nat × ByteArray)} {left : Int} {bad : Bool} (h : DN w0 w b ps pn v r st nw wl left bad) (hf : Fr [] w w') : DN w0 w' b ps pn v r st nw wl left bad := h.other hf (by simp) (by simp)

theorem NewN_calls (w0 w : World) (h : Fr [] w0 w) (m : Nat) {mi : Int} (hmi : mi = m) (h0 : 1 ≤ m) (h1 : m ≤ 131072) :
    Calls Try.prog 8 #[.int .i64 mi] w fun e w' => ∃ b ps pn, e = .returned (.pointer (some ⟨b, 0, none⟩)) ∧ DN w0 w' b ps pn (.slice none 0 0) [] (zerosB m) (zerosB m) [] 0 false := by
  refine (New_calls w m hmi h0 h1).mono ?_
  rintro e w' ⟨b, ps, pn, rfl, hD, hf, hn⟩
  exact ⟨b, ps, pn, rfl, hD, h.then hf, fun k hk => Nat.le_trans h.size (hn k hk)⟩
theorem WriteN_calls (w0 w : World) (b ps pn : Nat) (v : Value) (r : List Nat) (st nw : ByteArray) (wl : List (Nat × ByteArray)) (left : Int) (h : DN w0 w b ps pn v r st nw wl left false) (k : Nat) {ki : Int} (hki : ki = k) (s : ByteArray) (hks : k + s.size ≤ st.size) (hm : wl.length < 1000000) :
    Calls Try.prog 42 #[.pointer (some ⟨b, 0, none⟩), .int .i64 ki, .string s] w fun e w' => e = .returned (.int .i64 (if stepB left false then 18 else 0)) ∧ ∃ v' r', DN w0 w' b ps pn v' r' st (ovB nw k s) (wl ++ [(k, s)]) (stepL left) (stepB left false) := by
  refine (Write_calls w b ps pn v r st nw wl left h.dk k hki s hks hm).mono ?_
  rintro e w' ⟨rfl, v', r', hD, hf, hn⟩
  refine ⟨rfl, v', r', hD, h.fr.trans hf (fun x hx => .inr (h.new x hx)), fun x hx => ?_⟩
  simp only [List.mem_cons] at hx
  rcases hx with rfl | rfl | rfl | hx
  · exact h.new _ (by simp)
  · exact h.new _ (by simp)
  · exact h.new _ (by simp)
  · rcases hn x hx with h1 | h1
    · exact h.new _ (by simp [h1])
    · exact Nat.le_trans h.fr.size h1
/-- A write that breaks nothing. -/
theorem Write0_calls (w0 w : World) (b ps pn : Nat) (v : Value) (r : List Nat) (st nw : ByteArray) (wl : List (Nat × ByteArray)) (h : DN w0 w b ps pn v r st nw wl 0 false) (k : Nat) {ki : Int} (hki : ki = k) (s : ByteArray) (hks : k + s.size ≤ st.size) (hm : wl.length < 1000000) :
    Calls Try.prog 42 #[.pointer (some ⟨b, 0, none⟩), .int .i64 ki, .string s] w fun e w' => e = .returned (.int .i64 0) ∧ ∃ v' r', DN w0 w' b ps pn v' r' st (ovB nw k s) (wl ++ [(k, s)]) 0 false :=
  WriteN_calls w0 w b ps pn v r st nw wl 0 h k hki s hks hm
theorem CrashN_calls (w0 w : World) (b ps pn : Nat) (v : Value) (r : List Nat) (st nw : ByteArray) (wl : List (Nat × ByteArray)) (left : Int) (bad : Bool) (h : DN w0 w b ps pn v r st nw wl left bad) (keep : Int) (hk0 : -9223372036854775808 ≤ keep) (hk1 : keep ≤ 9223372036854775807) {S : ByteArray} {n : Nat} (hS : crashS wl keep st 0 = (S, n)) :
    Calls Try.prog 21 #[.pointer (some ⟨b, 0, none⟩), .int .i64 keep] w fun e w' => e = .returned (.int .i64 n) ∧ ∃ v', DN w0 w' b ps pn v' r S S [] 0 false := by
  refine (Crash_calls w b ps pn v r st nw wl left bad h.dk keep hk0 hk1).mono ?_
  rintro e w' ⟨rfl, v', hD, hf⟩
  rw [hS] at hD ⊢
  exact ⟨rfl, v', hD, h.fr.trans hf (fun x hx => .inr (h.new x hx)), h.new⟩
theorem SyncN_calls (w0 w : World) (b ps pn : Nat) (v : Value) (r : List Nat) (st nw : ByteArray) (wl : List (Nat × ByteArray)) (h : DN w0 w b ps pn v r st nw wl 0 false) :
    Calls Try.prog 44 #[.pointer (some ⟨b, 0, none⟩)] w fun e w' => e = .returned (.int .i64 0) ∧ ∃ v', DN w0 w' b ps pn v' r nw nw [] 0 false := by
  refine (Sync_calls w b ps pn v r st nw wl 0 h.dk (by decide)).mono ?_
  rintro e w' ⟨rfl, v', hD, hf⟩
  exact ⟨rfl, v', hD, h.fr.trans hf (fun x hx => .inr (h.new x (by simp only [List.mem_cons] at hx ⊢; rcases hx with h | h | h <;> simp [h]))), h.new⟩
theorem BreakN_calls (w0 w : World) (b ps pn : Nat) (v : Value) (r : List Nat) (st nw : ByteArray) (wl : List (Nat × ByteArray)) (left : Int) (h : DN w0 w b ps pn v r st nw wl left false) (n : Int) (h0 : 1 ≤ n) (h1 : n ≤ 9223372036854775807) :
    Calls Try.prog 20 #[.pointer (some ⟨b, 0, none⟩), .int .i64 n] w fun e w' => e = .returned (.tuple #[]) ∧ DN w0 w' b ps pn v r st nw wl n false := by
  refine (Break_calls w b ps pn v r st nw wl left h.dk n h0 h1).mono ?_
  rintro e w' ⟨rfl, hD, hf⟩
  exact ⟨rfl, hD, h.fr.trans hf (fun x hx => .inr (h.new x (by simp at hx; simp [hx]))), h.new⟩

theorem crash_example : crashS ([] ++ [(0, ⟨#[97, 98, 99]⟩)]) 2 (zerosB 3) 0 = (⟨#[97, 98, 0]⟩, 1) := by decide +kernel
theorem read_example : (⟨#[97, 98, 0]⟩ : ByteArray).extract 0 (0 + 3) = ⟨#[97, 98, 0]⟩ := by decide +kernel

end Go.Proofs.Ytembnjpflllpbaa
