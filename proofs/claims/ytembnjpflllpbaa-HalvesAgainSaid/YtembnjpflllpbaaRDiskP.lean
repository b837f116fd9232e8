/- What the document's disk does, byte by byte (plain Lean). -/
import Derived.Test.YtembnjpflllpbaaDiskPure
namespace Go.Proofs.Ytembnjpflllpbaa
open Go.RowKit
set_option linter.unusedVariables false
set_option linter.unusedSimpArgs false

theorem cut_size (s : ByteArray) (a b : Nat) (h : a ≤ b) (hb : b ≤ s.size) : (s.extract a b).size = b - a := by
  rw [ByteArray.size_extract]; omega
/-- One byte more is put. -/
theorem ovB_step (t : ByteArray) (at' : Nat) (s : ByteArray) (k : Nat) (h : at' + s.size ≤ t.size) (hk : k < s.size) :
    ovB (ovB t at' (s.extract 0 k)) (at' + k) (s.extract k (k + 1)) = ovB t at' (s.extract 0 (k + 1)) := by
  have z1 := cut_size s 0 k (by omega) (by omega)
  have z2 := cut_size s k (k + 1) (by omega) (by omega)
  have z3 := cut_size s 0 (k + 1) (by omega) (by omega)
  have s1 := ovB_size (t := t) (off := at') (s := s.extract 0 k) (by omega)
  have s2 := ovB_size (t := ovB t at' (s.extract 0 k)) (off := at' + k) (s := s.extract k (k + 1)) (by omega)
  have s3 := ovB_size (t := t) (off := at') (s := s.extract 0 (k + 1)) (by omega)
  apply gB_ext (by omega)
  intro i hi
  rw [gB_ov (by omega), gB_ov (by omega), gB_ov (by omega), z1, z2, z3, gB_cut, gB_cut, gB_cut]
  by_cases h1 : i = at' + k
  · subst h1
    rw [if_pos (by omega), if_pos (by omega), if_pos (by omega), if_pos (by omega)]
    congr 1
    omega
  · rw [if_neg (by omega)]
    by_cases h2 : at' ≤ i ∧ i < at' + k
    · rw [if_pos (by omega), if_pos (by omega), if_pos (by omega), if_pos (by omega)]
    · rw [if_neg (by omega), if_neg (by omega)]
theorem ovB_nil (t : ByteArray) (at' : Nat) (s : ByteArray) : ovB t at' (s.extract 0 0) = t := ovB_none (by rw [ByteArray.size_extract]; omega)
/-- The bytes behind all writes. -/
def brkL (n : Int) : Int := if n < 0 then 0 else n
def nowB (st : ByteArray) (wl : List (Nat × ByteArray)) : ByteArray := wl.foldl (fun b x => ovB b x.1 x.2) st
theorem nowB_snoc (st : ByteArray) (wl : List (Nat × ByteArray)) (x : Nat × ByteArray) : nowB st (wl ++ [x]) = ovB (nowB st wl) x.1 x.2 := by
  simp [nowB, List.foldl_append]
theorem nowB_size (st : ByteArray) : ∀ (wl : List (Nat × ByteArray)), (∀ x, x ∈ wl → x.1 + x.2.size ≤ st.size) → (nowB st wl).size = st.size := by
  intro wl
  induction wl generalizing st with
  | nil => intro _; rfl
  | cons x wl ih =>
    intro h
    have hx := h x (by simp)
    have hz := ovB_size (t := st) (off := x.1) (s := x.2) hx
    show (nowB (ovB st x.1 x.2) wl).size = _
    rw [ih (ovB st x.1 x.2) (fun y hy => by rw [hz]; exact h y (by simp [hy])), hz]
/-- Where the crash stands within a write: k bytes of s were looked at. -/
def inS (at' : Nat) (s : ByteArray) (keep : Int) (st : ByteArray) (lost k : Nat) : ByteArray × Int × Nat :=
  (ovB st at' (s.extract 0 (min k keep.toNat)), keep - (min k keep.toNat : Nat), lost + (k - min k keep.toNat))
theorem inS_zero (at' : Nat) (s : ByteArray) (keep : Int) (st : ByteArray) (lost : Nat) : inS at' s keep st lost 0 = (st, keep, lost) := by
  unfold inS
  rw [Nat.zero_min, ovB_nil]
  simp
theorem inS_keep (at' : Nat) (s : ByteArray) (keep : Int) (st : ByteArray) (lost k : Nat) (hf : at' + s.size ≤ st.size) (hk : k < s.size) (h : 0 < (inS at' s keep st lost k).2.1) :
    inS at' s keep st lost (k + 1) = (ovB (inS at' s keep st lost k).1 (at' + k) (s.extract k (k + 1)), (inS at' s keep st lost k).2.1 - 1, (inS at' s keep st lost k).2.2) := by
  unfold inS at h ⊢
  simp only at h ⊢
  have h1 : min k keep.toNat = k := by omega
  have h2 : min (k + 1) keep.toNat = k + 1 := by omega
  rw [h1, h2, ovB_step st at' s k hf hk]
  congr 2
  · omega
  · omega
theorem inS_lose (at' : Nat) (s : ByteArray) (keep : Int) (st : ByteArray) (lost k : Nat) (h : ¬ 0 < (inS at' s keep st lost k).2.1) :
    inS at' s keep st lost (k + 1) = ((inS at' s keep st lost k).1, (inS at' s keep st lost k).2.1, (inS at' s keep st lost k).2.2 + 1) := by
  unfold inS at h ⊢
  simp only at h ⊢
  have h1 : min (k + 1) keep.toNat = min k keep.toNat := by omega
  rw [h1]
  congr 2
  omega
/-- The whole write, as crashS has it. -/
theorem inS_all (at' : Nat) (s : ByteArray) (l : List (Nat × ByteArray)) (keep : Int) (st : ByteArray) (lost : Nat) :
    crashS ((at', s) :: l) keep st lost = crashS l (inS at' s keep st lost s.size).2.1 (inS at' s keep st lost s.size).1 (inS at' s keep st lost s.size).2.2 := by
  rw [crashS]
  unfold inS
  simp only
  rw [Nat.min_comm keep.toNat s.size]
end Go.Proofs.Ytembnjpflllpbaa
