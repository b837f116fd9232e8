/- How great rows are that 'few' makes. -/
import Derived.Test.YtngonnnjehlfbaaFew03
import Derived.Test.YtngonnnjehlfbaaPackPure
namespace Go.Proofs.Ytngonnnjehlfbaa

theorem fewB_size (l : List ByteArray) : ∀ x, x ∈ fewB l → x.size ≤ 200 := by
  intro x hx
  obtain ⟨y, _, rfl⟩ := List.mem_map.1 hx
  exact shortB_size y 200
theorem fewB_length (l : List ByteArray) : (fewB l).length ≤ 8 := by
  unfold fewB
  rw [List.length_map, List.length_take]
  omega
theorem sizes_few {m : List ByteArray} (h : ∀ x, x ∈ m → x.size ≤ 200) : sizes m ≤ 210 * m.length := by
  induction m with
  | nil => simp [sizes]
  | cons x m ih =>
    have h1 := h x (by simp)
    have h2 := ih (fun y hy => h y (by simp [hy]))
    simp only [sizes, List.length_cons]
    omega

end Go.Proofs.Ytngonnnjehlfbaa
