/- Plain words on how numbers, texts and rows are written (seven bits in a byte). No program in sight. -/
namespace Go.Proofs.Ytembnjpflllpbaa

/-- A number's bytes. -/
def numL (n : Nat) : List UInt8 := if n < 128 then [UInt8.ofNat n] else UInt8.ofNat (n % 128 + 128) :: numL (n / 128)
termination_by n
decreasing_by omega
theorem numL_small {n : Nat} (h : n < 128) : numL n = [UInt8.ofNat n] := by rw [numL, if_pos h]
theorem numL_big {n : Nat} (h : ¬ n < 128) : numL n = UInt8.ofNat (n % 128 + 128) :: numL (n / 128) := by rw [numL, if_neg h]
def numB (n : Nat) : ByteArray := ⟨(numL n).toArray⟩
theorem numB_small {n : Nat} (h : n < 128) : numB n = ⟨#[UInt8.ofNat n]⟩ := by rw [numB, numL_small h]
theorem numB_big {n : Nat} (h : ¬ n < 128) : numB n = ⟨#[UInt8.ofNat (n % 128 + 128)]⟩ ++ numB (n / 128) := by
  rw [numB, numL_big h]
  apply ByteArray.ext
  simp [numB]
theorem numL_length (k : Nat) : ∀ n, n < 128 ^ (k + 1) → (numL n).length ≤ k + 1 := by
  induction k with
  | zero =>
    intro n h
    rw [numL_small (by simpa using h)]
    simp
  | succ k ih =>
    intro n h
    by_cases h1 : n < 128
    · rw [numL_small h1]
      simp
    · rw [numL_big h1, List.length_cons]
      have := ih (n / 128) (by
        rw [Nat.pow_succ] at h
        exact Nat.div_lt_of_lt_mul (by omega))
      omega
theorem numB_length (n : Nat) : (numB n).size = (numL n).length := by simp [numB, ByteArray.size]
theorem numB_size (n : Nat) (h : n < 18446744073709551616) : (numB n).size ≤ 10 := by
  rw [numB_length]
  exact numL_length 9 n (Nat.lt_of_lt_of_le h (by decide))
theorem numB_pos (n : Nat) : 0 < (numB n).size := by
  rw [numB_length]
  by_cases h : n < 128
  · rw [numL_small h]; simp
  · rw [numL_big h]; simp

/-- Texts. -/
def txtB (s : ByteArray) : ByteArray := numB s.size ++ s
def numsB : List Int → ByteArray
  | [] => ⟨#[]⟩
  | n :: l => numB n.toNat ++ numsB l
def txtsB : List ByteArray → ByteArray
  | [] => ⟨#[]⟩
  | s :: l => txtB s ++ txtsB l
def rowB (l : List ByteArray) : ByteArray := numB l.length ++ txtsB l
theorem app_nil (s : ByteArray) : s ++ (⟨#[]⟩ : ByteArray) = s := by
  apply ByteArray.ext
  simp
theorem nil_app (s : ByteArray) : (⟨#[]⟩ : ByteArray) ++ s = s := by
  apply ByteArray.ext
  simp
theorem app_assoc (a b c : ByteArray) : a ++ b ++ c = a ++ (b ++ c) := by
  apply ByteArray.ext
  simp
theorem numsB_append (a b : List Int) : numsB (a ++ b) = numsB a ++ numsB b := by
  induction a with
  | nil => simp [numsB, nil_app]
  | cons x a ih => simp only [List.cons_append, numsB, ih, app_assoc]
theorem txtsB_append (a b : List ByteArray) : txtsB (a ++ b) = txtsB a ++ txtsB b := by
  induction a with
  | nil => simp [txtsB, nil_app]
  | cons x a ih => simp only [List.cons_append, txtsB, ih, app_assoc]

theorem numsB_take {l : List Int} {k : Nat} (h : k < l.length) : numsB (l.take (k + 1)) = numsB (l.take k) ++ numB (l[k]).toNat := by
  rw [List.take_succ_eq_append_getElem h, numsB_append]
  simp [numsB, app_nil]
theorem txtsB_take {l : List ByteArray} {k : Nat} (h : k < l.length) : txtsB (l.take (k + 1)) = txtsB (l.take k) ++ txtB (l[k]) := by
  rw [List.take_succ_eq_append_getElem h, txtsB_append]
  simp [txtsB, app_nil]
theorem numsB_size (l : List Int) (h : ∀ x, x ∈ l → x < 18446744073709551616) : (numsB l).size ≤ 10 * l.length := by
  induction l with
  | nil => exact Nat.le_refl _
  | cons x l ih =>
    have h1 := numB_size x.toNat (by have := h x (by simp); omega)
    have h2 := ih (fun y hy => h y (by simp [hy]))
    simp only [numsB, ByteArray.size_append, List.length_cons]
    omega

def sizes : List ByteArray → Nat
  | [] => 0
  | s :: l => s.size + 10 + sizes l
theorem sizes_append (a b : List ByteArray) : sizes (a ++ b) = sizes a + sizes b := by
  induction a with
  | nil => simp [sizes]
  | cons x a ih => simp only [List.cons_append, sizes, ih]; omega
theorem sizes_take (l : List ByteArray) : ∀ k, sizes (l.take k) ≤ sizes l := by
  induction l with
  | nil => intro k; simp
  | cons x l ih =>
    intro k
    cases k with
    | zero => simp [sizes]
    | succ k => simp only [List.take_succ_cons, sizes]; have := ih k; omega
theorem sizes_take_succ {l : List ByteArray} {k : Nat} (h : k < l.length) : sizes (l.take k) + (l[k].size + 10) ≤ sizes l := by
  induction l generalizing k with
  | nil => simp at h
  | cons x l ih =>
    cases k with
    | zero => simp only [List.take_zero, sizes, List.getElem_cons_zero]; omega
    | succ k => simp only [List.take_succ_cons, sizes, List.getElem_cons_succ]; have := ih (k := k) (by simpa using h); omega
theorem txtsB_size (l : List ByteArray) (h : ∀ x, x ∈ l → x.size < 18446744073709551616) : (txtsB l).size ≤ sizes l := by
  induction l with
  | nil => exact Nat.le_refl _
  | cons x l ih =>
    have h1 := numB_size x.size (h x (by simp))
    have h2 := ih (fun y hy => h y (by simp [hy]))
    simp only [txtsB, txtB, ByteArray.size_append, sizes]
    omega
theorem size_of_sizes {l : List ByteArray} {x : ByteArray} (h : x ∈ l) : x.size + 10 ≤ sizes l := by
  induction l with
  | nil => cases h
  | cons y l ih =>
    simp only [sizes]
    rcases List.mem_cons.1 h with rfl | h
    · omega
    · have := ih h; omega
theorem length_sizes (l : List ByteArray) : 10 * l.length ≤ sizes l := by
  induction l with
  | nil => simp
  | cons x l ih => simp only [sizes, List.length_cons]; omega

theorem rowB_size (l : List ByteArray) (h : sizes l < 18446744073709551616) : (rowB l).size ≤ 10 + sizes l := by
  have h1 := numB_size l.length (by have := length_sizes l; omega)
  have h2 := txtsB_size l (fun x hx => by have := size_of_sizes hx; omega)
  simp only [rowB, ByteArray.size_append]
  omega

end Go.Proofs.Ytembnjpflllpbaa
