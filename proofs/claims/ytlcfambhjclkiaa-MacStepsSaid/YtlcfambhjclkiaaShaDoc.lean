/- The digest of layer 6 (sha), plain Lean: as the document has it (primes, roots, its own rounds); it is the program's. -/
import Derived.Test.YtlcfambhjclkiaaShaPure
namespace Go.Proofs.Ytlcfambhjclkiaa
set_option linter.unusedVariables false
set_option linter.unusedSimpArgs false

/-! ### primes -/
def prStep (out : List Nat) (k : Nat) : List Nat := if out.all (fun p => k % p != 0) then out ++ [k] else out
/-- The primes below k + 2, of which at most 64. -/
def prAt : Nat → List Nat
  | 0 => []
  | k + 1 => prStep (prAt k) (k + 2)

/-! ### roots -/
/-- A product of a number of 64 bits and one of 128: as the document has it, half by half. -/
def tmStep (n : List Nat) (x y : List Nat) (i : Nat) : Nat → List Nat × Nat
  | 0 => (n, 0)
  | k + 1 =>
    let (n, c) := tmStep n x y i k
    let t := (n.getD (i + k) 0 + x.getD i 0 * y.getD k 0 + c) % 18446744073709551616
    (n.set (i + k) (t % 4294967296), t / 4294967296)
def tmX (a : Nat) : List Nat := [a % 4294967296, a / 4294967296]
def tmY (hi lo : Nat) : List Nat := [lo % 4294967296, lo / 4294967296, hi % 4294967296, hi / 4294967296]
def tmN (a hi lo : Nat) : List Nat := (tmStep (tmStep [0, 0, 0, 0] (tmX a) (tmY hi lo) 0 4).1 (tmX a) (tmY hi lo) 1 3).1
def timesP (a hi lo : Nat) : Nat × Nat :=
  (((tmN a hi lo).getD 2 0 + (tmN a hi lo).getD 3 0 * 4294967296) % 18446744073709551616, ((tmN a hi lo).getD 0 0 + (tmN a hi lo).getD 1 0 * 4294967296) % 18446744073709551616)
def rtOver (p t : Nat) (third : Bool) : Bool :=
  let q := timesP t 0 t
  if third then
    let r := timesP t q.1 q.2
    decide (p < r.1 / 4294967296) || (r.1 / 4294967296 == p && (decide (0 < r.1 % 4294967296) || decide (0 < r.2)))
  else decide (p < q.1) || (q.1 == p && decide (0 < q.2))
/-- The root's bits from the top, j of them done. -/
def rtAt (p : Nat) (third : Bool) : Nat → Nat
  | 0 => 0
  | j + 1 => if decide (36 - j ≤ 34) && !rtOver p (rtAt p third j + 2 ^ (36 - j)) third then rtAt p third j + 2 ^ (36 - j) else rtAt p third j
def rootP (p : Nat) (third : Bool) : Nat := rtAt p third 37 % 4294967296

set_option maxRecDepth 100000 in
theorem primes_keys : (List.range 64).map (fun i => rootP ((prAt 310).getD i 0) true) = shaKeys := by decide +kernel
set_option maxRecDepth 100000 in
theorem primes_begin : (List.range 8).map (fun i => rootP ((prAt 310).getD i 0) false) = shaBegin := by decide +kernel
theorem prAt_len : (List.range 310).all (fun k => decide ((prAt k).length < 64)) = true ∧ (prAt 310).length = 64 := by decide +kernel
/-- 'abc'. -/
theorem sha_abc : hexB (shaSum ⟨#[97, 98, 99]⟩) = "ba7816bf8f01cfea414140de5dae2223b00361a396177a9cb410ff61f20015ad".toUTF8 := by decide +kernel

end Go.Proofs.Ytlcfambhjclkiaa
