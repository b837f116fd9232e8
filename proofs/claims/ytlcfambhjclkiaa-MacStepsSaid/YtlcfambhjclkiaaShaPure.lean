/- The digest of layer 6 (sha), plain Lean over natural numbers: as the program computes it; what it is at the chapter's example. -/
import Derived.Test.YtlcfambhjclkiaaRows2
namespace Go.Proofs.Ytlcfambhjclkiaa
set_option linter.unusedVariables false

/-- A list's bytes. -/
def lB (l : List UInt8) : ByteArray := ⟨l.toArray⟩
theorem lB_size (l : List UInt8) : (lB l).size = l.length := by show l.toArray.size = _; simp
theorem lB_app (l m : List UInt8) : lB l ++ lB m = lB (l ++ m) := by
  apply ByteArray.ext
  simp [lB]
theorem lB_list (l : List UInt8) : (lB l).data.toList = l := rfl
theorem lB_of (s : ByteArray) : lB s.data.toList = s := rfl
/-- Turned to the right. -/
def shaR (x k : Nat) : Nat := (x * 2 ^ (32 - k)) % 4294967296 ||| x / 2 ^ k
def shaS0 (a : Nat) : Nat := shaR a 7 ^^^ shaR a 18 ^^^ a / 8
def shaS1 (b : Nat) : Nat := shaR b 17 ^^^ shaR b 19 ^^^ b / 1024
def shaT0 (e : Nat) : Nat := shaR e 6 ^^^ shaR e 11 ^^^ shaR e 25
def shaT1 (a : Nat) : Nat := shaR a 2 ^^^ shaR a 13 ^^^ shaR a 22
def shaCh (e f g : Nat) : Nat := g ^^^ (e &&& (f ^^^ g))
def shaMaj (a b c : Nat) : Nat := (a &&& b) ||| ((a ||| b) &&& c)
def shaBegin : List Nat := [1779033703, 3144134277, 1013904242, 2773480762, 1359893119, 2600822924, 528734635, 1541459225]
def shaKeys : List Nat := [1116352408, 1899447441, 3049323471, 3921009573, 961987163, 1508970993, 2453635748, 2870763221, 3624381080, 310598401, 607225278, 1426881987, 1925078388, 2162078206, 2614888103, 3248222580, 3835390401, 4022224774, 264347078, 604807628, 770255983, 1249150122, 1555081692, 1996064986, 2554220882, 2821834349, 2952996808, 3210313671, 3336571891, 3584528711, 113926993, 338241895, 666307205, 773529912, 1294757372, 1396182291, 1695183700, 1986661051, 2177026350, 2456956037, 2730485921, 2820302411, 3259730800, 3345764771, 3516065817, 3600352804, 4094571909, 275423344, 430227734, 506948616, 659060556, 883997877, 958139571, 1322822218, 1537002063, 1747873779, 1955562222, 2024104815, 2227730452, 2361852424, 2428436474, 2756734187, 3204031479, 3329325298]
/-- A byte goes into the numbers of a block. -/
def shaB (s : List UInt8) (w : List Nat) (i : Nat) : List Nat := w.set (i / 4) ((w.getD (i / 4) 0 * 256) % 4294967296 ||| (s.getD i 0).toNat)
def shaE1 (w : List Nat) (i : Nat) : Nat := (w.getD (i - 16) 0 + w.getD (i - 7) 0 + shaS0 (w.getD (i - 15) 0) + shaS1 (w.getD (i - 2) 0)) % 4294967296
def shaE (w : List Nat) (i : Nat) : List Nat := w.set i (shaE1 w i)
def shaBs (s : List UInt8) : Nat → List Nat
  | 0 => List.replicate 64 0
  | i + 1 => shaB s (shaBs s i) i
/-- The numbers i on, behind the first 16. -/
def shaEs (w : List Nat) : Nat → List Nat
  | 0 => w
  | j + 1 => shaE (shaEs w j) (j + 16)
def shaWs (s : List UInt8) : List Nat := shaEs (shaBs s 64) 48
/-- One round. -/
def shaRd (k w : Nat) (x : List Nat) : List Nat :=
  let t := (x.getD 7 0 + shaT0 (x.getD 4 0) + shaCh (x.getD 4 0) (x.getD 5 0) (x.getD 6 0) + k + w) % 4294967296
  let u := (shaT1 (x.getD 0 0) + shaMaj (x.getD 0 0) (x.getD 1 0) (x.getD 2 0)) % 4294967296
  [(t + u) % 4294967296, x.getD 0 0, x.getD 1 0, x.getD 2 0, (x.getD 3 0 + t) % 4294967296, x.getD 4 0, x.getD 5 0, x.getD 6 0]
def shaRds (w x : List Nat) : Nat → List Nat
  | 0 => x
  | i + 1 => shaRd (shaKeys.getD i 0) (w.getD i 0) (shaRds w x i)
def shaAdd (h x : List Nat) : List Nat := (List.range 8).map fun i => (h.getD i 0 + x.getD i 0) % 4294967296
/-- A block's numbers go in. -/
def shaIn (h w : List Nat) : List Nat := shaAdd h (shaRds w h 64)
/-- The blocks of a text, from its place k on. -/
def shaWss (s : ByteArray) (k : Nat) : List (List Nat) := if h : k + 64 ≤ s.size then shaWs (s.extract k s.size).data.toList :: shaWss s (k + 64) else []
termination_by s.size - k
/-- A text, filled. -/
def shaZeros (n : Nat) : Nat := (119 - n % 64) % 64
def shaLen (n : Nat) : List UInt8 := [UInt8.ofNat (n / 2 ^ 56), UInt8.ofNat (n / 2 ^ 48), UInt8.ofNat (n / 2 ^ 40), UInt8.ofNat (n / 2 ^ 32), UInt8.ofNat (n / 2 ^ 24), UInt8.ofNat (n / 2 ^ 16), UInt8.ofNat (n / 2 ^ 8), UInt8.ofNat n]
def shaFill (s : ByteArray) : ByteArray := s ++ ⟨#[128]⟩ ++ lB (List.replicate (shaZeros s.size) 0) ++ lB (shaLen (s.size * 8))
def shaNum (n : Nat) : List UInt8 := [UInt8.ofNat (n / 16777216), UInt8.ofNat (n / 65536), UInt8.ofNat (n / 256), UInt8.ofNat n]
def shaOut (h : List Nat) : ByteArray := lB (h.flatMap shaNum)
def shaH (s : ByteArray) : List Nat := (shaWss (shaFill s) 0).foldl shaIn shaBegin
/-- The digest. -/
def shaSum (s : ByteArray) : ByteArray := shaOut (shaH s)
def hexDig : List UInt8 := [48, 49, 50, 51, 52, 53, 54, 55, 56, 57, 97, 98, 99, 100, 101, 102]
def hexB (s : ByteArray) : ByteArray := ⟨(s.data.toList.flatMap fun c => [hexDig.getD (c.toNat / 16) 0, hexDig.getD (c.toNat % 16) 0]).toArray⟩

end Go.Proofs.Ytlcfambhjclkiaa
