/-
  No cell of these rows narrows 'for every input' (looked for: loops, veiled, ifaces, maps, wideKeys, modest, calm, conditions, laid).
  DERIVED. THE GIVEN ROWS OF THIS SEAT. 4 by the template 'for every input the law returns true; each argument reads behind the call as it read before'; 0 by the template 'total and deterministic' (their statements: YtembnjpflllpbaaTotals.lean).
  GIVEN WITH THE SEED: the statements are not yours to turn. If you find one false, say at which input.
  Laid BY PROGRAM, IN A SANDBOX (cutbox-rows.mjs): the forced cells as the released guide's own fill.sh prints them over the translation fda7ba8cf5959868… (all of the seat's roots in one cut). By AI agents, Wed Nov 11 2026. No macro, syntax, notation, axiom, sorry.
-/
import Derived.Test.YtembnjpflllpbaaChecked
import GoSem.Claim
import GoSem.ClaimJoined
import GoSem.ClaimMapViews
import Derived.JoinedTies
import Derived.KernelRfl
namespace Go.Proofs.Ytembnjpflllpbaa
/- THE CELL 'sum', in the pinned program and in every row, IS THE sha256 OF THE DUMP (.gsa) THAT YtembnjpflllpbaaProg.lean LOADS. Nothing in Lean hashes anything: it is a label: what it is worth is what the hold of that sum in a sandbox is worth. -/
noncomputable def Try.pinned : Pinned := { name := "ytembnjpflllpbaa", sum := "fda7ba8cf5959868cb35597105094db0bde99184c11aa2593e1256ae3bd155df", checked := Try.checked }
namespace Rows
def none {H : Type} : Left H := { results := [], args := [] }

/-- 'homecominglaw05.HalvesRoom': WHATEVER THE INPUT: true; the input reads as it did. -/
def halvesRoomSpec : ChangeSpec := { name := "halvesRoom", fn := fun _ => fun
  | [d] => { results := [.lit (.bool true)], args := [d] }
  | _ => none }
def halvesRoomRow : OpenClaim := { program := "ytembnjpflllpbaa", sum := "fda7ba8cf5959868cb35597105094db0bde99184c11aa2593e1256ae3bd155df", func := "homecoming/homecominglaw05.HalvesRoom", spec := "halvesRoom", inPlace := ["internal/abi.NoEscape", "internal/bytealg.MakeNoZero"], unfollowed := true, recurses := true, apart := false }
def HalvesRoomSaid : Prop := halvesRoomRow.holds Try.pinned (OpenSpec.ofChange halvesRoomSpec)

/-- ITS FALSE NEIGHBOUR: 'it returns false'. Refute it at one input. -/
def halvesRoomWrong : ChangeSpec := { name := "halvesRoom", fn := fun _ => fun
  | [d] => { results := [.lit (.bool false)], args := [d] }
  | _ => none }
def HalvesRoomWrongFalsely : Prop := halvesRoomRow.holds Try.pinned (OpenSpec.ofChange halvesRoomWrong)

/-- 'homecominglaw05.HalvesAgain': WHATEVER THE INPUT: true; the input reads as it did. -/
def halvesAgainSpec : ChangeSpec := { name := "halvesAgain", fn := fun _ => fun
  | [d1, d2, d3] => { results := [.lit (.bool true)], args := [d1, d2, d3] }
  | _ => none }
def halvesAgainRow : OpenClaim := { program := "ytembnjpflllpbaa", sum := "fda7ba8cf5959868cb35597105094db0bde99184c11aa2593e1256ae3bd155df", func := "homecoming/homecominglaw05.HalvesAgain", spec := "halvesAgain", inPlace := ["internal/abi.NoEscape", "internal/bytealg.MakeNoZero"], unfollowed := true, recurses := true, apart := false }
def HalvesAgainSaid : Prop := halvesAgainRow.holds Try.pinned (OpenSpec.ofChange halvesAgainSpec)

/-- ITS FALSE NEIGHBOUR: 'it returns false'. Refute it at one input. -/
def halvesAgainWrong : ChangeSpec := { name := "halvesAgain", fn := fun _ => fun
  | [d1, d2, d3] => { results := [.lit (.bool false)], args := [d1, d2, d3] }
  | _ => none }
def HalvesAgainWrongFalsely : Prop := halvesAgainRow.holds Try.pinned (OpenSpec.ofChange halvesAgainWrong)

/-- 'homecominglaw05.HalvesNil': WHATEVER THE INPUT: true; the input reads as it did. -/
def halvesNilSpec : ChangeSpec := { name := "halvesNil", fn := fun _ => fun
  | [d] => { results := [.lit (.bool true)], args := [d] }
  | _ => none }
def halvesNilRow : OpenClaim := { program := "ytembnjpflllpbaa", sum := "fda7ba8cf5959868cb35597105094db0bde99184c11aa2593e1256ae3bd155df", func := "homecoming/homecominglaw05.HalvesNil", spec := "halvesNil", inPlace := ["internal/abi.NoEscape", "internal/bytealg.MakeNoZero"], unfollowed := true, recurses := true, apart := false }
def HalvesNilSaid : Prop := halvesNilRow.holds Try.pinned (OpenSpec.ofChange halvesNilSpec)

/-- ITS FALSE NEIGHBOUR: 'it returns false'. Refute it at one input. -/
def halvesNilWrong : ChangeSpec := { name := "halvesNil", fn := fun _ => fun
  | [d] => { results := [.lit (.bool false)], args := [d] }
  | _ => none }
def HalvesNilWrongFalsely : Prop := halvesNilRow.holds Try.pinned (OpenSpec.ofChange halvesNilWrong)

/-- 'homecominglaw05.HalvesSafe': WHATEVER THE INPUT: true; the input reads as it did. -/
def halvesSafeSpec : ChangeSpec := { name := "halvesSafe", fn := fun _ => fun
  | [d] => { results := [.lit (.bool true)], args := [d] }
  | _ => none }
def halvesSafeRow : OpenClaim := { program := "ytembnjpflllpbaa", sum := "fda7ba8cf5959868cb35597105094db0bde99184c11aa2593e1256ae3bd155df", func := "homecoming/homecominglaw05.HalvesSafe", spec := "halvesSafe", inPlace := ["internal/abi.NoEscape", "internal/bytealg.MakeNoZero"], unfollowed := true, recurses := true, apart := false }
def HalvesSafeSaid : Prop := halvesSafeRow.holds Try.pinned (OpenSpec.ofChange halvesSafeSpec)

/-- ITS FALSE NEIGHBOUR: 'it returns false'. Refute it at one input. -/
def halvesSafeWrong : ChangeSpec := { name := "halvesSafe", fn := fun _ => fun
  | [d] => { results := [.lit (.bool false)], args := [d] }
  | _ => none }
def HalvesSafeWrongFalsely : Prop := halvesSafeRow.holds Try.pinned (OpenSpec.ofChange halvesSafeWrong)

/- THE SECOND FORM. 'bulk': how many values and letters a reading holds, each counted each time it is reached (what is shared counts as often as it is met; a slice's spare places count too). A statement '..UptoSaid' is the law's where the arguments, and the package variables that the reading takes, are together of bulk at most 1048576: NARROWER than '..Said'. Prove '..Said' where nothing that the law and all that it calls make is longer than what came in: it says more and counts as full. Else prove '..UptoSaid'. A law counts once. -/
mutual
def uptoBulk {H : Type} : DataW H → Nat
  | .lit (.string bytes) => bytes.length + 1
  | .lit _ => 1
  | .nil => 1
  | .ptr d => uptoBulk d + 1
  | .slice elems spare => uptoBulkAll elems + uptoBulkAll spare + 1
  | .agg parts => uptoBulkAll parts + 1
  | .iface _ d => uptoBulk d + 1
  | .map entries => uptoBulkEntries entries + 1
  | .held _ => 1
def uptoBulkAll {H : Type} : List (DataW H) → Nat
  | [] => 0
  | d :: r => uptoBulk d + uptoBulkAll r
def uptoBulkEntries {H : Type} : List (Lit × DataW H) → Nat
  | [] => 0
  | x :: r => uptoBulkEntry x + uptoBulkEntries r
def uptoBulkEntry {H : Type} : Lit × DataW H → Nat
  | (.string bytes, d) => bytes.length + uptoBulk d + 1
  | (_, d) => uptoBulk d + 1
 end
def uptoSmall : (H : Type) → List (DataW H) → Bool := fun _ ds => decide (uptoBulkAll ds ≤ 1048576)
def OpenSpec.upto (s : _root_.Go.ChangeSpec) : _root_.Go.OpenSpec := { _root_.Go.OpenSpec.ofChange s with cond := some uptoSmall }

/-- 'homecominglaw05.HalvesRoom', WHERE WHAT IT READS IS OF BULK AT MOST 1048576: true; the input reads as it did. -/
def halvesRoomUptoRow : OpenClaim := { program := "ytembnjpflllpbaa", sum := "fda7ba8cf5959868cb35597105094db0bde99184c11aa2593e1256ae3bd155df", func := "homecoming/homecominglaw05.HalvesRoom", spec := "halvesRoom", inPlace := ["internal/abi.NoEscape", "internal/bytealg.MakeNoZero"], unfollowed := true, recurses := true, apart := false, narrowed := true }
def HalvesRoomUptoSaid : Prop := halvesRoomUptoRow.holds Try.pinned (OpenSpec.upto halvesRoomSpec)

/-- 'homecominglaw05.HalvesAgain', WHERE WHAT IT READS IS OF BULK AT MOST 1048576: true; the input reads as it did. -/
def halvesAgainUptoRow : OpenClaim := { program := "ytembnjpflllpbaa", sum := "fda7ba8cf5959868cb35597105094db0bde99184c11aa2593e1256ae3bd155df", func := "homecoming/homecominglaw05.HalvesAgain", spec := "halvesAgain", inPlace := ["internal/abi.NoEscape", "internal/bytealg.MakeNoZero"], unfollowed := true, recurses := true, apart := false, narrowed := true }
def HalvesAgainUptoSaid : Prop := halvesAgainUptoRow.holds Try.pinned (OpenSpec.upto halvesAgainSpec)

/-- 'homecominglaw05.HalvesNil', WHERE WHAT IT READS IS OF BULK AT MOST 1048576: true; the input reads as it did. -/
def halvesNilUptoRow : OpenClaim := { program := "ytembnjpflllpbaa", sum := "fda7ba8cf5959868cb35597105094db0bde99184c11aa2593e1256ae3bd155df", func := "homecoming/homecominglaw05.HalvesNil", spec := "halvesNil", inPlace := ["internal/abi.NoEscape", "internal/bytealg.MakeNoZero"], unfollowed := true, recurses := true, apart := false, narrowed := true }
def HalvesNilUptoSaid : Prop := halvesNilUptoRow.holds Try.pinned (OpenSpec.upto halvesNilSpec)

/-- 'homecominglaw05.HalvesSafe', WHERE WHAT IT READS IS OF BULK AT MOST 1048576: true; the input reads as it did. -/
def halvesSafeUptoRow : OpenClaim := { program := "ytembnjpflllpbaa", sum := "fda7ba8cf5959868cb35597105094db0bde99184c11aa2593e1256ae3bd155df", func := "homecoming/homecominglaw05.HalvesSafe", spec := "halvesSafe", inPlace := ["internal/abi.NoEscape", "internal/bytealg.MakeNoZero"], unfollowed := true, recurses := true, apart := false, narrowed := true }
def HalvesSafeUptoSaid : Prop := halvesSafeUptoRow.holds Try.pinned (OpenSpec.upto halvesSafeSpec)

end Rows
end Go.Proofs.Ytembnjpflllpbaa
