/-
  No cell of these rows narrows 'for every input' (looked for: loops, veiled, ifaces, maps, wideKeys, modest, calm, conditions, laid).
  DERIVED. THE GIVEN ROWS OF THIS SEAT. 11 by the template 'for every input the law returns true; each argument reads behind the call as it read before'; 0 by the template 'total and deterministic' (their statements: YtlcfambhjclkiaaTotals.lean).
  GIVEN WITH THE SEED: the statements are not yours to turn. If you find one false, say at which input.
  Laid BY PROGRAM, IN A SANDBOX (cutbox-rows.mjs): the forced cells as the released guide's own fill.sh prints them over the translation e9a5865f75fceca1… (all of the seat's roots in one cut). By AI agents, Wed Nov 11 2026. No macro, syntax, notation, axiom, sorry.
-/
import Derived.Test.YtlcfambhjclkiaaChecked
import GoSem.Claim
import GoSem.ClaimJoined
import GoSem.ClaimMapViews
import Derived.JoinedTies
import Derived.KernelRfl
namespace Go.Proofs.Ytlcfambhjclkiaa
/- THE CELL 'sum', in the pinned program and in every row, IS THE sha256 OF THE DUMP (.gsa) THAT YtlcfambhjclkiaaProg.lean LOADS. Nothing in Lean hashes anything: it is a label: what it is worth is what the hold of that sum in a sandbox is worth. -/
noncomputable def Try.pinned : Pinned := { name := "ytlcfambhjclkiaa", sum := "e9a5865f75fceca1c4cad837486d1a75045e6c1570ecbb1fef3c7903afa83de5", checked := Try.checked }
namespace Rows
def none {H : Type} : Left H := { results := [], args := [] }

/-- 'homecominglaw06.ShaTells': WHATEVER THE INPUT: true; the input reads as it did. -/
def shaTellsSpec : ChangeSpec := { name := "shaTells", fn := fun _ => fun
  | [d1, d2] => { results := [.lit (.bool true)], args := [d1, d2] }
  | _ => none }
def shaTellsRow : OpenClaim := { program := "ytlcfambhjclkiaa", sum := "e9a5865f75fceca1c4cad837486d1a75045e6c1570ecbb1fef3c7903afa83de5", func := "homecoming/homecominglaw06.ShaTells", spec := "shaTells", inPlace := ["internal/abi.NoEscape", "internal/bytealg.MakeNoZero"], unfollowed := true, recurses := true, apart := false }
def ShaTellsSaid : Prop := shaTellsRow.holds Try.pinned (OpenSpec.ofChange shaTellsSpec)

/-- ITS FALSE NEIGHBOUR: 'it returns false'. Refute it at one input. -/
def shaTellsWrong : ChangeSpec := { name := "shaTells", fn := fun _ => fun
  | [d1, d2] => { results := [.lit (.bool false)], args := [d1, d2] }
  | _ => none }
def ShaTellsWrongFalsely : Prop := shaTellsRow.holds Try.pinned (OpenSpec.ofChange shaTellsWrong)

/-- 'homecominglaw06.ShaLengths': WHATEVER THE INPUT: true; the input reads as it did. -/
def shaLengthsSpec : ChangeSpec := { name := "shaLengths", fn := fun _ => fun
  | [d1, d2] => { results := [.lit (.bool true)], args := [d1, d2] }
  | _ => none }
def shaLengthsRow : OpenClaim := { program := "ytlcfambhjclkiaa", sum := "e9a5865f75fceca1c4cad837486d1a75045e6c1570ecbb1fef3c7903afa83de5", func := "homecoming/homecominglaw06.ShaLengths", spec := "shaLengths", inPlace := ["internal/abi.NoEscape", "internal/bytealg.MakeNoZero"], unfollowed := true, recurses := true, apart := false }
def ShaLengthsSaid : Prop := shaLengthsRow.holds Try.pinned (OpenSpec.ofChange shaLengthsSpec)

/-- ITS FALSE NEIGHBOUR: 'it returns false'. Refute it at one input. -/
def shaLengthsWrong : ChangeSpec := { name := "shaLengths", fn := fun _ => fun
  | [d1, d2] => { results := [.lit (.bool false)], args := [d1, d2] }
  | _ => none }
def ShaLengthsWrongFalsely : Prop := shaLengthsRow.holds Try.pinned (OpenSpec.ofChange shaLengthsWrong)

/-- 'homecominglaw06.ShaParts': WHATEVER THE INPUT: true; the input reads as it did. -/
def shaPartsSpec : ChangeSpec := { name := "shaParts", fn := fun _ => fun
  | [d1, d2, d3] => { results := [.lit (.bool true)], args := [d1, d2, d3] }
  | _ => none }
def shaPartsRow : OpenClaim := { program := "ytlcfambhjclkiaa", sum := "e9a5865f75fceca1c4cad837486d1a75045e6c1570ecbb1fef3c7903afa83de5", func := "homecoming/homecominglaw06.ShaParts", spec := "shaParts", inPlace := ["internal/abi.NoEscape", "internal/bytealg.MakeNoZero"], unfollowed := true, recurses := true, apart := false }
def ShaPartsSaid : Prop := shaPartsRow.holds Try.pinned (OpenSpec.ofChange shaPartsSpec)

/-- ITS FALSE NEIGHBOUR: 'it returns false'. Refute it at one input. -/
def shaPartsWrong : ChangeSpec := { name := "shaParts", fn := fun _ => fun
  | [d1, d2, d3] => { results := [.lit (.bool false)], args := [d1, d2, d3] }
  | _ => none }
def ShaPartsWrongFalsely : Prop := shaPartsRow.holds Try.pinned (OpenSpec.ofChange shaPartsWrong)

/-- 'homecominglaw06.ShaHex': WHATEVER THE INPUT: true; the input reads as it did. -/
def shaHexSpec : ChangeSpec := { name := "shaHex", fn := fun _ => fun
  | [d] => { results := [.lit (.bool true)], args := [d] }
  | _ => none }
def shaHexRow : OpenClaim := { program := "ytlcfambhjclkiaa", sum := "e9a5865f75fceca1c4cad837486d1a75045e6c1570ecbb1fef3c7903afa83de5", func := "homecoming/homecominglaw06.ShaHex", spec := "shaHex", inPlace := ["internal/abi.NoEscape", "internal/bytealg.MakeNoZero"], unfollowed := true, recurses := true, apart := false }
def ShaHexSaid : Prop := shaHexRow.holds Try.pinned (OpenSpec.ofChange shaHexSpec)

/-- ITS FALSE NEIGHBOUR: 'it returns false'. Refute it at one input. -/
def shaHexWrong : ChangeSpec := { name := "shaHex", fn := fun _ => fun
  | [d] => { results := [.lit (.bool false)], args := [d] }
  | _ => none }
def ShaHexWrongFalsely : Prop := shaHexRow.holds Try.pinned (OpenSpec.ofChange shaHexWrong)

/-- 'homecominglaw06.ShaBlocks': WHATEVER THE INPUT: true; the input reads as it did. -/
def shaBlocksSpec : ChangeSpec := { name := "shaBlocks", fn := fun _ => fun
  | [d1, d2, d3] => { results := [.lit (.bool true)], args := [d1, d2, d3] }
  | _ => none }
def shaBlocksRow : OpenClaim := { program := "ytlcfambhjclkiaa", sum := "e9a5865f75fceca1c4cad837486d1a75045e6c1570ecbb1fef3c7903afa83de5", func := "homecoming/homecominglaw06.ShaBlocks", spec := "shaBlocks", inPlace := ["internal/abi.NoEscape", "internal/bytealg.MakeNoZero"], unfollowed := true, recurses := true, apart := false }
def ShaBlocksSaid : Prop := shaBlocksRow.holds Try.pinned (OpenSpec.ofChange shaBlocksSpec)

/-- ITS FALSE NEIGHBOUR: 'it returns false'. Refute it at one input. -/
def shaBlocksWrong : ChangeSpec := { name := "shaBlocks", fn := fun _ => fun
  | [d1, d2, d3] => { results := [.lit (.bool false)], args := [d1, d2, d3] }
  | _ => none }
def ShaBlocksWrongFalsely : Prop := shaBlocksRow.holds Try.pinned (OpenSpec.ofChange shaBlocksWrong)

/-- 'homecominglaw06.ShaMeters': WHATEVER THE INPUT: true; the input reads as it did. -/
def shaMetersSpec : ChangeSpec := { name := "shaMeters", fn := fun _ => fun
  | [d] => { results := [.lit (.bool true)], args := [d] }
  | _ => none }
def shaMetersRow : OpenClaim := { program := "ytlcfambhjclkiaa", sum := "e9a5865f75fceca1c4cad837486d1a75045e6c1570ecbb1fef3c7903afa83de5", func := "homecoming/homecominglaw06.ShaMeters", spec := "shaMeters", inPlace := ["internal/abi.NoEscape", "internal/bytealg.MakeNoZero", "sync/atomic.AddInt64", "sync/atomic.LoadInt64"], unfollowed := true, recurses := true, apart := false }
def ShaMetersSaid : Prop := shaMetersRow.holds Try.pinned (OpenSpec.ofChange shaMetersSpec)

/-- ITS FALSE NEIGHBOUR: 'it returns false'. Refute it at one input. -/
def shaMetersWrong : ChangeSpec := { name := "shaMeters", fn := fun _ => fun
  | [d] => { results := [.lit (.bool false)], args := [d] }
  | _ => none }
def ShaMetersWrongFalsely : Prop := shaMetersRow.holds Try.pinned (OpenSpec.ofChange shaMetersWrong)

/-- 'homecominglaw07.MacTells': WHATEVER THE INPUT: true; the input reads as it did. -/
def macTellsSpec : ChangeSpec := { name := "macTells", fn := fun _ => fun
  | [d1, d2, d3] => { results := [.lit (.bool true)], args := [d1, d2, d3] }
  | _ => none }
def macTellsRow : OpenClaim := { program := "ytlcfambhjclkiaa", sum := "e9a5865f75fceca1c4cad837486d1a75045e6c1570ecbb1fef3c7903afa83de5", func := "homecoming/homecominglaw07.MacTells", spec := "macTells", inPlace := ["sync/atomic.AddInt64", "internal/abi.NoEscape", "internal/bytealg.MakeNoZero"], unfollowed := true, recurses := true, apart := false }
def MacTellsSaid : Prop := macTellsRow.holds Try.pinned (OpenSpec.ofChange macTellsSpec)

/-- ITS FALSE NEIGHBOUR: 'it returns false'. Refute it at one input. -/
def macTellsWrong : ChangeSpec := { name := "macTells", fn := fun _ => fun
  | [d1, d2, d3] => { results := [.lit (.bool false)], args := [d1, d2, d3] }
  | _ => none }
def MacTellsWrongFalsely : Prop := macTellsRow.holds Try.pinned (OpenSpec.ofChange macTellsWrong)

/-- 'homecominglaw07.MacKeys': WHATEVER THE INPUT: true; the input reads as it did. -/
def macKeysSpec : ChangeSpec := { name := "macKeys", fn := fun _ => fun
  | [d1, d2] => { results := [.lit (.bool true)], args := [d1, d2] }
  | _ => none }
def macKeysRow : OpenClaim := { program := "ytlcfambhjclkiaa", sum := "e9a5865f75fceca1c4cad837486d1a75045e6c1570ecbb1fef3c7903afa83de5", func := "homecoming/homecominglaw07.MacKeys", spec := "macKeys", inPlace := ["sync/atomic.AddInt64", "internal/abi.NoEscape", "internal/bytealg.MakeNoZero"], unfollowed := true, recurses := true, apart := false }
def MacKeysSaid : Prop := macKeysRow.holds Try.pinned (OpenSpec.ofChange macKeysSpec)

/-- ITS FALSE NEIGHBOUR: 'it returns false'. Refute it at one input. -/
def macKeysWrong : ChangeSpec := { name := "macKeys", fn := fun _ => fun
  | [d1, d2] => { results := [.lit (.bool false)], args := [d1, d2] }
  | _ => none }
def MacKeysWrongFalsely : Prop := macKeysRow.holds Try.pinned (OpenSpec.ofChange macKeysWrong)

/-- 'homecominglaw07.MacEqual': WHATEVER THE INPUT: true; the input reads as it did. -/
def macEqualSpec : ChangeSpec := { name := "macEqual", fn := fun _ => fun
  | [d1, d2, d3] => { results := [.lit (.bool true)], args := [d1, d2, d3] }
  | _ => none }
def macEqualRow : OpenClaim := { program := "ytlcfambhjclkiaa", sum := "e9a5865f75fceca1c4cad837486d1a75045e6c1570ecbb1fef3c7903afa83de5", func := "homecoming/homecominglaw07.MacEqual", spec := "macEqual", inPlace := ["sync/atomic.AddInt64", "internal/abi.NoEscape", "internal/bytealg.MakeNoZero"], unfollowed := true, recurses := true, apart := false }
def MacEqualSaid : Prop := macEqualRow.holds Try.pinned (OpenSpec.ofChange macEqualSpec)

/-- ITS FALSE NEIGHBOUR: 'it returns false'. Refute it at one input. -/
def macEqualWrong : ChangeSpec := { name := "macEqual", fn := fun _ => fun
  | [d1, d2, d3] => { results := [.lit (.bool false)], args := [d1, d2, d3] }
  | _ => none }
def MacEqualWrongFalsely : Prop := macEqualRow.holds Try.pinned (OpenSpec.ofChange macEqualWrong)

/-- 'homecominglaw07.MacSteps': WHATEVER THE INPUT: true; the input reads as it did. -/
def macStepsSpec : ChangeSpec := { name := "macSteps", fn := fun _ => fun
  | [d1, d2, d3] => { results := [.lit (.bool true)], args := [d1, d2, d3] }
  | _ => none }
def macStepsRow : OpenClaim := { program := "ytlcfambhjclkiaa", sum := "e9a5865f75fceca1c4cad837486d1a75045e6c1570ecbb1fef3c7903afa83de5", func := "homecoming/homecominglaw07.MacSteps", spec := "macSteps", inPlace := ["sync/atomic.AddInt64", "internal/abi.NoEscape", "internal/bytealg.MakeNoZero"], unfollowed := true, recurses := true, apart := false }
def MacStepsSaid : Prop := macStepsRow.holds Try.pinned (OpenSpec.ofChange macStepsSpec)

/-- ITS FALSE NEIGHBOUR: 'it returns false'. Refute it at one input. -/
def macStepsWrong : ChangeSpec := { name := "macSteps", fn := fun _ => fun
  | [d1, d2, d3] => { results := [.lit (.bool false)], args := [d1, d2, d3] }
  | _ => none }
def MacStepsWrongFalsely : Prop := macStepsRow.holds Try.pinned (OpenSpec.ofChange macStepsWrong)

/-- 'homecominglaw07.MacCounts': WHATEVER THE INPUT: true; the input reads as it did. -/
def macCountsSpec : ChangeSpec := { name := "macCounts", fn := fun _ => fun
  | [d1, d2, d3] => { results := [.lit (.bool true)], args := [d1, d2, d3] }
  | _ => none }
def macCountsRow : OpenClaim := { program := "ytlcfambhjclkiaa", sum := "e9a5865f75fceca1c4cad837486d1a75045e6c1570ecbb1fef3c7903afa83de5", func := "homecoming/homecominglaw07.MacCounts", spec := "macCounts", inPlace := ["sync/atomic.AddInt64", "internal/abi.NoEscape", "internal/bytealg.MakeNoZero", "sync/atomic.LoadInt64"], unfollowed := true, recurses := true, apart := false }
def MacCountsSaid : Prop := macCountsRow.holds Try.pinned (OpenSpec.ofChange macCountsSpec)

/-- ITS FALSE NEIGHBOUR: 'it returns false'. Refute it at one input. -/
def macCountsWrong : ChangeSpec := { name := "macCounts", fn := fun _ => fun
  | [d1, d2, d3] => { results := [.lit (.bool false)], args := [d1, d2, d3] }
  | _ => none }
def MacCountsWrongFalsely : Prop := macCountsRow.holds Try.pinned (OpenSpec.ofChange macCountsWrong)

/- THE SECOND FORM. 'bulk': how many values and letters a reading holds, each counted each time it is reached (what is shared counts as often as it is met; a slice's spare places count too). A statement '..UptoSaid' is the law's where the arguments, and the package variables that the reading takes, are together of bulk at most 1048576: NARROWER than '..Said'. Prove '..Said' where nothing that the law and all that it calls make is longer than what came in: it says more and counts as full. Else prove '..UptoSaid'. A law counts once. -/
mutual
def uptoBulk {H : Type} : DataW H → Nat
  | .lit (.string bytes) => bytes.length + 1
  | .lit _ => 1
  | .nil => 1
  | .ptr d => uptoBulk d + 1
  | .slice elems spare => uptoBulkAll elems + uptoBulkAll spare + 1
  | .agg parts => uptoBulkAll parts + 1
  | .iface _ d => uptoBulk d + 1
  | .map entries => uptoBulkEntries entries + 1
  | .held _ => 1
def uptoBulkAll {H : Type} : List (DataW H) → Nat
  | [] => 0
  | d :: r => uptoBulk d + uptoBulkAll r
def uptoBulkEntries {H : Type} : List (Lit × DataW H) → Nat
  | [] => 0
  | x :: r => uptoBulkEntry x + uptoBulkEntries r
def uptoBulkEntry {H : Type} : Lit × DataW H → Nat
  | (.string bytes, d) => bytes.length + uptoBulk d + 1
  | (_, d) => uptoBulk d + 1
 end
def uptoSmall : (H : Type) → List (DataW H) → Bool := fun _ ds => decide (uptoBulkAll ds ≤ 1048576)
def OpenSpec.upto (s : _root_.Go.ChangeSpec) : _root_.Go.OpenSpec := { _root_.Go.OpenSpec.ofChange s with cond := some uptoSmall }

/-- 'homecominglaw06.ShaTells', WHERE WHAT IT READS IS OF BULK AT MOST 1048576: true; the input reads as it did. -/
def shaTellsUptoRow : OpenClaim := { program := "ytlcfambhjclkiaa", sum := "e9a5865f75fceca1c4cad837486d1a75045e6c1570ecbb1fef3c7903afa83de5", func := "homecoming/homecominglaw06.ShaTells", spec := "shaTells", inPlace := ["internal/abi.NoEscape", "internal/bytealg.MakeNoZero"], unfollowed := true, recurses := true, apart := false, narrowed := true }
def ShaTellsUptoSaid : Prop := shaTellsUptoRow.holds Try.pinned (OpenSpec.upto shaTellsSpec)

/-- 'homecominglaw06.ShaLengths', WHERE WHAT IT READS IS OF BULK AT MOST 1048576: true; the input reads as it did. -/
def shaLengthsUptoRow : OpenClaim := { program := "ytlcfambhjclkiaa", sum := "e9a5865f75fceca1c4cad837486d1a75045e6c1570ecbb1fef3c7903afa83de5", func := "homecoming/homecominglaw06.ShaLengths", spec := "shaLengths", inPlace := ["internal/abi.NoEscape", "internal/bytealg.MakeNoZero"], unfollowed := true, recurses := true, apart := false, narrowed := true }
def ShaLengthsUptoSaid : Prop := shaLengthsUptoRow.holds Try.pinned (OpenSpec.upto shaLengthsSpec)

/-- 'homecominglaw06.ShaParts', WHERE WHAT IT READS IS OF BULK AT MOST 1048576: true; the input reads as it did. -/
def shaPartsUptoRow : OpenClaim := { program := "ytlcfambhjclkiaa", sum := "e9a5865f75fceca1c4cad837486d1a75045e6c1570ecbb1fef3c7903afa83de5", func := "homecoming/homecominglaw06.ShaParts", spec := "shaParts", inPlace := ["internal/abi.NoEscape", "internal/bytealg.MakeNoZero"], unfollowed := true, recurses := true, apart := false, narrowed := true }
def ShaPartsUptoSaid : Prop := shaPartsUptoRow.holds Try.pinned (OpenSpec.upto shaPartsSpec)

/-- 'homecominglaw06.ShaHex', WHERE WHAT IT READS IS OF BULK AT MOST 1048576: true; the input reads as it did. -/
def shaHexUptoRow : OpenClaim := { program := "ytlcfambhjclkiaa", sum := "e9a5865f75fceca1c4cad837486d1a75045e6c1570ecbb1fef3c7903afa83de5", func := "homecoming/homecominglaw06.ShaHex", spec := "shaHex", inPlace := ["internal/abi.NoEscape", "internal/bytealg.MakeNoZero"], unfollowed := true, recurses := true, apart := false, narrowed := true }
def ShaHexUptoSaid : Prop := shaHexUptoRow.holds Try.pinned (OpenSpec.upto shaHexSpec)

/-- 'homecominglaw06.ShaBlocks', WHERE WHAT IT READS IS OF BULK AT MOST 1048576: true; the input reads as it did. -/
def shaBlocksUptoRow : OpenClaim := { program := "ytlcfambhjclkiaa", sum := "e9a5865f75fceca1c4cad837486d1a75045e6c1570ecbb1fef3c7903afa83de5", func := "homecoming/homecominglaw06.ShaBlocks", spec := "shaBlocks", inPlace := ["internal/abi.NoEscape", "internal/bytealg.MakeNoZero"], unfollowed := true, recurses := true, apart := false, narrowed := true }
def ShaBlocksUptoSaid : Prop := shaBlocksUptoRow.holds Try.pinned (OpenSpec.upto shaBlocksSpec)

/-- 'homecominglaw06.ShaMeters', WHERE WHAT IT READS IS OF BULK AT MOST 1048576: true; the input reads as it did. -/
def shaMetersUptoRow : OpenClaim := { program := "ytlcfambhjclkiaa", sum := "e9a5865f75fceca1c4cad837486d1a75045e6c1570ecbb1fef3c7903afa83de5", func := "homecoming/homecominglaw06.ShaMeters", spec := "shaMeters", inPlace := ["internal/abi.NoEscape", "internal/bytealg.MakeNoZero", "sync/atomic.AddInt64", "sync/atomic.LoadInt64"], unfollowed := true, recurses := true, apart := false, narrowed := true }
def ShaMetersUptoSaid : Prop := shaMetersUptoRow.holds Try.pinned (OpenSpec.upto shaMetersSpec)

/-- 'homecominglaw07.MacTells', WHERE WHAT IT READS IS OF BULK AT MOST 1048576: true; the input reads as it did. -/
def macTellsUptoRow : OpenClaim := { program := "ytlcfambhjclkiaa", sum := "e9a5865f75fceca1c4cad837486d1a75045e6c1570ecbb1fef3c7903afa83de5", func := "homecoming/homecominglaw07.MacTells", spec := "macTells", inPlace := ["sync/atomic.AddInt64", "internal/abi.NoEscape", "internal/bytealg.MakeNoZero"], unfollowed := true, recurses := true, apart := false, narrowed := true }
def MacTellsUptoSaid : Prop := macTellsUptoRow.holds Try.pinned (OpenSpec.upto macTellsSpec)

/-- 'homecominglaw07.MacKeys', WHERE WHAT IT READS IS OF BULK AT MOST 1048576: true; the input reads as it did. -/
def macKeysUptoRow : OpenClaim := { program := "ytlcfambhjclkiaa", sum := "e9a5865f75fceca1c4cad837486d1a75045e6c1570ecbb1fef3c7903afa83de5", func := "homecoming/homecominglaw07.MacKeys", spec := "macKeys", inPlace := ["sync/atomic.AddInt64", "internal/abi.NoEscape", "internal/bytealg.MakeNoZero"], unfollowed := true, recurses := true, apart := false, narrowed := true }
def MacKeysUptoSaid : Prop := macKeysUptoRow.holds Try.pinned (OpenSpec.upto macKeysSpec)

/-- 'homecominglaw07.MacEqual', WHERE WHAT IT READS IS OF BULK AT MOST 1048576: true; the input reads as it did. -/
def macEqualUptoRow : OpenClaim := { program := "ytlcfambhjclkiaa", sum := "e9a5865f75fceca1c4cad837486d1a75045e6c1570ecbb1fef3c7903afa83de5", func := "homecoming/homecominglaw07.MacEqual", spec := "macEqual", inPlace := ["sync/atomic.AddInt64", "internal/abi.NoEscape", "internal/bytealg.MakeNoZero"], unfollowed := true, recurses := true, apart := false, narrowed := true }
def MacEqualUptoSaid : Prop := macEqualUptoRow.holds Try.pinned (OpenSpec.upto macEqualSpec)

/-- 'homecominglaw07.MacSteps', WHERE WHAT IT READS IS OF BULK AT MOST 1048576: true; the input reads as it did. -/
def macStepsUptoRow : OpenClaim := { program := "ytlcfambhjclkiaa", sum := "e9a5865f75fceca1c4cad837486d1a75045e6c1570ecbb1fef3c7903afa83de5", func := "homecoming/homecominglaw07.MacSteps", spec := "macSteps", inPlace := ["sync/atomic.AddInt64", "internal/abi.NoEscape", "internal/bytealg.MakeNoZero"], unfollowed := true, recurses := true, apart := false, narrowed := true }
def MacStepsUptoSaid : Prop := macStepsUptoRow.holds Try.pinned (OpenSpec.upto macStepsSpec)

/-- 'homecominglaw07.MacCounts', WHERE WHAT IT READS IS OF BULK AT MOST 1048576: true; the input reads as it did. -/
def macCountsUptoRow : OpenClaim := { program := "ytlcfambhjclkiaa", sum := "e9a5865f75fceca1c4cad837486d1a75045e6c1570ecbb1fef3c7903afa83de5", func := "homecoming/homecominglaw07.MacCounts", spec := "macCounts", inPlace := ["sync/atomic.AddInt64", "internal/abi.NoEscape", "internal/bytealg.MakeNoZero", "sync/atomic.LoadInt64"], unfollowed := true, recurses := true, apart := false, narrowed := true }
def MacCountsUptoSaid : Prop := macCountsUptoRow.holds Try.pinned (OpenSpec.upto macCountsSpec)

end Rows
end Go.Proofs.Ytlcfambhjclkiaa
