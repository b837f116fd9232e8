/-
  No cell of these rows narrows 'for every input' (looked for: loops, veiled, ifaces, maps, wideKeys, modest, calm, conditions, laid).
  DERIVED. THE GIVEN ROWS OF THIS SEAT. 5 by the template 'for every input the law returns true; each argument reads behind the call as it read before'; 0 by the template 'total and deterministic' (their statements: YtbfpfmnkmpcgpaaTotals.lean).
  GIVEN WITH THE SEED: the statements are not yours to turn. If you find one false, say at which input.
  Laid BY PROGRAM, IN A SANDBOX (cutbox-rows.mjs): the forced cells as the released guide's own fill.sh prints them over the translation 9cfa88f5dc57fdaf… (all of the seat's roots in one cut). By AI agents, Wed Nov 11 2026. No macro, syntax, notation, axiom, sorry.
-/
import Derived.Test.YtbfpfmnkmpcgpaaChecked
import GoSem.Claim
import GoSem.ClaimJoined
import GoSem.ClaimMapViews
import Derived.JoinedTies
import Derived.KernelRfl
namespace Go.Proofs.Ytbfpfmnkmpcgpaa
/- THE CELL 'sum', in the pinned program and in every row, IS THE sha256 OF THE DUMP (.gsa) THAT YtbfpfmnkmpcgpaaProg.lean LOADS. Nothing in Lean hashes anything: it is a label: what it is worth is what the hold of that sum in a sandbox is worth. -/
noncomputable def Try.pinned : Pinned := { name := "ytbfpfmnkmpcgpaa", sum := "9cfa88f5dc57fdaf528b0d555cdb90748a6511dd89cd5eb7c9dc241784bce905", checked := Try.checked }
namespace Rows
def none {H : Type} : Left H := { results := [], args := [] }

/-- 'homecominglaw08.TokenParts': WHATEVER THE INPUT: true; the input reads as it did. -/
def tokenPartsSpec : ChangeSpec := { name := "tokenParts", fn := fun _ => fun
  | [d1, d2] => { results := [.lit (.bool true)], args := [d1, d2] }
  | _ => none }
def tokenPartsRow : OpenClaim := { program := "ytbfpfmnkmpcgpaa", sum := "9cfa88f5dc57fdaf528b0d555cdb90748a6511dd89cd5eb7c9dc241784bce905", func := "homecoming/homecominglaw08.TokenParts", spec := "tokenParts", inPlace := ["internal/abi.NoEscape"], unfollowed := true, recurses := true, apart := false }
def TokenPartsSaid : Prop := tokenPartsRow.holds Try.pinned (OpenSpec.ofChange tokenPartsSpec)

/-- ITS FALSE NEIGHBOUR: 'it returns false'. Refute it at one input. -/
def tokenPartsWrong : ChangeSpec := { name := "tokenParts", fn := fun _ => fun
  | [d1, d2] => { results := [.lit (.bool false)], args := [d1, d2] }
  | _ => none }
def TokenPartsWrongFalsely : Prop := tokenPartsRow.holds Try.pinned (OpenSpec.ofChange tokenPartsWrong)

/-- 'homecominglaw08.TokenBack': WHATEVER THE INPUT: true; the input reads as it did. -/
def tokenBackSpec : ChangeSpec := { name := "tokenBack", fn := fun _ => fun
  | [d] => { results := [.lit (.bool true)], args := [d] }
  | _ => none }
def tokenBackRow : OpenClaim := { program := "ytbfpfmnkmpcgpaa", sum := "9cfa88f5dc57fdaf528b0d555cdb90748a6511dd89cd5eb7c9dc241784bce905", func := "homecoming/homecominglaw08.TokenBack", spec := "tokenBack", inPlace := ["internal/abi.NoEscape", "internal/bytealg.IndexByteString", "internal/bytealg.IndexString"], unfollowed := true, recurses := true, named := ["internal/bytealg.MaxLen"], apart := false }
def TokenBackSaid : Prop := tokenBackRow.holds Try.pinned (OpenSpec.ofChange tokenBackSpec)

/-- ITS FALSE NEIGHBOUR: 'it returns false'. Refute it at one input. -/
def tokenBackWrong : ChangeSpec := { name := "tokenBack", fn := fun _ => fun
  | [d] => { results := [.lit (.bool false)], args := [d] }
  | _ => none }
def TokenBackWrongFalsely : Prop := tokenBackRow.holds Try.pinned (OpenSpec.ofChange tokenBackWrong)

/-- 'homecominglaw08.TokenOnce': WHATEVER THE INPUT: true; the input reads as it did. -/
def tokenOnceSpec : ChangeSpec := { name := "tokenOnce", fn := fun _ => fun
  | [d1, d2, d3] => { results := [.lit (.bool true)], args := [d1, d2, d3] }
  | _ => none }
def tokenOnceRow : OpenClaim := { program := "ytbfpfmnkmpcgpaa", sum := "9cfa88f5dc57fdaf528b0d555cdb90748a6511dd89cd5eb7c9dc241784bce905", func := "homecoming/homecominglaw08.TokenOnce", spec := "tokenOnce", inPlace := ["internal/abi.NoEscape", "internal/bytealg.IndexByteString", "internal/bytealg.IndexString"], unfollowed := true, recurses := true, named := ["internal/bytealg.MaxLen"], apart := false }
def TokenOnceSaid : Prop := tokenOnceRow.holds Try.pinned (OpenSpec.ofChange tokenOnceSpec)

/-- ITS FALSE NEIGHBOUR: 'it returns false'. Refute it at one input. -/
def tokenOnceWrong : ChangeSpec := { name := "tokenOnce", fn := fun _ => fun
  | [d1, d2, d3] => { results := [.lit (.bool false)], args := [d1, d2, d3] }
  | _ => none }
def TokenOnceWrongFalsely : Prop := tokenOnceRow.holds Try.pinned (OpenSpec.ofChange tokenOnceWrong)

/-- 'homecominglaw08.TokenGroups': WHATEVER THE INPUT: true; the input reads as it did. -/
def tokenGroupsSpec : ChangeSpec := { name := "tokenGroups", fn := fun _ => fun
  | [d1, d2, d3] => { results := [.lit (.bool true)], args := [d1, d2, d3] }
  | _ => none }
def tokenGroupsRow : OpenClaim := { program := "ytbfpfmnkmpcgpaa", sum := "9cfa88f5dc57fdaf528b0d555cdb90748a6511dd89cd5eb7c9dc241784bce905", func := "homecoming/homecominglaw08.TokenGroups", spec := "tokenGroups", inPlace := ["internal/abi.NoEscape", "internal/bytealg.IndexByteString", "internal/bytealg.IndexString"], unfollowed := true, recurses := true, named := ["internal/bytealg.MaxLen"], apart := false }
def TokenGroupsSaid : Prop := tokenGroupsRow.holds Try.pinned (OpenSpec.ofChange tokenGroupsSpec)

/-- ITS FALSE NEIGHBOUR: 'it returns false'. Refute it at one input. -/
def tokenGroupsWrong : ChangeSpec := { name := "tokenGroups", fn := fun _ => fun
  | [d1, d2, d3] => { results := [.lit (.bool false)], args := [d1, d2, d3] }
  | _ => none }
def TokenGroupsWrongFalsely : Prop := tokenGroupsRow.holds Try.pinned (OpenSpec.ofChange tokenGroupsWrong)

/-- 'homecominglaw08.TokenClean': WHATEVER THE INPUT: true; the input reads as it did. -/
def tokenCleanSpec : ChangeSpec := { name := "tokenClean", fn := fun _ => fun
  | [d1, d2, d3] => { results := [.lit (.bool true)], args := [d1, d2, d3] }
  | _ => none }
def tokenCleanRow : OpenClaim := { program := "ytbfpfmnkmpcgpaa", sum := "9cfa88f5dc57fdaf528b0d555cdb90748a6511dd89cd5eb7c9dc241784bce905", func := "homecoming/homecominglaw08.TokenClean", spec := "tokenClean", inPlace := ["internal/abi.NoEscape", "internal/bytealg.IndexByteString", "internal/bytealg.IndexString"], unfollowed := true, recurses := true, named := ["internal/bytealg.MaxLen"], apart := false }
def TokenCleanSaid : Prop := tokenCleanRow.holds Try.pinned (OpenSpec.ofChange tokenCleanSpec)

/-- ITS FALSE NEIGHBOUR: 'it returns false'. Refute it at one input. -/
def tokenCleanWrong : ChangeSpec := { name := "tokenClean", fn := fun _ => fun
  | [d1, d2, d3] => { results := [.lit (.bool false)], args := [d1, d2, d3] }
  | _ => none }
def TokenCleanWrongFalsely : Prop := tokenCleanRow.holds Try.pinned (OpenSpec.ofChange tokenCleanWrong)

/- THE SECOND FORM. 'bulk': how many values and letters a reading holds, each counted each time it is reached (what is shared counts as often as it is met; a slice's spare places count too). A statement '..UptoSaid' is the law's where the arguments, and the package variables that the reading takes, are together of bulk at most 1048576: NARROWER than '..Said'. Prove '..Said' where nothing that the law and all that it calls make is longer than what came in: it says more and counts as full. Else prove '..UptoSaid'. A law counts once. -/
mutual
def uptoBulk {H : Type} : DataW H → Nat
  | .lit (.string bytes) => bytes.length + 1
  | .lit _ => 1
  | .nil => 1
  | .ptr d => uptoBulk d + 1
  | .slice elems spare => uptoBulkAll elems + uptoBulkAll spare + 1
  | .agg parts => uptoBulkAll parts + 1
  | .iface _ d => uptoBulk d + 1
  | .map entries => uptoBulkEntries entries + 1
  | .held _ => 1
def uptoBulkAll {H : Type} : List (DataW H) → Nat
  | [] => 0
  | d :: r => uptoBulk d + uptoBulkAll r
def uptoBulkEntries {H : Type} : List (Lit × DataW H) → Nat
  | [] => 0
  | x :: r => uptoBulkEntry x + uptoBulkEntries r
def uptoBulkEntry {H : Type} : Lit × DataW H → Nat
  | (.string bytes, d) => bytes.length + uptoBulk d + 1
  | (_, d) => uptoBulk d + 1
 end
def uptoSmall : (H : Type) → List (DataW H) → Bool := fun _ ds => decide (uptoBulkAll ds ≤ 1048576)
def OpenSpec.upto (s : _root_.Go.ChangeSpec) : _root_.Go.OpenSpec := { _root_.Go.OpenSpec.ofChange s with cond := some uptoSmall }

/-- 'homecominglaw08.TokenParts', WHERE WHAT IT READS IS OF BULK AT MOST 1048576: true; the input reads as it did. -/
def tokenPartsUptoRow : OpenClaim := { program := "ytbfpfmnkmpcgpaa", sum := "9cfa88f5dc57fdaf528b0d555cdb90748a6511dd89cd5eb7c9dc241784bce905", func := "homecoming/homecominglaw08.TokenParts", spec := "tokenParts", inPlace := ["internal/abi.NoEscape"], unfollowed := true, recurses := true, apart := false, narrowed := true }
def TokenPartsUptoSaid : Prop := tokenPartsUptoRow.holds Try.pinned (OpenSpec.upto tokenPartsSpec)

/-- 'homecominglaw08.TokenBack', WHERE WHAT IT READS IS OF BULK AT MOST 1048576: true; the input reads as it did. -/
def tokenBackUptoRow : OpenClaim := { program := "ytbfpfmnkmpcgpaa", sum := "9cfa88f5dc57fdaf528b0d555cdb90748a6511dd89cd5eb7c9dc241784bce905", func := "homecoming/homecominglaw08.TokenBack", spec := "tokenBack", inPlace := ["internal/abi.NoEscape", "internal/bytealg.IndexByteString", "internal/bytealg.IndexString"], unfollowed := true, recurses := true, named := ["internal/bytealg.MaxLen"], apart := false, narrowed := true }
def TokenBackUptoSaid : Prop := tokenBackUptoRow.holds Try.pinned (OpenSpec.upto tokenBackSpec)

/-- 'homecominglaw08.TokenOnce', WHERE WHAT IT READS IS OF BULK AT MOST 1048576: true; the input reads as it did. -/
def tokenOnceUptoRow : OpenClaim := { program := "ytbfpfmnkmpcgpaa", sum := "9cfa88f5dc57fdaf528b0d555cdb90748a6511dd89cd5eb7c9dc241784bce905", func := "homecoming/homecominglaw08.TokenOnce", spec := "tokenOnce", inPlace := ["internal/abi.NoEscape", "internal/bytealg.IndexByteString", "internal/bytealg.IndexString"], unfollowed := true, recurses := true, named := ["internal/bytealg.MaxLen"], apart := false, narrowed := true }
def TokenOnceUptoSaid : Prop := tokenOnceUptoRow.holds Try.pinned (OpenSpec.upto tokenOnceSpec)

/-- 'homecominglaw08.TokenGroups', WHERE WHAT IT READS IS OF BULK AT MOST 1048576: true; the input reads as it did. -/
def tokenGroupsUptoRow : OpenClaim := { program := "ytbfpfmnkmpcgpaa", sum := "9cfa88f5dc57fdaf528b0d555cdb90748a6511dd89cd5eb7c9dc241784bce905", func := "homecoming/homecominglaw08.TokenGroups", spec := "tokenGroups", inPlace := ["internal/abi.NoEscape", "internal/bytealg.IndexByteString", "internal/bytealg.IndexString"], unfollowed := true, recurses := true, named := ["internal/bytealg.MaxLen"], apart := false, narrowed := true }
def TokenGroupsUptoSaid : Prop := tokenGroupsUptoRow.holds Try.pinned (OpenSpec.upto tokenGroupsSpec)

/-- 'homecominglaw08.TokenClean', WHERE WHAT IT READS IS OF BULK AT MOST 1048576: true; the input reads as it did. -/
def tokenCleanUptoRow : OpenClaim := { program := "ytbfpfmnkmpcgpaa", sum := "9cfa88f5dc57fdaf528b0d555cdb90748a6511dd89cd5eb7c9dc241784bce905", func := "homecoming/homecominglaw08.TokenClean", spec := "tokenClean", inPlace := ["internal/abi.NoEscape", "internal/bytealg.IndexByteString", "internal/bytealg.IndexString"], unfollowed := true, recurses := true, named := ["internal/bytealg.MaxLen"], apart := false, narrowed := true }
def TokenCleanUptoSaid : Prop := tokenCleanUptoRow.holds Try.pinned (OpenSpec.upto tokenCleanSpec)

end Rows
end Go.Proofs.Ytbfpfmnkmpcgpaa
