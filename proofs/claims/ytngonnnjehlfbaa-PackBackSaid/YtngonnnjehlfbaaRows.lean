/-
  No cell of these rows narrows 'for every input' (looked for: loops, veiled, ifaces, maps, wideKeys, modest, calm, conditions, laid).
  DERIVED. THE GIVEN ROWS OF THIS SEAT. 12 by the template 'for every input the law returns true; each argument reads behind the call as it read before'; 0 by the template 'total and deterministic' (their statements: YtngonnnjehlfbaaTotals.lean).
  GIVEN WITH THE SEED: the statements are not yours to turn. If you find one false, say at which input.
  Laid BY PROGRAM, IN A SANDBOX (cutbox-rows.mjs): the forced cells as the released guide's own fill.sh prints them over the translation a1e09f027297675f… (all of the seat's roots in one cut). By AI agents, Wed Nov 11 2026. No macro, syntax, notation, axiom, sorry.
-/
import Derived.Test.YtngonnnjehlfbaaChecked
import GoSem.Claim
import GoSem.ClaimJoined
import GoSem.ClaimMapViews
import Derived.JoinedTies
import Derived.KernelRfl
namespace Go.Proofs.Ytngonnnjehlfbaa
/- THE CELL 'sum', in the pinned program and in every row, IS THE sha256 OF THE DUMP (.gsa) THAT YtngonnnjehlfbaaProg.lean LOADS. Nothing in Lean hashes anything: it is a label: what it is worth is what the hold of that sum in a sandbox is worth. -/
noncomputable def Try.pinned : Pinned := { name := "ytngonnnjehlfbaa", sum := "a1e09f027297675f77eae206af375e6ffa6ac4e5a2feb7361d418d347a661792", checked := Try.checked }
namespace Rows
def none {H : Type} : Left H := { results := [], args := [] }

/-- 'homecominglaw03.PackOrder': WHATEVER THE INPUT: true; the input reads as it did. -/
def packOrderSpec : ChangeSpec := { name := "packOrder", fn := fun _ => fun
  | [d1, d2] => { results := [.lit (.bool true)], args := [d1, d2] }
  | _ => none }
def packOrderRow : OpenClaim := { program := "ytngonnnjehlfbaa", sum := "a1e09f027297675f77eae206af375e6ffa6ac4e5a2feb7361d418d347a661792", func := "homecoming/homecominglaw03.PackOrder", spec := "packOrder", inPlace := ["internal/abi.NoEscape"], apart := false }
def PackOrderSaid : Prop := packOrderRow.holds Try.pinned (OpenSpec.ofChange packOrderSpec)

/-- ITS FALSE NEIGHBOUR: 'it returns false'. Refute it at one input. -/
def packOrderWrong : ChangeSpec := { name := "packOrder", fn := fun _ => fun
  | [d1, d2] => { results := [.lit (.bool false)], args := [d1, d2] }
  | _ => none }
def PackOrderWrongFalsely : Prop := packOrderRow.holds Try.pinned (OpenSpec.ofChange packOrderWrong)

/-- 'homecominglaw03.PackWrites': WHATEVER THE INPUT: true; the input reads as it did. -/
def packWritesSpec : ChangeSpec := { name := "packWrites", fn := fun _ => fun
  | [d1, d2] => { results := [.lit (.bool true)], args := [d1, d2] }
  | _ => none }
def packWritesRow : OpenClaim := { program := "ytngonnnjehlfbaa", sum := "a1e09f027297675f77eae206af375e6ffa6ac4e5a2feb7361d418d347a661792", func := "homecoming/homecominglaw03.PackWrites", spec := "packWrites", inPlace := ["internal/abi.NoEscape"], recurses := true, apart := false }
def PackWritesSaid : Prop := packWritesRow.holds Try.pinned (OpenSpec.ofChange packWritesSpec)

/-- ITS FALSE NEIGHBOUR: 'it returns false'. Refute it at one input. -/
def packWritesWrong : ChangeSpec := { name := "packWrites", fn := fun _ => fun
  | [d1, d2] => { results := [.lit (.bool false)], args := [d1, d2] }
  | _ => none }
def PackWritesWrongFalsely : Prop := packWritesRow.holds Try.pinned (OpenSpec.ofChange packWritesWrong)

/-- 'homecominglaw03.PackTwo': WHATEVER THE INPUT: true; the input reads as it did. -/
def packTwoSpec : ChangeSpec := { name := "packTwo", fn := fun _ => fun
  | [d1, d2] => { results := [.lit (.bool true)], args := [d1, d2] }
  | _ => none }
def packTwoRow : OpenClaim := { program := "ytngonnnjehlfbaa", sum := "a1e09f027297675f77eae206af375e6ffa6ac4e5a2feb7361d418d347a661792", func := "homecoming/homecominglaw03.PackTwo", spec := "packTwo", inPlace := ["internal/abi.NoEscape"], apart := false }
def PackTwoSaid : Prop := packTwoRow.holds Try.pinned (OpenSpec.ofChange packTwoSpec)

/-- ITS FALSE NEIGHBOUR: 'it returns false'. Refute it at one input. -/
def packTwoWrong : ChangeSpec := { name := "packTwo", fn := fun _ => fun
  | [d1, d2] => { results := [.lit (.bool false)], args := [d1, d2] }
  | _ => none }
def PackTwoWrongFalsely : Prop := packTwoRow.holds Try.pinned (OpenSpec.ofChange packTwoWrong)

/-- 'homecominglaw15.EventNames': WHATEVER THE INPUT: true; the input reads as it did. -/
def eventNamesSpec : ChangeSpec := { name := "eventNames", fn := fun _ => fun
  | [d1, d2] => { results := [.lit (.bool true)], args := [d1, d2] }
  | _ => none }
def eventNamesRow : OpenClaim := { program := "ytngonnnjehlfbaa", sum := "a1e09f027297675f77eae206af375e6ffa6ac4e5a2feb7361d418d347a661792", func := "homecoming/homecominglaw15.EventNames", spec := "eventNames", inPlace := ["internal/abi.NoEscape"], apart := false }
def EventNamesSaid : Prop := eventNamesRow.holds Try.pinned (OpenSpec.ofChange eventNamesSpec)

/-- ITS FALSE NEIGHBOUR: 'it returns false'. Refute it at one input. -/
def eventNamesWrong : ChangeSpec := { name := "eventNames", fn := fun _ => fun
  | [d1, d2] => { results := [.lit (.bool false)], args := [d1, d2] }
  | _ => none }
def EventNamesWrongFalsely : Prop := eventNamesRow.holds Try.pinned (OpenSpec.ofChange eventNamesWrong)

/-- 'homecominglaw15.EventFits': WHATEVER THE INPUT: true; the input reads as it did. -/
def eventFitsSpec : ChangeSpec := { name := "eventFits", fn := fun _ => fun
  | [d] => { results := [.lit (.bool true)], args := [d] }
  | _ => none }
def eventFitsRow : OpenClaim := { program := "ytngonnnjehlfbaa", sum := "a1e09f027297675f77eae206af375e6ffa6ac4e5a2feb7361d418d347a661792", func := "homecoming/homecominglaw15.EventFits", spec := "eventFits", inPlace := ["internal/abi.NoEscape"], apart := false }
def EventFitsSaid : Prop := eventFitsRow.holds Try.pinned (OpenSpec.ofChange eventFitsSpec)

/-- ITS FALSE NEIGHBOUR: 'it returns false'. Refute it at one input. -/
def eventFitsWrong : ChangeSpec := { name := "eventFits", fn := fun _ => fun
  | [d] => { results := [.lit (.bool false)], args := [d] }
  | _ => none }
def EventFitsWrongFalsely : Prop := eventFitsRow.holds Try.pinned (OpenSpec.ofChange eventFitsWrong)

/-- 'homecominglaw15.EventTells': WHATEVER THE INPUT: true; the input reads as it did. -/
def eventTellsSpec : ChangeSpec := { name := "eventTells", fn := fun _ => fun
  | [d1, d2] => { results := [.lit (.bool true)], args := [d1, d2] }
  | _ => none }
def eventTellsRow : OpenClaim := { program := "ytngonnnjehlfbaa", sum := "a1e09f027297675f77eae206af375e6ffa6ac4e5a2feb7361d418d347a661792", func := "homecoming/homecominglaw15.EventTells", spec := "eventTells", inPlace := ["internal/abi.NoEscape"], recurses := true, apart := false }
def EventTellsSaid : Prop := eventTellsRow.holds Try.pinned (OpenSpec.ofChange eventTellsSpec)

/-- ITS FALSE NEIGHBOUR: 'it returns false'. Refute it at one input. -/
def eventTellsWrong : ChangeSpec := { name := "eventTells", fn := fun _ => fun
  | [d1, d2] => { results := [.lit (.bool false)], args := [d1, d2] }
  | _ => none }
def EventTellsWrongFalsely : Prop := eventTellsRow.holds Try.pinned (OpenSpec.ofChange eventTellsWrong)

/-- 'homecominglaw03.PackOnce': WHATEVER THE INPUT: true; the input reads as it did. -/
def packOnceSpec : ChangeSpec := { name := "packOnce", fn := fun _ => fun
  | [d1, d2] => { results := [.lit (.bool true)], args := [d1, d2] }
  | _ => none }
def packOnceRow : OpenClaim := { program := "ytngonnnjehlfbaa", sum := "a1e09f027297675f77eae206af375e6ffa6ac4e5a2feb7361d418d347a661792", func := "homecoming/homecominglaw03.PackOnce", spec := "packOnce", inPlace := ["internal/abi.NoEscape"], apart := false }
def PackOnceSaid : Prop := packOnceRow.holds Try.pinned (OpenSpec.ofChange packOnceSpec)

/-- ITS FALSE NEIGHBOUR: 'it returns false'. Refute it at one input. -/
def packOnceWrong : ChangeSpec := { name := "packOnce", fn := fun _ => fun
  | [d1, d2] => { results := [.lit (.bool false)], args := [d1, d2] }
  | _ => none }
def PackOnceWrongFalsely : Prop := packOnceRow.holds Try.pinned (OpenSpec.ofChange packOnceWrong)

/-- 'homecominglaw03.PackReads': WHATEVER THE INPUT: true; the input reads as it did. -/
def packReadsSpec : ChangeSpec := { name := "packReads", fn := fun _ => fun
  | [d1, d2] => { results := [.lit (.bool true)], args := [d1, d2] }
  | _ => none }
def packReadsRow : OpenClaim := { program := "ytngonnnjehlfbaa", sum := "a1e09f027297675f77eae206af375e6ffa6ac4e5a2feb7361d418d347a661792", func := "homecoming/homecominglaw03.PackReads", spec := "packReads", inPlace := ["internal/abi.NoEscape"], apart := false }
def PackReadsSaid : Prop := packReadsRow.holds Try.pinned (OpenSpec.ofChange packReadsSpec)

/-- ITS FALSE NEIGHBOUR: 'it returns false'. Refute it at one input. -/
def packReadsWrong : ChangeSpec := { name := "packReads", fn := fun _ => fun
  | [d1, d2] => { results := [.lit (.bool false)], args := [d1, d2] }
  | _ => none }
def PackReadsWrongFalsely : Prop := packReadsRow.holds Try.pinned (OpenSpec.ofChange packReadsWrong)

/-- 'homecominglaw03.PackBack': WHATEVER THE INPUT: true; the input reads as it did. -/
def packBackSpec : ChangeSpec := { name := "packBack", fn := fun _ => fun
  | [d1, d2, d3] => { results := [.lit (.bool true)], args := [d1, d2, d3] }
  | _ => none }
def packBackRow : OpenClaim := { program := "ytngonnnjehlfbaa", sum := "a1e09f027297675f77eae206af375e6ffa6ac4e5a2feb7361d418d347a661792", func := "homecoming/homecominglaw03.PackBack", spec := "packBack", inPlace := ["internal/abi.NoEscape"], apart := false }
def PackBackSaid : Prop := packBackRow.holds Try.pinned (OpenSpec.ofChange packBackSpec)

/-- ITS FALSE NEIGHBOUR: 'it returns false'. Refute it at one input. -/
def packBackWrong : ChangeSpec := { name := "packBack", fn := fun _ => fun
  | [d1, d2, d3] => { results := [.lit (.bool false)], args := [d1, d2, d3] }
  | _ => none }
def PackBackWrongFalsely : Prop := packBackRow.holds Try.pinned (OpenSpec.ofChange packBackWrong)

/-- 'homecominglaw15.EventReads': WHATEVER THE INPUT: true; the input reads as it did. -/
def eventReadsSpec : ChangeSpec := { name := "eventReads", fn := fun _ => fun
  | [d1, d2, d3] => { results := [.lit (.bool true)], args := [d1, d2, d3] }
  | _ => none }
def eventReadsRow : OpenClaim := { program := "ytngonnnjehlfbaa", sum := "a1e09f027297675f77eae206af375e6ffa6ac4e5a2feb7361d418d347a661792", func := "homecoming/homecominglaw15.EventReads", spec := "eventReads", inPlace := ["internal/abi.NoEscape"], unfollowed := true, recurses := true, apart := false }
def EventReadsSaid : Prop := eventReadsRow.holds Try.pinned (OpenSpec.ofChange eventReadsSpec)

/-- ITS FALSE NEIGHBOUR: 'it returns false'. Refute it at one input. -/
def eventReadsWrong : ChangeSpec := { name := "eventReads", fn := fun _ => fun
  | [d1, d2, d3] => { results := [.lit (.bool false)], args := [d1, d2, d3] }
  | _ => none }
def EventReadsWrongFalsely : Prop := eventReadsRow.holds Try.pinned (OpenSpec.ofChange eventReadsWrong)

/-- 'homecominglaw15.EventBack': WHATEVER THE INPUT: true; the input reads as it did. -/
def eventBackSpec : ChangeSpec := { name := "eventBack", fn := fun _ => fun
  | [d1, d2] => { results := [.lit (.bool true)], args := [d1, d2] }
  | _ => none }
def eventBackRow : OpenClaim := { program := "ytngonnnjehlfbaa", sum := "a1e09f027297675f77eae206af375e6ffa6ac4e5a2feb7361d418d347a661792", func := "homecoming/homecominglaw15.EventBack", spec := "eventBack", inPlace := ["internal/abi.NoEscape"], unfollowed := true, recurses := true, apart := false }
def EventBackSaid : Prop := eventBackRow.holds Try.pinned (OpenSpec.ofChange eventBackSpec)

/-- ITS FALSE NEIGHBOUR: 'it returns false'. Refute it at one input. -/
def eventBackWrong : ChangeSpec := { name := "eventBack", fn := fun _ => fun
  | [d1, d2] => { results := [.lit (.bool false)], args := [d1, d2] }
  | _ => none }
def EventBackWrongFalsely : Prop := eventBackRow.holds Try.pinned (OpenSpec.ofChange eventBackWrong)

/-- 'homecominglaw15.EventOnce': WHATEVER THE INPUT: true; the input reads as it did. -/
def eventOnceSpec : ChangeSpec := { name := "eventOnce", fn := fun _ => fun
  | [d] => { results := [.lit (.bool true)], args := [d] }
  | _ => none }
def eventOnceRow : OpenClaim := { program := "ytngonnnjehlfbaa", sum := "a1e09f027297675f77eae206af375e6ffa6ac4e5a2feb7361d418d347a661792", func := "homecoming/homecominglaw15.EventOnce", spec := "eventOnce", inPlace := ["internal/abi.NoEscape"], unfollowed := true, recurses := true, apart := false }
def EventOnceSaid : Prop := eventOnceRow.holds Try.pinned (OpenSpec.ofChange eventOnceSpec)

/-- ITS FALSE NEIGHBOUR: 'it returns false'. Refute it at one input. -/
def eventOnceWrong : ChangeSpec := { name := "eventOnce", fn := fun _ => fun
  | [d] => { results := [.lit (.bool false)], args := [d] }
  | _ => none }
def EventOnceWrongFalsely : Prop := eventOnceRow.holds Try.pinned (OpenSpec.ofChange eventOnceWrong)

/- THE SECOND FORM. 'bulk': how many values and letters a reading holds, each counted each time it is reached (what is shared counts as often as it is met; a slice's spare places count too). A statement '..UptoSaid' is the law's where the arguments, and the package variables that the reading takes, are together of bulk at most 1048576: NARROWER than '..Said'. Prove '..Said' where nothing that the law and all that it calls make is longer than what came in: it says more and counts as full. Else prove '..UptoSaid'. A law counts once. -/
mutual
def uptoBulk {H : Type} : DataW H → Nat
  | .lit (.string bytes) => bytes.length + 1
  | .lit _ => 1
  | .nil => 1
  | .ptr d => uptoBulk d + 1
  | .slice elems spare => uptoBulkAll elems + uptoBulkAll spare + 1
  | .agg parts => uptoBulkAll parts + 1
  | .iface _ d => uptoBulk d + 1
  | .map entries => uptoBulkEntries entries + 1
  | .held _ => 1
def uptoBulkAll {H : Type} : List (DataW H) → Nat
  | [] => 0
  | d :: r => uptoBulk d + uptoBulkAll r
def uptoBulkEntries {H : Type} : List (Lit × DataW H) → Nat
  | [] => 0
  | x :: r => uptoBulkEntry x + uptoBulkEntries r
def uptoBulkEntry {H : Type} : Lit × DataW H → Nat
  | (.string bytes, d) => bytes.length + uptoBulk d + 1
  | (_, d) => uptoBulk d + 1
 end
def uptoSmall : (H : Type) → List (DataW H) → Bool := fun _ ds => decide (uptoBulkAll ds ≤ 1048576)
def OpenSpec.upto (s : _root_.Go.ChangeSpec) : _root_.Go.OpenSpec := { _root_.Go.OpenSpec.ofChange s with cond := some uptoSmall }

/-- 'homecominglaw03.PackOrder', WHERE WHAT IT READS IS OF BULK AT MOST 1048576: true; the input reads as it did. -/
def packOrderUptoRow : OpenClaim := { program := "ytngonnnjehlfbaa", sum := "a1e09f027297675f77eae206af375e6ffa6ac4e5a2feb7361d418d347a661792", func := "homecoming/homecominglaw03.PackOrder", spec := "packOrder", inPlace := ["internal/abi.NoEscape"], apart := false, narrowed := true }
def PackOrderUptoSaid : Prop := packOrderUptoRow.holds Try.pinned (OpenSpec.upto packOrderSpec)

/-- 'homecominglaw03.PackWrites', WHERE WHAT IT READS IS OF BULK AT MOST 1048576: true; the input reads as it did. -/
def packWritesUptoRow : OpenClaim := { program := "ytngonnnjehlfbaa", sum := "a1e09f027297675f77eae206af375e6ffa6ac4e5a2feb7361d418d347a661792", func := "homecoming/homecominglaw03.PackWrites", spec := "packWrites", inPlace := ["internal/abi.NoEscape"], recurses := true, apart := false, narrowed := true }
def PackWritesUptoSaid : Prop := packWritesUptoRow.holds Try.pinned (OpenSpec.upto packWritesSpec)

/-- 'homecominglaw03.PackTwo', WHERE WHAT IT READS IS OF BULK AT MOST 1048576: true; the input reads as it did. -/
def packTwoUptoRow : OpenClaim := { program := "ytngonnnjehlfbaa", sum := "a1e09f027297675f77eae206af375e6ffa6ac4e5a2feb7361d418d347a661792", func := "homecoming/homecominglaw03.PackTwo", spec := "packTwo", inPlace := ["internal/abi.NoEscape"], apart := false, narrowed := true }
def PackTwoUptoSaid : Prop := packTwoUptoRow.holds Try.pinned (OpenSpec.upto packTwoSpec)

/-- 'homecominglaw15.EventNames', WHERE WHAT IT READS IS OF BULK AT MOST 1048576: true; the input reads as it did. -/
def eventNamesUptoRow : OpenClaim := { program := "ytngonnnjehlfbaa", sum := "a1e09f027297675f77eae206af375e6ffa6ac4e5a2feb7361d418d347a661792", func := "homecoming/homecominglaw15.EventNames", spec := "eventNames", inPlace := ["internal/abi.NoEscape"], apart := false, narrowed := true }
def EventNamesUptoSaid : Prop := eventNamesUptoRow.holds Try.pinned (OpenSpec.upto eventNamesSpec)

/-- 'homecominglaw15.EventFits', WHERE WHAT IT READS IS OF BULK AT MOST 1048576: true; the input reads as it did. -/
def eventFitsUptoRow : OpenClaim := { program := "ytngonnnjehlfbaa", sum := "a1e09f027297675f77eae206af375e6ffa6ac4e5a2feb7361d418d347a661792", func := "homecoming/homecominglaw15.EventFits", spec := "eventFits", inPlace := ["internal/abi.NoEscape"], apart := false, narrowed := true }
def EventFitsUptoSaid : Prop := eventFitsUptoRow.holds Try.pinned (OpenSpec.upto eventFitsSpec)

/-- 'homecominglaw15.EventTells', WHERE WHAT IT READS IS OF BULK AT MOST 1048576: true; the input reads as it did. -/
def eventTellsUptoRow : OpenClaim := { program := "ytngonnnjehlfbaa", sum := "a1e09f027297675f77eae206af375e6ffa6ac4e5a2feb7361d418d347a661792", func := "homecoming/homecominglaw15.EventTells", spec := "eventTells", inPlace := ["internal/abi.NoEscape"], recurses := true, apart := false, narrowed := true }
def EventTellsUptoSaid : Prop := eventTellsUptoRow.holds Try.pinned (OpenSpec.upto eventTellsSpec)

/-- 'homecominglaw03.PackOnce', WHERE WHAT IT READS IS OF BULK AT MOST 1048576: true; the input reads as it did. -/
def packOnceUptoRow : OpenClaim := { program := "ytngonnnjehlfbaa", sum := "a1e09f027297675f77eae206af375e6ffa6ac4e5a2feb7361d418d347a661792", func := "homecoming/homecominglaw03.PackOnce", spec := "packOnce", inPlace := ["internal/abi.NoEscape"], apart := false, narrowed := true }
def PackOnceUptoSaid : Prop := packOnceUptoRow.holds Try.pinned (OpenSpec.upto packOnceSpec)

/-- 'homecominglaw03.PackReads', WHERE WHAT IT READS IS OF BULK AT MOST 1048576: true; the input reads as it did. -/
def packReadsUptoRow : OpenClaim := { program := "ytngonnnjehlfbaa", sum := "a1e09f027297675f77eae206af375e6ffa6ac4e5a2feb7361d418d347a661792", func := "homecoming/homecominglaw03.PackReads", spec := "packReads", inPlace := ["internal/abi.NoEscape"], apart := false, narrowed := true }
def PackReadsUptoSaid : Prop := packReadsUptoRow.holds Try.pinned (OpenSpec.upto packReadsSpec)

/-- 'homecominglaw03.PackBack', WHERE WHAT IT READS IS OF BULK AT MOST 1048576: true; the input reads as it did. -/
def packBackUptoRow : OpenClaim := { program := "ytngonnnjehlfbaa", sum := "a1e09f027297675f77eae206af375e6ffa6ac4e5a2feb7361d418d347a661792", func := "homecoming/homecominglaw03.PackBack", spec := "packBack", inPlace := ["internal/abi.NoEscape"], apart := false, narrowed := true }
def PackBackUptoSaid : Prop := packBackUptoRow.holds Try.pinned (OpenSpec.upto packBackSpec)

/-- 'homecominglaw15.EventReads', WHERE WHAT IT READS IS OF BULK AT MOST 1048576: true; the input reads as it did. -/
def eventReadsUptoRow : OpenClaim := { program := "ytngonnnjehlfbaa", sum := "a1e09f027297675f77eae206af375e6ffa6ac4e5a2feb7361d418d347a661792", func := "homecoming/homecominglaw15.EventReads", spec := "eventReads", inPlace := ["internal/abi.NoEscape"], unfollowed := true, recurses := true, apart := false, narrowed := true }
def EventReadsUptoSaid : Prop := eventReadsUptoRow.holds Try.pinned (OpenSpec.upto eventReadsSpec)

/-- 'homecominglaw15.EventBack', WHERE WHAT IT READS IS OF BULK AT MOST 1048576: true; the input reads as it did. -/
def eventBackUptoRow : OpenClaim := { program := "ytngonnnjehlfbaa", sum := "a1e09f027297675f77eae206af375e6ffa6ac4e5a2feb7361d418d347a661792", func := "homecoming/homecominglaw15.EventBack", spec := "eventBack", inPlace := ["internal/abi.NoEscape"], unfollowed := true, recurses := true, apart := false, narrowed := true }
def EventBackUptoSaid : Prop := eventBackUptoRow.holds Try.pinned (OpenSpec.upto eventBackSpec)

/-- 'homecominglaw15.EventOnce', WHERE WHAT IT READS IS OF BULK AT MOST 1048576: true; the input reads as it did. -/
def eventOnceUptoRow : OpenClaim := { program := "ytngonnnjehlfbaa", sum := "a1e09f027297675f77eae206af375e6ffa6ac4e5a2feb7361d418d347a661792", func := "homecoming/homecominglaw15.EventOnce", spec := "eventOnce", inPlace := ["internal/abi.NoEscape"], unfollowed := true, recurses := true, apart := false, narrowed := true }
def EventOnceUptoSaid : Prop := eventOnceUptoRow.holds Try.pinned (OpenSpec.upto eventOnceSpec)

end Rows
end Go.Proofs.Ytngonnnjehlfbaa
