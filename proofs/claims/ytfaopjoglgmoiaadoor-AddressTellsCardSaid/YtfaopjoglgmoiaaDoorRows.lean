/-
  NARROWER THAN 'FOR EVERY INPUT', by the rows' own cells (each row's printed sentence says how): AddressOnce: laid · AddressSame: laid · AddressSplits: laid · AddressTells: laid · AddressMasks: laid.
  DERIVED. THE GIVEN ROWS OF THIS SEAT. 5 by the template 'for every input the law returns true; each argument reads behind the call as it read before'; 0 by the template 'total and deterministic' (their statements: YtfaopjoglgmoiaaDoorTotals.lean).
  GIVEN WITH THE SEED: the statements are not yours to turn. If you find one false, say at which input.
  Laid BY PROGRAM, IN A SANDBOX (cutbox-rows.mjs): the forced cells as the released guide's own fill.sh prints them over the translation a11c7102b4550920… (all of the seat's roots in one cut). By AI agents, Wed Nov 11 2026. No macro, syntax, notation, axiom, sorry.
-/
import Derived.Test.YtfaopjoglgmoiaaDoorChecked
import GoSem.PinnedTables
import GoSem.Claim
import GoSem.ClaimJoined
import GoSem.ClaimMapViews
import Derived.JoinedTies
import Derived.KernelRfl
namespace Go.Proofs.YtfaopjoglgmoiaaDoor
/- THE CELL 'sum', in the pinned program and in every row, IS THE sha256 OF THE DUMP (.gsa) THAT YtfaopjoglgmoiaaDoorProg.lean LOADS. Nothing in Lean hashes anything: it is a label: what it is worth is what the hold of that sum in a sandbox is worth. -/
noncomputable def Tryd.pinned : Pinned := { name := "ytfaopjoglgmoiaadoor", sum := "a11c7102b455092097428178565685df4d94186eabb1a726a277ca2d2c302f63", checked := Tryd.checked }
namespace Rows
def none {H : Type} : Left H := { results := [], args := [] }

/- WHAT THE LISTED PACKAGE-LEVEL VARIABLES READ AS WHEN THE CALL BEGINS. Each datum BY PROGRAM (the guide's laid-datum.mjs) off the statement by which the dump's own 'gosem.cut.vars' lays the variable. In a bare row this is a premise. The card (YtfaopjoglgmoiaaDoorCards.lean) ties it to the program's text. -/
def laid_unicode_utf8_acceptRanges {H : Type} : DataW H := .agg [.agg [.lit (.int .u8 128), .lit (.int .u8 191)], .agg [.lit (.int .u8 160), .lit (.int .u8 191)], .agg [.lit (.int .u8 128), .lit (.int .u8 159)], .agg [.lit (.int .u8 144), .lit (.int .u8 191)], .agg [.lit (.int .u8 128), .lit (.int .u8 143)], .agg [.lit (.int .u8 0), .lit (.int .u8 0)], .agg [.lit (.int .u8 0), .lit (.int .u8 0)], .agg [.lit (.int .u8 0), .lit (.int .u8 0)], .agg [.lit (.int .u8 0), .lit (.int .u8 0)], .agg [.lit (.int .u8 0), .lit (.int .u8 0)], .agg [.lit (.int .u8 0), .lit (.int .u8 0)], .agg [.lit (.int .u8 0), .lit (.int .u8 0)], .agg [.lit (.int .u8 0), .lit (.int .u8 0)], .agg [.lit (.int .u8 0), .lit (.int .u8 0)], .agg [.lit (.int .u8 0), .lit (.int .u8 0)], .agg [.lit (.int .u8 0), .lit (.int .u8 0)]]
/-- One of Go's own tables, pinned by name: the form's constant. -/
def laid_unicode_utf8_first : DataW Unit := Go.Pinned.utf8First

/-- 'homecominglaw09.AddressOnce': WHATEVER THE INPUT: true; the input reads as it did. -/
def addressOnceSpec : ChangeSpec := { name := "addressOnce", fn := fun _ => fun
  | [d1, d2] => { results := [.lit (.bool true)], args := [d1, d2] }
  | _ => none }
def addressOnceRow : OpenClaim := { program := "ytfaopjoglgmoiaadoor", sum := "a11c7102b455092097428178565685df4d94186eabb1a726a277ca2d2c302f63", func := "homecoming/homecominglaw09.AddressOnce", spec := "addressOnce", inPlace := ["internal/bytealg.IndexByteString", "internal/bytealg.IndexString", "internal/bytealg.CountString", "internal/abi.NoEscape"], unfollowed := true, recurses := true, named := ["unicode/utf8.first", "unicode/utf8.acceptRanges", "internal/bytealg.MaxLen"], apart := false, laid := [("unicode/utf8.acceptRanges", laid_unicode_utf8_acceptRanges), ("unicode/utf8.first", laid_unicode_utf8_first)] }
def AddressOnceSaid : Prop := addressOnceRow.holds Tryd.pinned (OpenSpec.ofChange addressOnceSpec)

/-- ITS FALSE NEIGHBOUR: 'it returns false'. Refute it at one input. -/
def addressOnceWrong : ChangeSpec := { name := "addressOnce", fn := fun _ => fun
  | [d1, d2] => { results := [.lit (.bool false)], args := [d1, d2] }
  | _ => none }
def AddressOnceWrongFalsely : Prop := addressOnceRow.holds Tryd.pinned (OpenSpec.ofChange addressOnceWrong)

/-- 'homecominglaw09.AddressSame': WHATEVER THE INPUT: true; the input reads as it did. -/
def addressSameSpec : ChangeSpec := { name := "addressSame", fn := fun _ => fun
  | [d1, d2, d3] => { results := [.lit (.bool true)], args := [d1, d2, d3] }
  | _ => none }
def addressSameRow : OpenClaim := { program := "ytfaopjoglgmoiaadoor", sum := "a11c7102b455092097428178565685df4d94186eabb1a726a277ca2d2c302f63", func := "homecoming/homecominglaw09.AddressSame", spec := "addressSame", inPlace := ["internal/bytealg.IndexByteString", "internal/bytealg.IndexString", "internal/bytealg.CountString", "internal/abi.NoEscape"], unfollowed := true, recurses := true, named := ["unicode/utf8.first", "unicode/utf8.acceptRanges", "internal/bytealg.MaxLen"], apart := false, laid := [("unicode/utf8.acceptRanges", laid_unicode_utf8_acceptRanges), ("unicode/utf8.first", laid_unicode_utf8_first)] }
def AddressSameSaid : Prop := addressSameRow.holds Tryd.pinned (OpenSpec.ofChange addressSameSpec)

/-- ITS FALSE NEIGHBOUR: 'it returns false'. Refute it at one input. -/
def addressSameWrong : ChangeSpec := { name := "addressSame", fn := fun _ => fun
  | [d1, d2, d3] => { results := [.lit (.bool false)], args := [d1, d2, d3] }
  | _ => none }
def AddressSameWrongFalsely : Prop := addressSameRow.holds Tryd.pinned (OpenSpec.ofChange addressSameWrong)

/-- 'homecominglaw09.AddressSplits': WHATEVER THE INPUT: true; the input reads as it did. -/
def addressSplitsSpec : ChangeSpec := { name := "addressSplits", fn := fun _ => fun
  | [d1, d2] => { results := [.lit (.bool true)], args := [d1, d2] }
  | _ => none }
def addressSplitsRow : OpenClaim := { program := "ytfaopjoglgmoiaadoor", sum := "a11c7102b455092097428178565685df4d94186eabb1a726a277ca2d2c302f63", func := "homecoming/homecominglaw09.AddressSplits", spec := "addressSplits", inPlace := ["internal/bytealg.IndexByteString", "internal/bytealg.IndexString", "internal/bytealg.CountString", "internal/abi.NoEscape"], unfollowed := true, recurses := true, named := ["unicode/utf8.first", "unicode/utf8.acceptRanges", "internal/bytealg.MaxLen"], apart := false, laid := [("unicode/utf8.acceptRanges", laid_unicode_utf8_acceptRanges), ("unicode/utf8.first", laid_unicode_utf8_first)] }
def AddressSplitsSaid : Prop := addressSplitsRow.holds Tryd.pinned (OpenSpec.ofChange addressSplitsSpec)

/-- ITS FALSE NEIGHBOUR: 'it returns false'. Refute it at one input. -/
def addressSplitsWrong : ChangeSpec := { name := "addressSplits", fn := fun _ => fun
  | [d1, d2] => { results := [.lit (.bool false)], args := [d1, d2] }
  | _ => none }
def AddressSplitsWrongFalsely : Prop := addressSplitsRow.holds Tryd.pinned (OpenSpec.ofChange addressSplitsWrong)

/-- 'homecominglaw09.AddressTells': WHATEVER THE INPUT: true; the input reads as it did. -/
def addressTellsSpec : ChangeSpec := { name := "addressTells", fn := fun _ => fun
  | [d1, d2, d3] => { results := [.lit (.bool true)], args := [d1, d2, d3] }
  | _ => none }
def addressTellsRow : OpenClaim := { program := "ytfaopjoglgmoiaadoor", sum := "a11c7102b455092097428178565685df4d94186eabb1a726a277ca2d2c302f63", func := "homecoming/homecominglaw09.AddressTells", spec := "addressTells", inPlace := ["internal/bytealg.IndexByteString", "internal/bytealg.IndexString", "internal/bytealg.CountString", "internal/abi.NoEscape"], unfollowed := true, recurses := true, named := ["unicode/utf8.first", "unicode/utf8.acceptRanges", "internal/bytealg.MaxLen"], apart := false, laid := [("unicode/utf8.acceptRanges", laid_unicode_utf8_acceptRanges), ("unicode/utf8.first", laid_unicode_utf8_first)] }
def AddressTellsSaid : Prop := addressTellsRow.holds Tryd.pinned (OpenSpec.ofChange addressTellsSpec)

/-- ITS FALSE NEIGHBOUR: 'it returns false'. Refute it at one input. -/
def addressTellsWrong : ChangeSpec := { name := "addressTells", fn := fun _ => fun
  | [d1, d2, d3] => { results := [.lit (.bool false)], args := [d1, d2, d3] }
  | _ => none }
def AddressTellsWrongFalsely : Prop := addressTellsRow.holds Tryd.pinned (OpenSpec.ofChange addressTellsWrong)

/-- 'homecominglaw09.AddressMasks': WHATEVER THE INPUT: true; the input reads as it did. -/
def addressMasksSpec : ChangeSpec := { name := "addressMasks", fn := fun _ => fun
  | [d1, d2, d3] => { results := [.lit (.bool true)], args := [d1, d2, d3] }
  | _ => none }
def addressMasksRow : OpenClaim := { program := "ytfaopjoglgmoiaadoor", sum := "a11c7102b455092097428178565685df4d94186eabb1a726a277ca2d2c302f63", func := "homecoming/homecominglaw09.AddressMasks", spec := "addressMasks", inPlace := ["internal/bytealg.IndexByteString", "internal/bytealg.IndexString", "internal/bytealg.CountString", "internal/abi.NoEscape"], unfollowed := true, recurses := true, named := ["unicode/utf8.first", "unicode/utf8.acceptRanges", "internal/bytealg.MaxLen"], apart := false, laid := [("unicode/utf8.acceptRanges", laid_unicode_utf8_acceptRanges), ("unicode/utf8.first", laid_unicode_utf8_first)] }
def AddressMasksSaid : Prop := addressMasksRow.holds Tryd.pinned (OpenSpec.ofChange addressMasksSpec)

/-- ITS FALSE NEIGHBOUR: 'it returns false'. Refute it at one input. -/
def addressMasksWrong : ChangeSpec := { name := "addressMasks", fn := fun _ => fun
  | [d1, d2, d3] => { results := [.lit (.bool false)], args := [d1, d2, d3] }
  | _ => none }
def AddressMasksWrongFalsely : Prop := addressMasksRow.holds Tryd.pinned (OpenSpec.ofChange addressMasksWrong)

/- THE SECOND FORM. 'bulk': how many values and letters a reading holds, each counted each time it is reached (what is shared counts as often as it is met; a slice's spare places count too). A statement '..UptoSaid' is the law's where the arguments, and the package variables that the reading takes, are together of bulk at most 1048576: NARROWER than '..Said'. Prove '..Said' where nothing that the law and all that it calls make is longer than what came in: it says more and counts as full. Else prove '..UptoSaid'. A law counts once. -/
mutual
def uptoBulk {H : Type} : DataW H → Nat
  | .lit (.string bytes) => bytes.length + 1
  | .lit _ => 1
  | .nil => 1
  | .ptr d => uptoBulk d + 1
  | .slice elems spare => uptoBulkAll elems + uptoBulkAll spare + 1
  | .agg parts => uptoBulkAll parts + 1
  | .iface _ d => uptoBulk d + 1
  | .map entries => uptoBulkEntries entries + 1
  | .held _ => 1
def uptoBulkAll {H : Type} : List (DataW H) → Nat
  | [] => 0
  | d :: r => uptoBulk d + uptoBulkAll r
def uptoBulkEntries {H : Type} : List (Lit × DataW H) → Nat
  | [] => 0
  | x :: r => uptoBulkEntry x + uptoBulkEntries r
def uptoBulkEntry {H : Type} : Lit × DataW H → Nat
  | (.string bytes, d) => bytes.length + uptoBulk d + 1
  | (_, d) => uptoBulk d + 1
 end
def uptoSmall : (H : Type) → List (DataW H) → Bool := fun _ ds => decide (uptoBulkAll ds ≤ 1048576)
def OpenSpec.upto (s : _root_.Go.ChangeSpec) : _root_.Go.OpenSpec := { _root_.Go.OpenSpec.ofChange s with cond := some uptoSmall }

/-- 'homecominglaw09.AddressOnce', WHERE WHAT IT READS IS OF BULK AT MOST 1048576: true; the input reads as it did. -/
def addressOnceUptoRow : OpenClaim := { program := "ytfaopjoglgmoiaadoor", sum := "a11c7102b455092097428178565685df4d94186eabb1a726a277ca2d2c302f63", func := "homecoming/homecominglaw09.AddressOnce", spec := "addressOnce", inPlace := ["internal/bytealg.IndexByteString", "internal/bytealg.IndexString", "internal/bytealg.CountString", "internal/abi.NoEscape"], unfollowed := true, recurses := true, named := ["unicode/utf8.first", "unicode/utf8.acceptRanges", "internal/bytealg.MaxLen"], apart := false, laid := [("unicode/utf8.acceptRanges", laid_unicode_utf8_acceptRanges), ("unicode/utf8.first", laid_unicode_utf8_first)], narrowed := true }
def AddressOnceUptoSaid : Prop := addressOnceUptoRow.holds Tryd.pinned (OpenSpec.upto addressOnceSpec)

/-- 'homecominglaw09.AddressSame', WHERE WHAT IT READS IS OF BULK AT MOST 1048576: true; the input reads as it did. -/
def addressSameUptoRow : OpenClaim := { program := "ytfaopjoglgmoiaadoor", sum := "a11c7102b455092097428178565685df4d94186eabb1a726a277ca2d2c302f63", func := "homecoming/homecominglaw09.AddressSame", spec := "addressSame", inPlace := ["internal/bytealg.IndexByteString", "internal/bytealg.IndexString", "internal/bytealg.CountString", "internal/abi.NoEscape"], unfollowed := true, recurses := true, named := ["unicode/utf8.first", "unicode/utf8.acceptRanges", "internal/bytealg.MaxLen"], apart := false, laid := [("unicode/utf8.acceptRanges", laid_unicode_utf8_acceptRanges), ("unicode/utf8.first", laid_unicode_utf8_first)], narrowed := true }
def AddressSameUptoSaid : Prop := addressSameUptoRow.holds Tryd.pinned (OpenSpec.upto addressSameSpec)

/-- 'homecominglaw09.AddressSplits', WHERE WHAT IT READS IS OF BULK AT MOST 1048576: true; the input reads as it did. -/
def addressSplitsUptoRow : OpenClaim := { program := "ytfaopjoglgmoiaadoor", sum := "a11c7102b455092097428178565685df4d94186eabb1a726a277ca2d2c302f63", func := "homecoming/homecominglaw09.AddressSplits", spec := "addressSplits", inPlace := ["internal/bytealg.IndexByteString", "internal/bytealg.IndexString", "internal/bytealg.CountString", "internal/abi.NoEscape"], unfollowed := true, recurses := true, named := ["unicode/utf8.first", "unicode/utf8.acceptRanges", "internal/bytealg.MaxLen"], apart := false, laid := [("unicode/utf8.acceptRanges", laid_unicode_utf8_acceptRanges), ("unicode/utf8.first", laid_unicode_utf8_first)], narrowed := true }
def AddressSplitsUptoSaid : Prop := addressSplitsUptoRow.holds Tryd.pinned (OpenSpec.upto addressSplitsSpec)

/-- 'homecominglaw09.AddressTells', WHERE WHAT IT READS IS OF BULK AT MOST 1048576: true; the input reads as it did. -/
def addressTellsUptoRow : OpenClaim := { program := "ytfaopjoglgmoiaadoor", sum := "a11c7102b455092097428178565685df4d94186eabb1a726a277ca2d2c302f63", func := "homecoming/homecominglaw09.AddressTells", spec := "addressTells", inPlace := ["internal/bytealg.IndexByteString", "internal/bytealg.IndexString", "internal/bytealg.CountString", "internal/abi.NoEscape"], unfollowed := true, recurses := true, named := ["unicode/utf8.first", "unicode/utf8.acceptRanges", "internal/bytealg.MaxLen"], apart := false, laid := [("unicode/utf8.acceptRanges", laid_unicode_utf8_acceptRanges), ("unicode/utf8.first", laid_unicode_utf8_first)], narrowed := true }
def AddressTellsUptoSaid : Prop := addressTellsUptoRow.holds Tryd.pinned (OpenSpec.upto addressTellsSpec)

/-- 'homecominglaw09.AddressMasks', WHERE WHAT IT READS IS OF BULK AT MOST 1048576: true; the input reads as it did. -/
def addressMasksUptoRow : OpenClaim := { program := "ytfaopjoglgmoiaadoor", sum := "a11c7102b455092097428178565685df4d94186eabb1a726a277ca2d2c302f63", func := "homecoming/homecominglaw09.AddressMasks", spec := "addressMasks", inPlace := ["internal/bytealg.IndexByteString", "internal/bytealg.IndexString", "internal/bytealg.CountString", "internal/abi.NoEscape"], unfollowed := true, recurses := true, named := ["unicode/utf8.first", "unicode/utf8.acceptRanges", "internal/bytealg.MaxLen"], apart := false, laid := [("unicode/utf8.acceptRanges", laid_unicode_utf8_acceptRanges), ("unicode/utf8.first", laid_unicode_utf8_first)], narrowed := true }
def AddressMasksUptoSaid : Prop := addressMasksUptoRow.holds Tryd.pinned (OpenSpec.upto addressMasksSpec)

end Rows
end Go.Proofs.YtfaopjoglgmoiaaDoor
