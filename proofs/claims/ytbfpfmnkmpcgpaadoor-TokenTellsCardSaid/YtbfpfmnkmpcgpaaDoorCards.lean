/-
  DERIVED. GIVEN WITH THE SEED: THE CARDS: each row of YtbfpfmnkmpcgpaaDoorRows.lean that lists a variable, with what it lists TIED to the program's text (the seventh form; the later family's looks); each row that meets fmt, with fmt's text TOLD by the authors' own Lean function (tested against real Go, not proved from fmt's source: count such statements apart). THE CARD IS WHAT COUNTS. Prove the row's statement (the work); the ties are given (YtbfpfmnkmpcgpaaDoorTie.lean); close each card by the builder's one call (the guide's Derived/Test/ToyasCard.lean, 'card_holds'). Laid BY PROGRAM, IN A SANDBOX (cutbox-door.mjs). By AI agents, Wed Nov 11 2026. No macro, syntax, notation, axiom, sorry.
-/
import Derived.Test.YtbfpfmnkmpcgpaaDoorRows
import GoSem.ClaimSeven
namespace Go.Proofs.YtbfpfmnkmpcgpaaDoor
namespace Rows

/-- THE TIED CARD OF 'homecominglaw08.TokenCodes'. -/
def tokenCodesCard : Claim7 := { stood := { row := tokenCodesRow, standIns := [], harness := (true, "8d2ad63c9b9256078b9979cb50701dfe094d6b9a4741794ff8255232ab64b618"), looks := false }, kinds := [], alts := [], laidByText := true, laidKinds := [.data, .data, .data, .data, .pinned], laidTests := true, laidLooks := .later }
def TokenCodesCardSaid : Prop := Claim7.holds Tryd.pinned (.plain (OpenSpec.ofChange tokenCodesSpec)) tokenCodesCard

/-- THE TIED CARD OF 'homecominglaw08.TokenTells'. -/
def tokenTellsCard : Claim7 := { stood := { row := tokenTellsRow, standIns := [], harness := (true, "8d2ad63c9b9256078b9979cb50701dfe094d6b9a4741794ff8255232ab64b618"), looks := false }, kinds := [], alts := [], laidByText := true, laidKinds := [.data, .data, .data, .data, .pinned], laidTests := true, laidLooks := .later }
def TokenTellsCardSaid : Prop := Claim7.holds Tryd.pinned (.plain (OpenSpec.ofChange tokenTellsSpec)) tokenTellsCard

/-- THE SECOND FORM's CARD OF 'homecominglaw08.TokenCodes'. -/
def tokenCodesUptoCard : Claim7 := { stood := { row := tokenCodesUptoRow, standIns := [], harness := (true, "8d2ad63c9b9256078b9979cb50701dfe094d6b9a4741794ff8255232ab64b618"), looks := false }, kinds := [], alts := [], laidByText := true, laidKinds := [.data, .data, .data, .data, .pinned], laidTests := true, laidLooks := .later }
def TokenCodesUptoCardSaid : Prop := Claim7.holds Tryd.pinned (.plain (OpenSpec.upto tokenCodesSpec)) tokenCodesUptoCard

/-- THE SECOND FORM's CARD OF 'homecominglaw08.TokenTells'. -/
def tokenTellsUptoCard : Claim7 := { stood := { row := tokenTellsUptoRow, standIns := [], harness := (true, "8d2ad63c9b9256078b9979cb50701dfe094d6b9a4741794ff8255232ab64b618"), looks := false }, kinds := [], alts := [], laidByText := true, laidKinds := [.data, .data, .data, .data, .pinned], laidTests := true, laidLooks := .later }
def TokenTellsUptoCardSaid : Prop := Claim7.holds Tryd.pinned (.plain (OpenSpec.upto tokenTellsSpec)) tokenTellsUptoCard
end Rows
end Go.Proofs.YtbfpfmnkmpcgpaaDoor
