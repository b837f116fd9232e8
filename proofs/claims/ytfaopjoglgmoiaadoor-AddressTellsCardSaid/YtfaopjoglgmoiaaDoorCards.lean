/-
  DERIVED. GIVEN WITH THE SEED: THE CARDS: each row of YtfaopjoglgmoiaaDoorRows.lean that lists a variable, with what it lists TIED to the program's text (the seventh form; the later family's looks); each row that meets fmt, with fmt's text TOLD by the authors' own Lean function (tested against real Go, not proved from fmt's source: count such statements apart). THE CARD IS WHAT COUNTS. Prove the row's statement (the work); the ties are given (YtfaopjoglgmoiaaDoorTie.lean); close each card by the builder's one call (the guide's Derived/Test/ToyasCard.lean, 'card_holds'). Laid BY PROGRAM, IN A SANDBOX (cutbox-door.mjs). By AI agents, Wed Nov 11 2026. No macro, syntax, notation, axiom, sorry.
-/
import Derived.Test.YtfaopjoglgmoiaaDoorRows
import GoSem.ClaimSeven
namespace Go.Proofs.YtfaopjoglgmoiaaDoor
namespace Rows

/-- THE TIED CARD OF 'homecominglaw09.AddressOnce'. -/
def addressOnceCard : Claim7 := { stood := { row := addressOnceRow, standIns := [], harness := (true, "e1d376a1a5b825a5f49b7942a49399272948835d7907eeaf94bbd52d731a5693"), looks := false }, kinds := [], alts := [], laidByText := true, laidKinds := [.data, .pinned], laidTests := true, laidLooks := .later }
def AddressOnceCardSaid : Prop := Claim7.holds Tryd.pinned (.plain (OpenSpec.ofChange addressOnceSpec)) addressOnceCard

/-- THE TIED CARD OF 'homecominglaw09.AddressSame'. -/
def addressSameCard : Claim7 := { stood := { row := addressSameRow, standIns := [], harness := (true, "e1d376a1a5b825a5f49b7942a49399272948835d7907eeaf94bbd52d731a5693"), looks := false }, kinds := [], alts := [], laidByText := true, laidKinds := [.data, .pinned], laidTests := true, laidLooks := .later }
def AddressSameCardSaid : Prop := Claim7.holds Tryd.pinned (.plain (OpenSpec.ofChange addressSameSpec)) addressSameCard

/-- THE TIED CARD OF 'homecominglaw09.AddressSplits'. -/
def addressSplitsCard : Claim7 := { stood := { row := addressSplitsRow, standIns := [], harness := (true, "e1d376a1a5b825a5f49b7942a49399272948835d7907eeaf94bbd52d731a5693"), looks := false }, kinds := [], alts := [], laidByText := true, laidKinds := [.data, .pinned], laidTests := true, laidLooks := .later }
def AddressSplitsCardSaid : Prop := Claim7.holds Tryd.pinned (.plain (OpenSpec.ofChange addressSplitsSpec)) addressSplitsCard

/-- THE TIED CARD OF 'homecominglaw09.AddressTells'. -/
def addressTellsCard : Claim7 := { stood := { row := addressTellsRow, standIns := [], harness := (true, "e1d376a1a5b825a5f49b7942a49399272948835d7907eeaf94bbd52d731a5693"), looks := false }, kinds := [], alts := [], laidByText := true, laidKinds := [.data, .pinned], laidTests := true, laidLooks := .later }
def AddressTellsCardSaid : Prop := Claim7.holds Tryd.pinned (.plain (OpenSpec.ofChange addressTellsSpec)) addressTellsCard

/-- THE TIED CARD OF 'homecominglaw09.AddressMasks'. -/
def addressMasksCard : Claim7 := { stood := { row := addressMasksRow, standIns := [], harness := (true, "e1d376a1a5b825a5f49b7942a49399272948835d7907eeaf94bbd52d731a5693"), looks := false }, kinds := [], alts := [], laidByText := true, laidKinds := [.data, .pinned], laidTests := true, laidLooks := .later }
def AddressMasksCardSaid : Prop := Claim7.holds Tryd.pinned (.plain (OpenSpec.ofChange addressMasksSpec)) addressMasksCard

/-- THE SECOND FORM's CARD OF 'homecominglaw09.AddressOnce'. -/
def addressOnceUptoCard : Claim7 := { stood := { row := addressOnceUptoRow, standIns := [], harness := (true, "e1d376a1a5b825a5f49b7942a49399272948835d7907eeaf94bbd52d731a5693"), looks := false }, kinds := [], alts := [], laidByText := true, laidKinds := [.data, .pinned], laidTests := true, laidLooks := .later }
def AddressOnceUptoCardSaid : Prop := Claim7.holds Tryd.pinned (.plain (OpenSpec.upto addressOnceSpec)) addressOnceUptoCard

/-- THE SECOND FORM's CARD OF 'homecominglaw09.AddressSame'. -/
def addressSameUptoCard : Claim7 := { stood := { row := addressSameUptoRow, standIns := [], harness := (true, "e1d376a1a5b825a5f49b7942a49399272948835d7907eeaf94bbd52d731a5693"), looks := false }, kinds := [], alts := [], laidByText := true, laidKinds := [.data, .pinned], laidTests := true, laidLooks := .later }
def AddressSameUptoCardSaid : Prop := Claim7.holds Tryd.pinned (.plain (OpenSpec.upto addressSameSpec)) addressSameUptoCard

/-- THE SECOND FORM's CARD OF 'homecominglaw09.AddressSplits'. -/
def addressSplitsUptoCard : Claim7 := { stood := { row := addressSplitsUptoRow, standIns := [], harness := (true, "e1d376a1a5b825a5f49b7942a49399272948835d7907eeaf94bbd52d731a5693"), looks := false }, kinds := [], alts := [], laidByText := true, laidKinds := [.data, .pinned], laidTests := true, laidLooks := .later }
def AddressSplitsUptoCardSaid : Prop := Claim7.holds Tryd.pinned (.plain (OpenSpec.upto addressSplitsSpec)) addressSplitsUptoCard

/-- THE SECOND FORM's CARD OF 'homecominglaw09.AddressTells'. -/
def addressTellsUptoCard : Claim7 := { stood := { row := addressTellsUptoRow, standIns := [], harness := (true, "e1d376a1a5b825a5f49b7942a49399272948835d7907eeaf94bbd52d731a5693"), looks := false }, kinds := [], alts := [], laidByText := true, laidKinds := [.data, .pinned], laidTests := true, laidLooks := .later }
def AddressTellsUptoCardSaid : Prop := Claim7.holds Tryd.pinned (.plain (OpenSpec.upto addressTellsSpec)) addressTellsUptoCard

/-- THE SECOND FORM's CARD OF 'homecominglaw09.AddressMasks'. -/
def addressMasksUptoCard : Claim7 := { stood := { row := addressMasksUptoRow, standIns := [], harness := (true, "e1d376a1a5b825a5f49b7942a49399272948835d7907eeaf94bbd52d731a5693"), looks := false }, kinds := [], alts := [], laidByText := true, laidKinds := [.data, .pinned], laidTests := true, laidLooks := .later }
def AddressMasksUptoCardSaid : Prop := Claim7.holds Tryd.pinned (.plain (OpenSpec.upto addressMasksSpec)) addressMasksUptoCard
end Rows
end Go.Proofs.YtfaopjoglgmoiaaDoor
