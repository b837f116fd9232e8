/-
  DERIVED. GIVEN WITH THE SEED: THE CARDS: each row of YtbeoegppldjpoaaDoorRows.lean that lists a variable, with what it lists TIED to the program's text (the seventh form; the later family's looks); each row that meets fmt, with fmt's text TOLD by the authors' own Lean function (tested against real Go, not proved from fmt's source: count such statements apart). THE CARD IS WHAT COUNTS. Prove the row's statement (the work); the ties are given (YtbeoegppldjpoaaDoorTie.lean); close each card by the builder's one call (the guide's Derived/Test/ToyasCard.lean, 'card_holds'). Laid BY PROGRAM, IN A SANDBOX (cutbox-door.mjs). By AI agents, Wed Nov 11 2026. No macro, syntax, notation, axiom, sorry.
-/
import Derived.Test.YtbeoegppldjpoaaDoorRows
import GoSem.ClaimSeven
namespace Go.Proofs.YtbeoegppldjpoaaDoor
namespace Rows

/-- THE TIED CARD OF 'homecominglaw19.WireClean'. -/
def wireCleanCard : Claim7 := { stood := { row := wireCleanRow, standIns := [], harness := (true, "aa57ce63ba4367fe0a6d73227c74817184d6aaed88ee666aab46e7775eb04df7"), looks := false }, kinds := [], alts := [], laidByText := true, laidKinds := [.data, .pinned], laidTests := true, laidLooks := .later }
def WireCleanCardSaid : Prop := Claim7.holds Tryd.pinned (.plain (OpenSpec.ofChange wireCleanSpec)) wireCleanCard

/-- THE TIED CARD OF 'homecominglaw19.WireTells'. -/
def wireTellsCard : Claim7 := { stood := { row := wireTellsRow, standIns := [], harness := (true, "aa57ce63ba4367fe0a6d73227c74817184d6aaed88ee666aab46e7775eb04df7"), looks := false }, kinds := [], alts := [], laidByText := true, laidKinds := [.data, .pinned], laidTests := true, laidLooks := .later }
def WireTellsCardSaid : Prop := Claim7.holds Tryd.pinned (.plain (OpenSpec.ofChange wireTellsSpec)) wireTellsCard

/-- THE SECOND FORM's CARD OF 'homecominglaw19.WireClean'. -/
def wireCleanUptoCard : Claim7 := { stood := { row := wireCleanUptoRow, standIns := [], harness := (true, "aa57ce63ba4367fe0a6d73227c74817184d6aaed88ee666aab46e7775eb04df7"), looks := false }, kinds := [], alts := [], laidByText := true, laidKinds := [.data, .pinned], laidTests := true, laidLooks := .later }
def WireCleanUptoCardSaid : Prop := Claim7.holds Tryd.pinned (.plain (OpenSpec.upto wireCleanSpec)) wireCleanUptoCard

/-- THE SECOND FORM's CARD OF 'homecominglaw19.WireTells'. -/
def wireTellsUptoCard : Claim7 := { stood := { row := wireTellsUptoRow, standIns := [], harness := (true, "aa57ce63ba4367fe0a6d73227c74817184d6aaed88ee666aab46e7775eb04df7"), looks := false }, kinds := [], alts := [], laidByText := true, laidKinds := [.data, .pinned], laidTests := true, laidLooks := .later }
def WireTellsUptoCardSaid : Prop := Claim7.holds Tryd.pinned (.plain (OpenSpec.upto wireTellsSpec)) wireTellsUptoCard
end Rows
end Go.Proofs.YtbeoegppldjpoaaDoor
