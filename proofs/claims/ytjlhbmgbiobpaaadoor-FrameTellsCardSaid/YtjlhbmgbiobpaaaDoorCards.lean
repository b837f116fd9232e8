/-
  DERIVED. GIVEN WITH THE SEED: THE CARDS: each row of YtjlhbmgbiobpaaaDoorRows.lean that lists a variable, with what it lists TIED to the program's text (the seventh form; the later family's looks); each row that meets fmt, with fmt's text TOLD by the authors' own Lean function (tested against real Go, not proved from fmt's source: count such statements apart). THE CARD IS WHAT COUNTS. Prove the row's statement (the work); the ties are given (YtjlhbmgbiobpaaaDoorTie.lean); close each card by the builder's one call (the guide's Derived/Test/ToyasCard.lean, 'card_holds'). Laid BY PROGRAM, IN A SANDBOX (cutbox-door.mjs). By AI agents, Wed Nov 11 2026. No macro, syntax, notation, axiom, sorry.
-/
import Derived.Test.YtjlhbmgbiobpaaaDoorRows
import GoSem.ClaimSeven
namespace Go.Proofs.YtjlhbmgbiobpaaaDoor
namespace Rows

/-- THE TIED CARD OF 'homecominglaw04.FrameGone'. -/
def frameGoneCard : Claim7 := { stood := { row := frameGoneRow, standIns := [], harness := (true, "6e43f18aebb3537b3f29b06d47317351265affacc404bf81cf7cd4d79a3fdf7b"), looks := false }, kinds := [], alts := [], laidByText := true, laidKinds := [.data, .pinned], laidTests := true, laidLooks := .later }
def FrameGoneCardSaid : Prop := Claim7.holds Tryd.pinned (.plain (OpenSpec.ofChange frameGoneSpec)) frameGoneCard

/-- THE TIED CARD OF 'homecominglaw04.FrameTells'. -/
def frameTellsCard : Claim7 := { stood := { row := frameTellsRow, standIns := [], harness := (true, "6e43f18aebb3537b3f29b06d47317351265affacc404bf81cf7cd4d79a3fdf7b"), looks := false }, kinds := [], alts := [], laidByText := true, laidKinds := [.data, .pinned], laidTests := true, laidLooks := .later }
def FrameTellsCardSaid : Prop := Claim7.holds Tryd.pinned (.plain (OpenSpec.ofChange frameTellsSpec)) frameTellsCard

/-- THE SECOND FORM's CARD OF 'homecominglaw04.FrameGone'. -/
def frameGoneUptoCard : Claim7 := { stood := { row := frameGoneUptoRow, standIns := [], harness := (true, "6e43f18aebb3537b3f29b06d47317351265affacc404bf81cf7cd4d79a3fdf7b"), looks := false }, kinds := [], alts := [], laidByText := true, laidKinds := [.data, .pinned], laidTests := true, laidLooks := .later }
def FrameGoneUptoCardSaid : Prop := Claim7.holds Tryd.pinned (.plain (OpenSpec.upto frameGoneSpec)) frameGoneUptoCard

/-- THE SECOND FORM's CARD OF 'homecominglaw04.FrameTells'. -/
def frameTellsUptoCard : Claim7 := { stood := { row := frameTellsUptoRow, standIns := [], harness := (true, "6e43f18aebb3537b3f29b06d47317351265affacc404bf81cf7cd4d79a3fdf7b"), looks := false }, kinds := [], alts := [], laidByText := true, laidKinds := [.data, .pinned], laidTests := true, laidLooks := .later }
def FrameTellsUptoCardSaid : Prop := Claim7.holds Tryd.pinned (.plain (OpenSpec.upto frameTellsSpec)) frameTellsUptoCard
end Rows
end Go.Proofs.YtjlhbmgbiobpaaaDoor
