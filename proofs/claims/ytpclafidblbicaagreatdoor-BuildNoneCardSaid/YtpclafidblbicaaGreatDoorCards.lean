/-
  DERIVED. GIVEN WITH THE SEED: THE CARDS: each row of YtpclafidblbicaaGreatDoorRows.lean that lists a variable, with what it lists TIED to the program's text (the seventh form; the later family's looks); each row that meets fmt, with fmt's text TOLD by the authors' own Lean function (tested against real Go, not proved from fmt's source: count such statements apart). THE CARD IS WHAT COUNTS. Prove the row's statement (the work); the ties are given (YtpclafidblbicaaGreatDoorTie.lean); close each card by the builder's one call (the guide's Derived/Test/ToyasCard.lean, 'card_holds'). Laid BY PROGRAM, IN A SANDBOX (cutbox-door.mjs). By AI agents, Wed Nov 11 2026. No macro, syntax, notation, axiom, sorry.
-/
import Derived.Test.YtpclafidblbicaaGreatDoorRows
import GoSem.ClaimSeven
namespace Go.Proofs.YtpclafidblbicaaGreatDoor
namespace Rows

/-- THE TIED CARD OF 'liverylaw24.BuildNone'. -/
def buildNoneCard : Claim7 := { stood := { row := buildNoneRow, standIns := [], harness := (true, "860430ef750c186ac68375c2b1b634fff00f3ad2660bad7134ac4b29b311a86d"), looks := false }, kinds := [], alts := [], laidByText := true, laidKinds := [.data, .pinned], laidTests := true, laidLooks := .later }
def BuildNoneCardSaid : Prop := Claim7.holds Tryz.pinned (.plain (OpenSpec.ofChange buildNoneSpec)) buildNoneCard

/-- THE SECOND FORM's CARD OF 'liverylaw24.BuildNone'. -/
def buildNoneUptoCard : Claim7 := { stood := { row := buildNoneUptoRow, standIns := [], harness := (true, "860430ef750c186ac68375c2b1b634fff00f3ad2660bad7134ac4b29b311a86d"), looks := false }, kinds := [], alts := [], laidByText := true, laidKinds := [.data, .pinned], laidTests := true, laidLooks := .later }
def BuildNoneUptoCardSaid : Prop := Claim7.holds Tryz.pinned (.plain (OpenSpec.upto buildNoneSpec)) buildNoneUptoCard
end Rows
end Go.Proofs.YtpclafidblbicaaGreatDoor
