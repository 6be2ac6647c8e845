/-
  DERIVED. GIVEN WITH THE SEED: THE CARDS: each row of YtligooejegmmpaaGreatDoorRows.lean that lists a variable, with what it lists TIED to the program's text (the seventh form; the later family's looks); each row that meets fmt, with fmt's text TOLD by the authors' own Lean function (tested against real Go, not proved from fmt's source: count such statements apart). THE CARD IS WHAT COUNTS. Prove the row's statement (the work); the ties are given (YtligooejegmmpaaGreatDoorTie.lean); close each card by the builder's one call (the guide's Derived/Test/ToyasCard.lean, 'card_holds'). Laid BY PROGRAM, IN A SANDBOX (cutbox-door.mjs). By AI agents, Wed Nov 11 2026. No macro, syntax, notation, axiom, sorry.
-/
import Derived.Test.YtligooejegmmpaaGreatDoorRows
import GoSem.ClaimSeven
namespace Go.Proofs.YtligooejegmmpaaGreatDoor
namespace Rows

/-- THE TIED CARD OF 'liverylaw25.SessNone'. -/
def sessNoneCard : Claim7 := { stood := { row := sessNoneRow, standIns := [], harness := (true, "e11a82243058af9d0c83aca1a90167db231ca7955b5eb8901af08cd5bdfd6219"), looks := false }, kinds := [], alts := [], laidByText := true, laidKinds := [.data, .pinned], laidTests := true, laidLooks := .later }
def SessNoneCardSaid : Prop := Claim7.holds Tryz.pinned (.plain (OpenSpec.ofChange sessNoneSpec)) sessNoneCard

/-- THE TIED CARD OF 'liverylaw26.EngineNone'. -/
def engineNoneCard : Claim7 := { stood := { row := engineNoneRow, standIns := [], harness := (true, "e11a82243058af9d0c83aca1a90167db231ca7955b5eb8901af08cd5bdfd6219"), looks := false }, kinds := [], alts := [], laidByText := true, laidKinds := [.data, .pinned], laidTests := true, laidLooks := .later }
def EngineNoneCardSaid : Prop := Claim7.holds Tryz.pinned (.plain (OpenSpec.ofChange engineNoneSpec)) engineNoneCard

/-- THE SECOND FORM's CARD OF 'liverylaw25.SessNone'. -/
def sessNoneUptoCard : Claim7 := { stood := { row := sessNoneUptoRow, standIns := [], harness := (true, "e11a82243058af9d0c83aca1a90167db231ca7955b5eb8901af08cd5bdfd6219"), looks := false }, kinds := [], alts := [], laidByText := true, laidKinds := [.data, .pinned], laidTests := true, laidLooks := .later }
def SessNoneUptoCardSaid : Prop := Claim7.holds Tryz.pinned (.plain (OpenSpec.upto sessNoneSpec)) sessNoneUptoCard

/-- THE SECOND FORM's CARD OF 'liverylaw26.EngineNone'. -/
def engineNoneUptoCard : Claim7 := { stood := { row := engineNoneUptoRow, standIns := [], harness := (true, "e11a82243058af9d0c83aca1a90167db231ca7955b5eb8901af08cd5bdfd6219"), looks := false }, kinds := [], alts := [], laidByText := true, laidKinds := [.data, .pinned], laidTests := true, laidLooks := .later }
def EngineNoneUptoCardSaid : Prop := Claim7.holds Tryz.pinned (.plain (OpenSpec.upto engineNoneSpec)) engineNoneUptoCard
end Rows
end Go.Proofs.YtligooejegmmpaaGreatDoor
