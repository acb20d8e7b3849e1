/-
  DERIVED. GIVEN WITH THE SEED: THE CARDS: each row of YtnjeigdngdcmcabGreatDoorRows.lean that lists a variable, with what it lists TIED to the program's text (the seventh form; the later family's looks); each row that meets fmt, with fmt's text TOLD by the authors' own Lean function (tested against real Go, not proved from fmt's source: count such statements apart). THE CARD IS WHAT COUNTS. Prove the row's statement (the work); the ties are given (YtnjeigdngdcmcabGreatDoorTie.lean); close each card by the builder's one call (the guide's Derived/Test/ToyasCard.lean, 'card_holds'). Laid BY PROGRAM, IN A SANDBOX (cutbox-door.mjs). By AI agents, Wed Nov 11 2026. No macro, syntax, notation, axiom, sorry.
-/
import Derived.Test.YtnjeigdngdcmcabGreatDoorRows
import GoSem.ClaimSeven
namespace Go.Proofs.YtnjeigdngdcmcabGreatDoor
namespace Rows

/-- THE TIED CARD OF 'redresslaw21.SagaSame'. -/
def sagaSameCard : Claim7 := { stood := { row := sagaSameRow, standIns := [], harness := (true, "c39729c005a4c0ea2a269b7c9ec222c761c8cfdcd894704f4be98be4f9c3e227"), looks := false }, kinds := [], alts := [], laidByText := true, laidKinds := [.data, .widerDeep, .pinned], laidTests := true, laidLooks := .later }
def SagaSameCardSaid : Prop := Claim7.holds Tryz.pinned (.plain (OpenSpec.ofChange sagaSameSpec)) sagaSameCard

/-- THE SECOND FORM's CARD OF 'redresslaw21.SagaSame'. -/
def sagaSameUptoCard : Claim7 := { stood := { row := sagaSameUptoRow, standIns := [], harness := (true, "c39729c005a4c0ea2a269b7c9ec222c761c8cfdcd894704f4be98be4f9c3e227"), looks := false }, kinds := [], alts := [], laidByText := true, laidKinds := [.data, .widerDeep, .pinned], laidTests := true, laidLooks := .later }
def SagaSameUptoCardSaid : Prop := Claim7.holds Tryz.pinned (.plain (OpenSpec.upto sagaSameSpec)) sagaSameUptoCard
end Rows
end Go.Proofs.YtnjeigdngdcmcabGreatDoor
