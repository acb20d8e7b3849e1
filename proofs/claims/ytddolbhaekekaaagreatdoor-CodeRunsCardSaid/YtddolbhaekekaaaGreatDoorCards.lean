/-
  DERIVED. GIVEN WITH THE SEED: THE CARDS: each row of YtddolbhaekekaaaGreatDoorRows.lean that lists a variable, with what it lists TIED to the program's text (the seventh form; the later family's looks); each row that meets fmt, with fmt's text TOLD by the authors' own Lean function (tested against real Go, not proved from fmt's source: count such statements apart). THE CARD IS WHAT COUNTS. Prove the row's statement (the work); the ties are given (YtddolbhaekekaaaGreatDoorTie.lean); close each card by the builder's one call (the guide's Derived/Test/ToyasCard.lean, 'card_holds'). Laid BY PROGRAM, IN A SANDBOX (cutbox-door.mjs). By AI agents, Wed Nov 11 2026. No macro, syntax, notation, axiom, sorry.
-/
import Derived.Test.YtddolbhaekekaaaGreatDoorRows
import GoSem.ClaimSeven
namespace Go.Proofs.YtddolbhaekekaaaGreatDoor
namespace Rows

/-- THE TIED CARD OF 'redresslaw19.CodeEncodes'. -/
def codeEncodesCard : Claim7 := { stood := { row := codeEncodesRow, standIns := [], harness := (true, "aa6a8e5d77fced8c75ea8e72d862bd8e383e3d5d2c935be157b42aeb9234d3c6"), looks := false }, kinds := [], alts := [], laidByText := true, laidKinds := [.data, .widerDeep, .pinned], laidTests := true, laidLooks := .later }
def CodeEncodesCardSaid : Prop := Claim7.holds Tryz.pinned (.plain (OpenSpec.ofChange codeEncodesSpec)) codeEncodesCard

/-- THE TIED CARD OF 'redresslaw19.CodeDecodes'. -/
def codeDecodesCard : Claim7 := { stood := { row := codeDecodesRow, standIns := [], harness := (true, "aa6a8e5d77fced8c75ea8e72d862bd8e383e3d5d2c935be157b42aeb9234d3c6"), looks := false }, kinds := [], alts := [], laidByText := true, laidKinds := [.data, .widerDeep, .pinned], laidTests := true, laidLooks := .later }
def CodeDecodesCardSaid : Prop := Claim7.holds Tryz.pinned (.plain (OpenSpec.ofChange codeDecodesSpec)) codeDecodesCard

/-- THE TIED CARD OF 'redresslaw19.CodeRuns'. -/
def codeRunsCard : Claim7 := { stood := { row := codeRunsRow, standIns := [], harness := (true, "aa6a8e5d77fced8c75ea8e72d862bd8e383e3d5d2c935be157b42aeb9234d3c6"), looks := false }, kinds := [], alts := [], laidByText := true, laidKinds := [.data, .widerDeep, .pinned], laidTests := true, laidLooks := .later }
def CodeRunsCardSaid : Prop := Claim7.holds Tryz.pinned (.plain (OpenSpec.ofChange codeRunsSpec)) codeRunsCard

/-- THE SECOND FORM's CARD OF 'redresslaw19.CodeEncodes'. -/
def codeEncodesUptoCard : Claim7 := { stood := { row := codeEncodesUptoRow, standIns := [], harness := (true, "aa6a8e5d77fced8c75ea8e72d862bd8e383e3d5d2c935be157b42aeb9234d3c6"), looks := false }, kinds := [], alts := [], laidByText := true, laidKinds := [.data, .widerDeep, .pinned], laidTests := true, laidLooks := .later }
def CodeEncodesUptoCardSaid : Prop := Claim7.holds Tryz.pinned (.plain (OpenSpec.upto codeEncodesSpec)) codeEncodesUptoCard

/-- THE SECOND FORM's CARD OF 'redresslaw19.CodeDecodes'. -/
def codeDecodesUptoCard : Claim7 := { stood := { row := codeDecodesUptoRow, standIns := [], harness := (true, "aa6a8e5d77fced8c75ea8e72d862bd8e383e3d5d2c935be157b42aeb9234d3c6"), looks := false }, kinds := [], alts := [], laidByText := true, laidKinds := [.data, .widerDeep, .pinned], laidTests := true, laidLooks := .later }
def CodeDecodesUptoCardSaid : Prop := Claim7.holds Tryz.pinned (.plain (OpenSpec.upto codeDecodesSpec)) codeDecodesUptoCard

/-- THE SECOND FORM's CARD OF 'redresslaw19.CodeRuns'. -/
def codeRunsUptoCard : Claim7 := { stood := { row := codeRunsUptoRow, standIns := [], harness := (true, "aa6a8e5d77fced8c75ea8e72d862bd8e383e3d5d2c935be157b42aeb9234d3c6"), looks := false }, kinds := [], alts := [], laidByText := true, laidKinds := [.data, .widerDeep, .pinned], laidTests := true, laidLooks := .later }
def CodeRunsUptoCardSaid : Prop := Claim7.holds Tryz.pinned (.plain (OpenSpec.upto codeRunsSpec)) codeRunsUptoCard
end Rows
end Go.Proofs.YtddolbhaekekaaaGreatDoor
