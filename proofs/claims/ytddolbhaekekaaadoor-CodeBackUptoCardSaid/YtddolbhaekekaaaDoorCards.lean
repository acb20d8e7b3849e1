/-
  DERIVED. GIVEN WITH THE SEED: THE CARDS: each row of YtddolbhaekekaaaDoorRows.lean that lists a variable, with what it lists TIED to the program's text (the seventh form; the later family's looks); each row that meets fmt, with fmt's text TOLD by the authors' own Lean function (tested against real Go, not proved from fmt's source: count such statements apart). THE CARD IS WHAT COUNTS. Prove the row's statement (the work); the ties are given (YtddolbhaekekaaaDoorTie.lean); close each card by the builder's one call (the guide's Derived/Test/ToyasCard.lean, 'card_holds'). Laid BY PROGRAM, IN A SANDBOX (cutbox-door.mjs). By AI agents, Wed Nov 11 2026. No macro, syntax, notation, axiom, sorry.
-/
import Derived.Test.YtddolbhaekekaaaDoorRows
import GoSem.ClaimSeven
namespace Go.Proofs.YtddolbhaekekaaaDoor
namespace Rows

/-- THE TIED CARD OF 'redresslaw19.CodeBack'. -/
def codeBackCard : Claim7 := { stood := { row := codeBackRow, standIns := [], harness := (true, "14e38b53a0328b32c00bc8b3b0a9432d99ecf059df7d9a0126cabd740d8ef0fe"), looks := false }, kinds := [], alts := [], laidByText := true, laidKinds := [.data, .widerDeep, .pinned], laidTests := true, laidLooks := .later }
def CodeBackCardSaid : Prop := Claim7.holds Tryd.pinned (.plain (OpenSpec.ofChange codeBackSpec)) codeBackCard

/-- THE TIED CARD OF 'redresslaw19.CodeOnce'. -/
def codeOnceCard : Claim7 := { stood := { row := codeOnceRow, standIns := [], harness := (true, "14e38b53a0328b32c00bc8b3b0a9432d99ecf059df7d9a0126cabd740d8ef0fe"), looks := false }, kinds := [], alts := [], laidByText := true, laidKinds := [.data, .widerDeep, .pinned], laidTests := true, laidLooks := .later }
def CodeOnceCardSaid : Prop := Claim7.holds Tryd.pinned (.plain (OpenSpec.ofChange codeOnceSpec)) codeOnceCard

/-- THE TIED CARD OF 'redresslaw19.CodeSame'. -/
def codeSameCard : Claim7 := { stood := { row := codeSameRow, standIns := [], harness := (true, "14e38b53a0328b32c00bc8b3b0a9432d99ecf059df7d9a0126cabd740d8ef0fe"), looks := false }, kinds := [], alts := [], laidByText := true, laidKinds := [.data, .widerDeep, .pinned], laidTests := true, laidLooks := .later }
def CodeSameCardSaid : Prop := Claim7.holds Tryd.pinned (.plain (OpenSpec.ofChange codeSameSpec)) codeSameCard

/-- THE SECOND FORM's CARD OF 'redresslaw19.CodeBack'. -/
def codeBackUptoCard : Claim7 := { stood := { row := codeBackUptoRow, standIns := [], harness := (true, "14e38b53a0328b32c00bc8b3b0a9432d99ecf059df7d9a0126cabd740d8ef0fe"), looks := false }, kinds := [], alts := [], laidByText := true, laidKinds := [.data, .widerDeep, .pinned], laidTests := true, laidLooks := .later }
def CodeBackUptoCardSaid : Prop := Claim7.holds Tryd.pinned (.plain (OpenSpec.upto codeBackSpec)) codeBackUptoCard

/-- THE SECOND FORM's CARD OF 'redresslaw19.CodeOnce'. -/
def codeOnceUptoCard : Claim7 := { stood := { row := codeOnceUptoRow, standIns := [], harness := (true, "14e38b53a0328b32c00bc8b3b0a9432d99ecf059df7d9a0126cabd740d8ef0fe"), looks := false }, kinds := [], alts := [], laidByText := true, laidKinds := [.data, .widerDeep, .pinned], laidTests := true, laidLooks := .later }
def CodeOnceUptoCardSaid : Prop := Claim7.holds Tryd.pinned (.plain (OpenSpec.upto codeOnceSpec)) codeOnceUptoCard

/-- THE SECOND FORM's CARD OF 'redresslaw19.CodeSame'. -/
def codeSameUptoCard : Claim7 := { stood := { row := codeSameUptoRow, standIns := [], harness := (true, "14e38b53a0328b32c00bc8b3b0a9432d99ecf059df7d9a0126cabd740d8ef0fe"), looks := false }, kinds := [], alts := [], laidByText := true, laidKinds := [.data, .widerDeep, .pinned], laidTests := true, laidLooks := .later }
def CodeSameUptoCardSaid : Prop := Claim7.holds Tryd.pinned (.plain (OpenSpec.upto codeSameSpec)) codeSameUptoCard
end Rows
end Go.Proofs.YtddolbhaekekaaaDoor
