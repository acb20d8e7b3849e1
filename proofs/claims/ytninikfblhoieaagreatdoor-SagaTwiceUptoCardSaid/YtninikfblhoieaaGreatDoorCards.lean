/-
  DERIVED. GIVEN WITH THE SEED: THE CARDS: each row of YtninikfblhoieaaGreatDoorRows.lean that lists a variable, with what it lists TIED to the program's text (the seventh form; the later family's looks); each row that meets fmt, with fmt's text TOLD by the authors' own Lean function (tested against real Go, not proved from fmt's source: count such statements apart). THE CARD IS WHAT COUNTS. Prove the row's statement (the work); the ties are given (YtninikfblhoieaaGreatDoorTie.lean); close each card by the builder's one call (the guide's Derived/Test/ToyasCard.lean, 'card_holds'). Laid BY PROGRAM, IN A SANDBOX (cutbox-door.mjs). By AI agents, Wed Nov 11 2026. No macro, syntax, notation, axiom, sorry.
-/
import Derived.Test.YtninikfblhoieaaGreatDoorRows
import GoSem.ClaimSeven
namespace Go.Proofs.YtninikfblhoieaaGreatDoor
namespace Rows

/-- THE TIED CARD OF 'redresslaw21.SagaLost'. -/
def sagaLostCard : Claim7 := { stood := { row := sagaLostRow, standIns := [], harness := (true, "aaa7e18a6206ea37f3340a8951ffd14237be5f1af779efbc2316896185e259ad"), looks := false }, kinds := [], alts := [], laidByText := true, laidKinds := [.data, .widerDeep, .pinned], laidTests := true, laidLooks := .later }
def SagaLostCardSaid : Prop := Claim7.holds Tryz.pinned (.plain (OpenSpec.ofChange sagaLostSpec)) sagaLostCard

/-- THE TIED CARD OF 'redresslaw21.SagaLast'. -/
def sagaLastCard : Claim7 := { stood := { row := sagaLastRow, standIns := [], harness := (true, "aaa7e18a6206ea37f3340a8951ffd14237be5f1af779efbc2316896185e259ad"), looks := false }, kinds := [], alts := [], laidByText := true, laidKinds := [.data, .widerDeep, .pinned], laidTests := true, laidLooks := .later }
def SagaLastCardSaid : Prop := Claim7.holds Tryz.pinned (.plain (OpenSpec.ofChange sagaLastSpec)) sagaLastCard

/-- THE TIED CARD OF 'redresslaw21.SagaTwice'. -/
def sagaTwiceCard : Claim7 := { stood := { row := sagaTwiceRow, standIns := [], harness := (true, "aaa7e18a6206ea37f3340a8951ffd14237be5f1af779efbc2316896185e259ad"), looks := false }, kinds := [], alts := [], laidByText := true, laidKinds := [.data, .widerDeep, .pinned], laidTests := true, laidLooks := .later }
def SagaTwiceCardSaid : Prop := Claim7.holds Tryz.pinned (.plain (OpenSpec.ofChange sagaTwiceSpec)) sagaTwiceCard

/-- THE TIED CARD OF 'redresslaw21.SagaRuns'. -/
def sagaRunsCard : Claim7 := { stood := { row := sagaRunsRow, standIns := [], harness := (true, "aaa7e18a6206ea37f3340a8951ffd14237be5f1af779efbc2316896185e259ad"), looks := false }, kinds := [], alts := [], laidByText := true, laidKinds := [.data, .widerDeep, .pinned], laidTests := true, laidLooks := .later }
def SagaRunsCardSaid : Prop := Claim7.holds Tryz.pinned (.plain (OpenSpec.ofChange sagaRunsSpec)) sagaRunsCard

/-- THE SECOND FORM's CARD OF 'redresslaw21.SagaLost'. -/
def sagaLostUptoCard : Claim7 := { stood := { row := sagaLostUptoRow, standIns := [], harness := (true, "aaa7e18a6206ea37f3340a8951ffd14237be5f1af779efbc2316896185e259ad"), looks := false }, kinds := [], alts := [], laidByText := true, laidKinds := [.data, .widerDeep, .pinned], laidTests := true, laidLooks := .later }
def SagaLostUptoCardSaid : Prop := Claim7.holds Tryz.pinned (.plain (OpenSpec.upto sagaLostSpec)) sagaLostUptoCard

/-- THE SECOND FORM's CARD OF 'redresslaw21.SagaLast'. -/
def sagaLastUptoCard : Claim7 := { stood := { row := sagaLastUptoRow, standIns := [], harness := (true, "aaa7e18a6206ea37f3340a8951ffd14237be5f1af779efbc2316896185e259ad"), looks := false }, kinds := [], alts := [], laidByText := true, laidKinds := [.data, .widerDeep, .pinned], laidTests := true, laidLooks := .later }
def SagaLastUptoCardSaid : Prop := Claim7.holds Tryz.pinned (.plain (OpenSpec.upto sagaLastSpec)) sagaLastUptoCard

/-- THE SECOND FORM's CARD OF 'redresslaw21.SagaTwice'. -/
def sagaTwiceUptoCard : Claim7 := { stood := { row := sagaTwiceUptoRow, standIns := [], harness := (true, "aaa7e18a6206ea37f3340a8951ffd14237be5f1af779efbc2316896185e259ad"), looks := false }, kinds := [], alts := [], laidByText := true, laidKinds := [.data, .widerDeep, .pinned], laidTests := true, laidLooks := .later }
def SagaTwiceUptoCardSaid : Prop := Claim7.holds Tryz.pinned (.plain (OpenSpec.upto sagaTwiceSpec)) sagaTwiceUptoCard

/-- THE SECOND FORM's CARD OF 'redresslaw21.SagaRuns'. -/
def sagaRunsUptoCard : Claim7 := { stood := { row := sagaRunsUptoRow, standIns := [], harness := (true, "aaa7e18a6206ea37f3340a8951ffd14237be5f1af779efbc2316896185e259ad"), looks := false }, kinds := [], alts := [], laidByText := true, laidKinds := [.data, .widerDeep, .pinned], laidTests := true, laidLooks := .later }
def SagaRunsUptoCardSaid : Prop := Claim7.holds Tryz.pinned (.plain (OpenSpec.upto sagaRunsSpec)) sagaRunsUptoCard
end Rows
end Go.Proofs.YtninikfblhoieaaGreatDoor
