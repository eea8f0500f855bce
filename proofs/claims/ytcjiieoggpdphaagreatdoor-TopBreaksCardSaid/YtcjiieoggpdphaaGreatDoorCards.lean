/-
  DERIVED. GIVEN WITH THE SEED: THE CARDS: each row of YtcjiieoggpdphaaGreatDoorRows.lean that lists a variable, with what it lists TIED to the program's text (the seventh form; the later family's looks); each row that meets fmt, with fmt's text TOLD by the authors' own Lean function (tested against real Go, not proved from fmt's source: count such statements apart). THE CARD IS WHAT COUNTS. Prove the row's statement (the work); the ties are given (YtcjiieoggpdphaaGreatDoorTie.lean); close each card by the builder's one call (the guide's Derived/Test/ToyasCard.lean, 'card_holds'). Laid BY PROGRAM, IN A SANDBOX (cutbox-door.mjs). By AI agents, Wed Nov 11 2026. No macro, syntax, notation, axiom, sorry.
-/
import Derived.Test.YtcjiieoggpdphaaGreatDoorRows
import GoSem.ClaimSeven
namespace Go.Proofs.YtcjiieoggpdphaaGreatDoor
namespace Rows

/-- THE TIED CARD OF 'signalboxtop.TopBusy'. -/
def topBusyCard : Claim7 := { stood := { row := topBusyRow, standIns := [], harness := (true, "b5ea21ce697b87fc517b7c79d9c07c1cd3b50cc2031c514a72d1dbddf181db17"), looks := true }, kinds := [], alts := [], laidByText := true, laidKinds := [.pinned, .data, .sentinel, .sentinel, .data, .data, .data, .data], laidTests := true, laidLooks := .later }
def TopBusyCardSaid : Prop := Claim7.holds Tryz.pinned (.plain (OpenSpec.ofChange topBusySpec)) topBusyCard

/-- THE TIED CARD OF 'signalboxtop.TopBreaks'. -/
def topBreaksCard : Claim7 := { stood := { row := topBreaksRow, standIns := [], harness := (true, "b5ea21ce697b87fc517b7c79d9c07c1cd3b50cc2031c514a72d1dbddf181db17"), looks := true }, kinds := [], alts := [], laidByText := true, laidKinds := [.pinned, .data, .sentinel, .sentinel, .data, .data, .data, .data], laidTests := true, laidLooks := .later }
def TopBreaksCardSaid : Prop := Claim7.holds Tryz.pinned (.plain (OpenSpec.ofChange topBreaksSpec)) topBreaksCard

/-- THE SECOND FORM's CARD OF 'signalboxtop.TopBusy'. -/
def topBusyUptoCard : Claim7 := { stood := { row := topBusyUptoRow, standIns := [], harness := (true, "b5ea21ce697b87fc517b7c79d9c07c1cd3b50cc2031c514a72d1dbddf181db17"), looks := true }, kinds := [], alts := [], laidByText := true, laidKinds := [.pinned, .data, .sentinel, .sentinel, .data, .data, .data, .data], laidTests := true, laidLooks := .later }
def TopBusyUptoCardSaid : Prop := Claim7.holds Tryz.pinned (.plain (OpenSpec.upto topBusySpec)) topBusyUptoCard

/-- THE SECOND FORM's CARD OF 'signalboxtop.TopBreaks'. -/
def topBreaksUptoCard : Claim7 := { stood := { row := topBreaksUptoRow, standIns := [], harness := (true, "b5ea21ce697b87fc517b7c79d9c07c1cd3b50cc2031c514a72d1dbddf181db17"), looks := true }, kinds := [], alts := [], laidByText := true, laidKinds := [.pinned, .data, .sentinel, .sentinel, .data, .data, .data, .data], laidTests := true, laidLooks := .later }
def TopBreaksUptoCardSaid : Prop := Claim7.holds Tryz.pinned (.plain (OpenSpec.upto topBreaksSpec)) topBreaksUptoCard
end Rows
end Go.Proofs.YtcjiieoggpdphaaGreatDoor
