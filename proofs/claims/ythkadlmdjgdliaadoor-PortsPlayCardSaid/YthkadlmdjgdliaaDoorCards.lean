/-
  DERIVED. GIVEN WITH THE SEED: THE CARDS: each row of YthkadlmdjgdliaaDoorRows.lean that lists a variable, with what it lists TIED to the program's text (the seventh form; the later family's looks); each row that meets fmt, with fmt's text TOLD by the authors' own Lean function (tested against real Go, not proved from fmt's source: count such statements apart). THE CARD IS WHAT COUNTS. Prove the row's statement (the work); the ties are given (YthkadlmdjgdliaaDoorTie.lean); close each card by the builder's one call (the guide's Derived/Test/ToyasCard.lean, 'card_holds'). Laid BY PROGRAM, IN A SANDBOX (cutbox-door.mjs). By AI agents, Wed Nov 11 2026. No macro, syntax, notation, axiom, sorry.
-/
import Derived.Test.YthkadlmdjgdliaaDoorRows
import GoSem.ClaimSeven
namespace Go.Proofs.YthkadlmdjgdliaaDoor
namespace Rows

/-- THE TIED CARD OF 'weighbridgelaw15.PortsRound'. -/
def portsRoundCard : Claim7 := { stood := { row := portsRoundRow, standIns := [], harness := (true, "7940efd00a4b645126ffe30ecbdb6135a7a007fe5ee15061989404d081097b11"), looks := false }, kinds := [], alts := [], laidByText := true, laidKinds := [.data], laidTests := true, laidLooks := .later }
def PortsRoundCardSaid : Prop := Claim7.holds Tryd.pinned (.plain (OpenSpec.ofChange portsRoundSpec)) portsRoundCard

/-- THE TIED CARD OF 'weighbridgelaw15.PortsPlay'. -/
def portsPlayCard : Claim7 := { stood := { row := portsPlayRow, standIns := [], harness := (true, "7940efd00a4b645126ffe30ecbdb6135a7a007fe5ee15061989404d081097b11"), looks := false }, kinds := [], alts := [], laidByText := true, laidKinds := [.data], laidTests := true, laidLooks := .later }
def PortsPlayCardSaid : Prop := Claim7.holds Tryd.pinned (.plain (OpenSpec.ofChange portsPlaySpec)) portsPlayCard

/-- THE TIED CARD OF 'weighbridgelaw15.PortsApart'. -/
def portsApartCard : Claim7 := { stood := { row := portsApartRow, standIns := [], harness := (true, "7940efd00a4b645126ffe30ecbdb6135a7a007fe5ee15061989404d081097b11"), looks := false }, kinds := [], alts := [], laidByText := true, laidKinds := [.data], laidTests := true, laidLooks := .later }
def PortsApartCardSaid : Prop := Claim7.holds Tryd.pinned (.plain (OpenSpec.ofChange portsApartSpec)) portsApartCard

/-- THE TIED CARD OF 'weighbridgelaw15.PortsMake'. -/
def portsMakeCard : Claim7 := { stood := { row := portsMakeRow, standIns := [], harness := (true, "7940efd00a4b645126ffe30ecbdb6135a7a007fe5ee15061989404d081097b11"), looks := false }, kinds := [], alts := [], laidByText := true, laidKinds := [.data], laidTests := true, laidLooks := .later }
def PortsMakeCardSaid : Prop := Claim7.holds Tryd.pinned (.plain (OpenSpec.ofChange portsMakeSpec)) portsMakeCard

/-- THE SECOND FORM's CARD OF 'weighbridgelaw15.PortsRound'. -/
def portsRoundUptoCard : Claim7 := { stood := { row := portsRoundUptoRow, standIns := [], harness := (true, "7940efd00a4b645126ffe30ecbdb6135a7a007fe5ee15061989404d081097b11"), looks := false }, kinds := [], alts := [], laidByText := true, laidKinds := [.data], laidTests := true, laidLooks := .later }
def PortsRoundUptoCardSaid : Prop := Claim7.holds Tryd.pinned (.plain (OpenSpec.upto portsRoundSpec)) portsRoundUptoCard

/-- THE SECOND FORM's CARD OF 'weighbridgelaw15.PortsPlay'. -/
def portsPlayUptoCard : Claim7 := { stood := { row := portsPlayUptoRow, standIns := [], harness := (true, "7940efd00a4b645126ffe30ecbdb6135a7a007fe5ee15061989404d081097b11"), looks := false }, kinds := [], alts := [], laidByText := true, laidKinds := [.data], laidTests := true, laidLooks := .later }
def PortsPlayUptoCardSaid : Prop := Claim7.holds Tryd.pinned (.plain (OpenSpec.upto portsPlaySpec)) portsPlayUptoCard

/-- THE SECOND FORM's CARD OF 'weighbridgelaw15.PortsApart'. -/
def portsApartUptoCard : Claim7 := { stood := { row := portsApartUptoRow, standIns := [], harness := (true, "7940efd00a4b645126ffe30ecbdb6135a7a007fe5ee15061989404d081097b11"), looks := false }, kinds := [], alts := [], laidByText := true, laidKinds := [.data], laidTests := true, laidLooks := .later }
def PortsApartUptoCardSaid : Prop := Claim7.holds Tryd.pinned (.plain (OpenSpec.upto portsApartSpec)) portsApartUptoCard

/-- THE SECOND FORM's CARD OF 'weighbridgelaw15.PortsMake'. -/
def portsMakeUptoCard : Claim7 := { stood := { row := portsMakeUptoRow, standIns := [], harness := (true, "7940efd00a4b645126ffe30ecbdb6135a7a007fe5ee15061989404d081097b11"), looks := false }, kinds := [], alts := [], laidByText := true, laidKinds := [.data], laidTests := true, laidLooks := .later }
def PortsMakeUptoCardSaid : Prop := Claim7.holds Tryd.pinned (.plain (OpenSpec.upto portsMakeSpec)) portsMakeUptoCard
end Rows
end Go.Proofs.YthkadlmdjgdliaaDoor
