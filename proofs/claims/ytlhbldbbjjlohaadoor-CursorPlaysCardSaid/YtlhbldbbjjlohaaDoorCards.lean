/-
  DERIVED. GIVEN WITH THE SEED: THE CARDS: each row of YtlhbldbbjjlohaaDoorRows.lean that lists a variable, with what it lists TIED to the program's text (the seventh form; the later family's looks); each row that meets fmt, with fmt's text TOLD by the authors' own Lean function (tested against real Go, not proved from fmt's source: count such statements apart). THE CARD IS WHAT COUNTS. Prove the row's statement (the work); the ties are given (YtlhbldbbjjlohaaDoorTie.lean); close each card by the builder's one call (the guide's Derived/Test/ToyasCard.lean, 'card_holds'). Laid BY PROGRAM, IN A SANDBOX (cutbox-door.mjs). By AI agents, Wed Nov 11 2026. No macro, syntax, notation, axiom, sorry.
-/
import Derived.Test.YtlhbldbbjjlohaaDoorRows
import GoSem.ClaimSeven
namespace Go.Proofs.YtlhbldbbjjlohaaDoor
namespace Rows

/-- THE TIED CARD OF 'weighbridgelaw14.CursorPlays'. -/
def cursorPlaysCard : Claim7 := { stood := { row := cursorPlaysRow, standIns := [], harness := (true, "3614c31b5b90501f44b7393723cc89d116199477c5881cd74cf1c41ca819890e"), looks := false }, kinds := [], alts := [], laidByText := true, laidKinds := [.data], laidTests := true, laidLooks := .later }
def CursorPlaysCardSaid : Prop := Claim7.holds Tryd.pinned (.plain (OpenSpec.ofChange cursorPlaysSpec)) cursorPlaysCard

/-- THE TIED CARD OF 'weighbridgelaw14.CursorRounds'. -/
def cursorRoundsCard : Claim7 := { stood := { row := cursorRoundsRow, standIns := [], harness := (true, "3614c31b5b90501f44b7393723cc89d116199477c5881cd74cf1c41ca819890e"), looks := false }, kinds := [], alts := [], laidByText := true, laidKinds := [.data], laidTests := true, laidLooks := .later }
def CursorRoundsCardSaid : Prop := Claim7.holds Tryd.pinned (.plain (OpenSpec.ofChange cursorRoundsSpec)) cursorRoundsCard

/-- THE TIED CARD OF 'weighbridgelaw14.CursorTurns'. -/
def cursorTurnsCard : Claim7 := { stood := { row := cursorTurnsRow, standIns := [], harness := (true, "3614c31b5b90501f44b7393723cc89d116199477c5881cd74cf1c41ca819890e"), looks := false }, kinds := [], alts := [], laidByText := true, laidKinds := [.data], laidTests := true, laidLooks := .later }
def CursorTurnsCardSaid : Prop := Claim7.holds Tryd.pinned (.plain (OpenSpec.ofChange cursorTurnsSpec)) cursorTurnsCard

/-- THE TIED CARD OF 'weighbridgelaw14.CursorHolds'. -/
def cursorHoldsCard : Claim7 := { stood := { row := cursorHoldsRow, standIns := [], harness := (true, "3614c31b5b90501f44b7393723cc89d116199477c5881cd74cf1c41ca819890e"), looks := false }, kinds := [], alts := [], laidByText := true, laidKinds := [.data], laidTests := true, laidLooks := .later }
def CursorHoldsCardSaid : Prop := Claim7.holds Tryd.pinned (.plain (OpenSpec.ofChange cursorHoldsSpec)) cursorHoldsCard

/-- THE SECOND FORM's CARD OF 'weighbridgelaw14.CursorPlays'. -/
def cursorPlaysUptoCard : Claim7 := { stood := { row := cursorPlaysUptoRow, standIns := [], harness := (true, "3614c31b5b90501f44b7393723cc89d116199477c5881cd74cf1c41ca819890e"), looks := false }, kinds := [], alts := [], laidByText := true, laidKinds := [.data], laidTests := true, laidLooks := .later }
def CursorPlaysUptoCardSaid : Prop := Claim7.holds Tryd.pinned (.plain (OpenSpec.upto cursorPlaysSpec)) cursorPlaysUptoCard

/-- THE SECOND FORM's CARD OF 'weighbridgelaw14.CursorRounds'. -/
def cursorRoundsUptoCard : Claim7 := { stood := { row := cursorRoundsUptoRow, standIns := [], harness := (true, "3614c31b5b90501f44b7393723cc89d116199477c5881cd74cf1c41ca819890e"), looks := false }, kinds := [], alts := [], laidByText := true, laidKinds := [.data], laidTests := true, laidLooks := .later }
def CursorRoundsUptoCardSaid : Prop := Claim7.holds Tryd.pinned (.plain (OpenSpec.upto cursorRoundsSpec)) cursorRoundsUptoCard

/-- THE SECOND FORM's CARD OF 'weighbridgelaw14.CursorTurns'. -/
def cursorTurnsUptoCard : Claim7 := { stood := { row := cursorTurnsUptoRow, standIns := [], harness := (true, "3614c31b5b90501f44b7393723cc89d116199477c5881cd74cf1c41ca819890e"), looks := false }, kinds := [], alts := [], laidByText := true, laidKinds := [.data], laidTests := true, laidLooks := .later }
def CursorTurnsUptoCardSaid : Prop := Claim7.holds Tryd.pinned (.plain (OpenSpec.upto cursorTurnsSpec)) cursorTurnsUptoCard

/-- THE SECOND FORM's CARD OF 'weighbridgelaw14.CursorHolds'. -/
def cursorHoldsUptoCard : Claim7 := { stood := { row := cursorHoldsUptoRow, standIns := [], harness := (true, "3614c31b5b90501f44b7393723cc89d116199477c5881cd74cf1c41ca819890e"), looks := false }, kinds := [], alts := [], laidByText := true, laidKinds := [.data], laidTests := true, laidLooks := .later }
def CursorHoldsUptoCardSaid : Prop := Claim7.holds Tryd.pinned (.plain (OpenSpec.upto cursorHoldsSpec)) cursorHoldsUptoCard
end Rows
end Go.Proofs.YtlhbldbbjjlohaaDoor
