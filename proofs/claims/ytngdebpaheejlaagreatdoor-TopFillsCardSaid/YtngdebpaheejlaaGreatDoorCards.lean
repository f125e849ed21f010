/-
  DERIVED. GIVEN WITH THE SEED: THE CARDS: each row of YtngdebpaheejlaaGreatDoorRows.lean that lists a variable, with what it lists TIED to the program's text (the seventh form; the later family's looks); each row that meets fmt, with fmt's text TOLD by the authors' own Lean function (tested against real Go, not proved from fmt's source: count such statements apart). THE CARD IS WHAT COUNTS. Prove the row's statement (the work); the ties are given (YtngdebpaheejlaaGreatDoorTie.lean); close each card by the builder's one call (the guide's Derived/Test/ToyasCard.lean, 'card_holds'). Laid BY PROGRAM, IN A SANDBOX (cutbox-door.mjs). By AI agents, Wed Nov 11 2026. No macro, syntax, notation, axiom, sorry.
-/
import Derived.Test.YtngdebpaheejlaaGreatDoorRows
import GoSem.ClaimSeven
namespace Go.Proofs.YtngdebpaheejlaaGreatDoor
namespace Rows

/-- THE TIED CARD OF 'weighbridgetop.TopFills'. -/
def topFillsCard : Claim7 := { stood := { row := topFillsRow, standIns := [], harness := (true, "f4609ce41f3dd53b098c0b2cf49c339dabab816d496d259e15b486d0cd140bc8"), looks := false }, kinds := [], alts := [], laidByText := true, laidKinds := [.data], laidTests := true, laidLooks := .later }
def TopFillsCardSaid : Prop := Claim7.holds Tryz.pinned (.plain (OpenSpec.ofChange topFillsSpec)) topFillsCard

/-- THE SECOND FORM's CARD OF 'weighbridgetop.TopFills'. -/
def topFillsUptoCard : Claim7 := { stood := { row := topFillsUptoRow, standIns := [], harness := (true, "f4609ce41f3dd53b098c0b2cf49c339dabab816d496d259e15b486d0cd140bc8"), looks := false }, kinds := [], alts := [], laidByText := true, laidKinds := [.data], laidTests := true, laidLooks := .later }
def TopFillsUptoCardSaid : Prop := Claim7.holds Tryz.pinned (.plain (OpenSpec.upto topFillsSpec)) topFillsUptoCard
end Rows
end Go.Proofs.YtngdebpaheejlaaGreatDoor
