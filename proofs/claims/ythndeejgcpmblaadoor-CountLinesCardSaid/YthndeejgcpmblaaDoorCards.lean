/-
  DERIVED. GIVEN WITH THE SEED: THE CARDS: each row of YthndeejgcpmblaaDoorRows.lean that lists a variable, with what it lists TIED to the program's text (the seventh form; the later family's looks); each row that meets fmt, with fmt's text TOLD by the authors' own Lean function (tested against real Go, not proved from fmt's source: count such statements apart). THE CARD IS WHAT COUNTS. Prove the row's statement (the work); the ties are given (YthndeejgcpmblaaDoorTie.lean); close each card by the builder's one call (the guide's Derived/Test/ToyasCard.lean, 'card_holds'). Laid BY PROGRAM, IN A SANDBOX (cutbox-door.mjs). By AI agents, Wed Nov 11 2026. No macro, syntax, notation, axiom, sorry.
-/
import Derived.Test.YthndeejgcpmblaaDoorRows
import GoSem.ClaimSeven
namespace Go.Proofs.YthndeejgcpmblaaDoor
namespace Rows

/-- THE TIED CARD OF 'weighbridgelaw22.CountNames'. -/
def countNamesCard : Claim7 := { stood := { row := countNamesRow, standIns := [], harness := (true, "72be3810a31ade1fbd1f191bd2fa3f20ac7b929020f65a40ec238033b72be5be"), looks := false }, kinds := [], alts := [], laidByText := true, laidKinds := [.data, .data, .data], laidTests := true, laidLooks := .later }
def CountNamesCardSaid : Prop := Claim7.holds Tryd.pinned (.plain (OpenSpec.ofChange countNamesSpec)) countNamesCard

/-- THE TIED CARD OF 'weighbridgelaw22.CountBack'. -/
def countBackCard : Claim7 := { stood := { row := countBackRow, standIns := [], harness := (true, "72be3810a31ade1fbd1f191bd2fa3f20ac7b929020f65a40ec238033b72be5be"), looks := false }, kinds := [], alts := [], laidByText := true, laidKinds := [.data, .data, .data], laidTests := true, laidLooks := .later }
def CountBackCardSaid : Prop := Claim7.holds Tryd.pinned (.plain (OpenSpec.ofChange countBackSpec)) countBackCard

/-- THE TIED CARD OF 'weighbridgelaw22.CountLines'. -/
def countLinesCard : Claim7 := { stood := { row := countLinesRow, standIns := [], harness := (true, "72be3810a31ade1fbd1f191bd2fa3f20ac7b929020f65a40ec238033b72be5be"), looks := false }, kinds := [], alts := [], laidByText := true, laidKinds := [.data, .data, .data], laidTests := true, laidLooks := .later }
def CountLinesCardSaid : Prop := Claim7.holds Tryd.pinned (.plain (OpenSpec.ofChange countLinesSpec)) countLinesCard

/-- THE TIED CARD OF 'weighbridgelaw22.CountSums'. -/
def countSumsCard : Claim7 := { stood := { row := countSumsRow, standIns := [], harness := (true, "72be3810a31ade1fbd1f191bd2fa3f20ac7b929020f65a40ec238033b72be5be"), looks := false }, kinds := [], alts := [], laidByText := true, laidKinds := [.data, .data, .data], laidTests := true, laidLooks := .later }
def CountSumsCardSaid : Prop := Claim7.holds Tryd.pinned (.plain (OpenSpec.ofChange countSumsSpec)) countSumsCard

/-- THE TIED CARD OF 'weighbridgelaw22.CountEmpty'. -/
def countEmptyCard : Claim7 := { stood := { row := countEmptyRow, standIns := [], harness := (true, "72be3810a31ade1fbd1f191bd2fa3f20ac7b929020f65a40ec238033b72be5be"), looks := false }, kinds := [], alts := [], laidByText := true, laidKinds := [.data, .data, .data], laidTests := true, laidLooks := .later }
def CountEmptyCardSaid : Prop := Claim7.holds Tryd.pinned (.plain (OpenSpec.ofChange countEmptySpec)) countEmptyCard

/-- THE SECOND FORM's CARD OF 'weighbridgelaw22.CountNames'. -/
def countNamesUptoCard : Claim7 := { stood := { row := countNamesUptoRow, standIns := [], harness := (true, "72be3810a31ade1fbd1f191bd2fa3f20ac7b929020f65a40ec238033b72be5be"), looks := false }, kinds := [], alts := [], laidByText := true, laidKinds := [.data, .data, .data], laidTests := true, laidLooks := .later }
def CountNamesUptoCardSaid : Prop := Claim7.holds Tryd.pinned (.plain (OpenSpec.upto countNamesSpec)) countNamesUptoCard

/-- THE SECOND FORM's CARD OF 'weighbridgelaw22.CountBack'. -/
def countBackUptoCard : Claim7 := { stood := { row := countBackUptoRow, standIns := [], harness := (true, "72be3810a31ade1fbd1f191bd2fa3f20ac7b929020f65a40ec238033b72be5be"), looks := false }, kinds := [], alts := [], laidByText := true, laidKinds := [.data, .data, .data], laidTests := true, laidLooks := .later }
def CountBackUptoCardSaid : Prop := Claim7.holds Tryd.pinned (.plain (OpenSpec.upto countBackSpec)) countBackUptoCard

/-- THE SECOND FORM's CARD OF 'weighbridgelaw22.CountLines'. -/
def countLinesUptoCard : Claim7 := { stood := { row := countLinesUptoRow, standIns := [], harness := (true, "72be3810a31ade1fbd1f191bd2fa3f20ac7b929020f65a40ec238033b72be5be"), looks := false }, kinds := [], alts := [], laidByText := true, laidKinds := [.data, .data, .data], laidTests := true, laidLooks := .later }
def CountLinesUptoCardSaid : Prop := Claim7.holds Tryd.pinned (.plain (OpenSpec.upto countLinesSpec)) countLinesUptoCard

/-- THE SECOND FORM's CARD OF 'weighbridgelaw22.CountSums'. -/
def countSumsUptoCard : Claim7 := { stood := { row := countSumsUptoRow, standIns := [], harness := (true, "72be3810a31ade1fbd1f191bd2fa3f20ac7b929020f65a40ec238033b72be5be"), looks := false }, kinds := [], alts := [], laidByText := true, laidKinds := [.data, .data, .data], laidTests := true, laidLooks := .later }
def CountSumsUptoCardSaid : Prop := Claim7.holds Tryd.pinned (.plain (OpenSpec.upto countSumsSpec)) countSumsUptoCard

/-- THE SECOND FORM's CARD OF 'weighbridgelaw22.CountEmpty'. -/
def countEmptyUptoCard : Claim7 := { stood := { row := countEmptyUptoRow, standIns := [], harness := (true, "72be3810a31ade1fbd1f191bd2fa3f20ac7b929020f65a40ec238033b72be5be"), looks := false }, kinds := [], alts := [], laidByText := true, laidKinds := [.data, .data, .data], laidTests := true, laidLooks := .later }
def CountEmptyUptoCardSaid : Prop := Claim7.holds Tryd.pinned (.plain (OpenSpec.upto countEmptySpec)) countEmptyUptoCard
end Rows
end Go.Proofs.YthndeejgcpmblaaDoor
