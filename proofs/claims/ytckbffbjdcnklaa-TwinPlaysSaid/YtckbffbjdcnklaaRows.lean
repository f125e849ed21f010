/-
  No cell of these rows narrows 'for every input' (looked for: loops, veiled, ifaces, maps, wideKeys, modest, calm, conditions, laid).
  DERIVED. THE GIVEN ROWS OF THIS SEAT. 4 by the template 'for every input the law returns true; each argument reads behind the call as it read before'; 0 by the template 'total and deterministic' (their statements: YtckbffbjdcnklaaTotals.lean).
  GIVEN WITH THE SEED: the statements are not yours to turn. If you find one false, say at which input.
  Laid BY PROGRAM, IN A SANDBOX (cutbox-rows.mjs): the forced cells as the released guide's own fill.sh prints them over the translation 93c5df2c6a0f36cd… (all of the seat's roots in one cut). By AI agents, Wed Nov 11 2026. No macro, syntax, notation, axiom, sorry.
-/
import Derived.Test.YtckbffbjdcnklaaChecked
import GoSem.Claim
import GoSem.ClaimJoined
import GoSem.ClaimMapViews
import Derived.JoinedTies
import Derived.KernelRfl
namespace Go.Proofs.Ytckbffbjdcnklaa
/- THE CELL 'sum', in the pinned program and in every row, IS THE sha256 OF THE DUMP (.gsa) THAT YtckbffbjdcnklaaProg.lean LOADS. Nothing in Lean hashes anything: it is a label: what it is worth is what the hold of that sum in a sandbox is worth. -/
noncomputable def Try.pinned : Pinned := { name := "ytckbffbjdcnklaa", sum := "93c5df2c6a0f36cd8d9989bc7aa29776b69846e9116e63e8d67a4809fa1c4be6", checked := Try.checked }
namespace Rows
def none {H : Type} : Left H := { results := [], args := [] }

/-- 'weighbridgelaw17.TwinFinds': WHATEVER THE INPUT: true; the input reads as it did. -/
def twinFindsSpec : ChangeSpec := { name := "twinFinds", fn := fun _ => fun
  | [d1, d2] => { results := [.lit (.bool true)], args := [d1, d2] }
  | _ => none }
def twinFindsRow : OpenClaim := { program := "ytckbffbjdcnklaa", sum := "93c5df2c6a0f36cd8d9989bc7aa29776b69846e9116e63e8d67a4809fa1c4be6", func := "weighbridge/weighbridgelaw17.TwinFinds", spec := "twinFinds", apart := false }
def TwinFindsSaid : Prop := twinFindsRow.holds Try.pinned (OpenSpec.ofChange twinFindsSpec)

/-- ITS FALSE NEIGHBOUR: 'it returns false'. Refute it at one input. -/
def twinFindsWrong : ChangeSpec := { name := "twinFinds", fn := fun _ => fun
  | [d1, d2] => { results := [.lit (.bool false)], args := [d1, d2] }
  | _ => none }
def TwinFindsWrongFalsely : Prop := twinFindsRow.holds Try.pinned (OpenSpec.ofChange twinFindsWrong)

/-- 'weighbridgelaw17.TwinSets': WHATEVER THE INPUT: true; the input reads as it did. -/
def twinSetsSpec : ChangeSpec := { name := "twinSets", fn := fun _ => fun
  | [d1, d2, d3, d4] => { results := [.lit (.bool true)], args := [d1, d2, d3, d4] }
  | _ => none }
def twinSetsRow : OpenClaim := { program := "ytckbffbjdcnklaa", sum := "93c5df2c6a0f36cd8d9989bc7aa29776b69846e9116e63e8d67a4809fa1c4be6", func := "weighbridge/weighbridgelaw17.TwinSets", spec := "twinSets", unfollowed := true, recurses := true, apart := false }
def TwinSetsSaid : Prop := twinSetsRow.holds Try.pinned (OpenSpec.ofChange twinSetsSpec)

/-- ITS FALSE NEIGHBOUR: 'it returns false'. Refute it at one input. -/
def twinSetsWrong : ChangeSpec := { name := "twinSets", fn := fun _ => fun
  | [d1, d2, d3, d4] => { results := [.lit (.bool false)], args := [d1, d2, d3, d4] }
  | _ => none }
def TwinSetsWrongFalsely : Prop := twinSetsRow.holds Try.pinned (OpenSpec.ofChange twinSetsWrong)

/-- 'weighbridgelaw17.TwinRoom': WHATEVER THE INPUT: true; the input reads as it did. -/
def twinRoomSpec : ChangeSpec := { name := "twinRoom", fn := fun _ => fun
  | [d1, d2] => { results := [.lit (.bool true)], args := [d1, d2] }
  | _ => none }
def twinRoomRow : OpenClaim := { program := "ytckbffbjdcnklaa", sum := "93c5df2c6a0f36cd8d9989bc7aa29776b69846e9116e63e8d67a4809fa1c4be6", func := "weighbridge/weighbridgelaw17.TwinRoom", spec := "twinRoom", unfollowed := true, recurses := true, apart := false }
def TwinRoomSaid : Prop := twinRoomRow.holds Try.pinned (OpenSpec.ofChange twinRoomSpec)

/-- ITS FALSE NEIGHBOUR: 'it returns false'. Refute it at one input. -/
def twinRoomWrong : ChangeSpec := { name := "twinRoom", fn := fun _ => fun
  | [d1, d2] => { results := [.lit (.bool false)], args := [d1, d2] }
  | _ => none }
def TwinRoomWrongFalsely : Prop := twinRoomRow.holds Try.pinned (OpenSpec.ofChange twinRoomWrong)

/-- 'weighbridgelaw17.TwinPlays': WHATEVER THE INPUT: true; the input reads as it did. -/
def twinPlaysSpec : ChangeSpec := { name := "twinPlays", fn := fun _ => fun
  | [d1, d2] => { results := [.lit (.bool true)], args := [d1, d2] }
  | _ => none }
def twinPlaysRow : OpenClaim := { program := "ytckbffbjdcnklaa", sum := "93c5df2c6a0f36cd8d9989bc7aa29776b69846e9116e63e8d67a4809fa1c4be6", func := "weighbridge/weighbridgelaw17.TwinPlays", spec := "twinPlays", unfollowed := true, recurses := true, apart := false }
def TwinPlaysSaid : Prop := twinPlaysRow.holds Try.pinned (OpenSpec.ofChange twinPlaysSpec)

/-- ITS FALSE NEIGHBOUR: 'it returns false'. Refute it at one input. -/
def twinPlaysWrong : ChangeSpec := { name := "twinPlays", fn := fun _ => fun
  | [d1, d2] => { results := [.lit (.bool false)], args := [d1, d2] }
  | _ => none }
def TwinPlaysWrongFalsely : Prop := twinPlaysRow.holds Try.pinned (OpenSpec.ofChange twinPlaysWrong)

/- THE SECOND FORM. 'bulk': how many values and letters a reading holds, each counted each time it is reached (what is shared counts as often as it is met; a slice's spare places count too). A statement '..UptoSaid' is the law's where the arguments, and the package variables that the reading takes, are together of bulk at most 1048576: NARROWER than '..Said'. Prove '..Said' where nothing that the law and all that it calls make is longer than what came in: it says more and counts as full. Else prove '..UptoSaid'. A law counts once. -/
mutual
def uptoBulk {H : Type} : DataW H → Nat
  | .lit (.string bytes) => bytes.length + 1
  | .lit _ => 1
  | .nil => 1
  | .ptr d => uptoBulk d + 1
  | .slice elems spare => uptoBulkAll elems + uptoBulkAll spare + 1
  | .agg parts => uptoBulkAll parts + 1
  | .iface _ d => uptoBulk d + 1
  | .map entries => uptoBulkEntries entries + 1
  | .held _ => 1
def uptoBulkAll {H : Type} : List (DataW H) → Nat
  | [] => 0
  | d :: r => uptoBulk d + uptoBulkAll r
def uptoBulkEntries {H : Type} : List (Lit × DataW H) → Nat
  | [] => 0
  | x :: r => uptoBulkEntry x + uptoBulkEntries r
def uptoBulkEntry {H : Type} : Lit × DataW H → Nat
  | (.string bytes, d) => bytes.length + uptoBulk d + 1
  | (_, d) => uptoBulk d + 1
 end
def uptoSmall : (H : Type) → List (DataW H) → Bool := fun _ ds => decide (uptoBulkAll ds ≤ 1048576)
def OpenSpec.upto (s : _root_.Go.ChangeSpec) : _root_.Go.OpenSpec := { _root_.Go.OpenSpec.ofChange s with cond := some uptoSmall }

/-- 'weighbridgelaw17.TwinFinds', WHERE WHAT IT READS IS OF BULK AT MOST 1048576: true; the input reads as it did. -/
def twinFindsUptoRow : OpenClaim := { program := "ytckbffbjdcnklaa", sum := "93c5df2c6a0f36cd8d9989bc7aa29776b69846e9116e63e8d67a4809fa1c4be6", func := "weighbridge/weighbridgelaw17.TwinFinds", spec := "twinFinds", apart := false, narrowed := true }
def TwinFindsUptoSaid : Prop := twinFindsUptoRow.holds Try.pinned (OpenSpec.upto twinFindsSpec)

/-- 'weighbridgelaw17.TwinSets', WHERE WHAT IT READS IS OF BULK AT MOST 1048576: true; the input reads as it did. -/
def twinSetsUptoRow : OpenClaim := { program := "ytckbffbjdcnklaa", sum := "93c5df2c6a0f36cd8d9989bc7aa29776b69846e9116e63e8d67a4809fa1c4be6", func := "weighbridge/weighbridgelaw17.TwinSets", spec := "twinSets", unfollowed := true, recurses := true, apart := false, narrowed := true }
def TwinSetsUptoSaid : Prop := twinSetsUptoRow.holds Try.pinned (OpenSpec.upto twinSetsSpec)

/-- 'weighbridgelaw17.TwinRoom', WHERE WHAT IT READS IS OF BULK AT MOST 1048576: true; the input reads as it did. -/
def twinRoomUptoRow : OpenClaim := { program := "ytckbffbjdcnklaa", sum := "93c5df2c6a0f36cd8d9989bc7aa29776b69846e9116e63e8d67a4809fa1c4be6", func := "weighbridge/weighbridgelaw17.TwinRoom", spec := "twinRoom", unfollowed := true, recurses := true, apart := false, narrowed := true }
def TwinRoomUptoSaid : Prop := twinRoomUptoRow.holds Try.pinned (OpenSpec.upto twinRoomSpec)

/-- 'weighbridgelaw17.TwinPlays', WHERE WHAT IT READS IS OF BULK AT MOST 1048576: true; the input reads as it did. -/
def twinPlaysUptoRow : OpenClaim := { program := "ytckbffbjdcnklaa", sum := "93c5df2c6a0f36cd8d9989bc7aa29776b69846e9116e63e8d67a4809fa1c4be6", func := "weighbridge/weighbridgelaw17.TwinPlays", spec := "twinPlays", unfollowed := true, recurses := true, apart := false, narrowed := true }
def TwinPlaysUptoSaid : Prop := twinPlaysUptoRow.holds Try.pinned (OpenSpec.upto twinPlaysSpec)

end Rows
end Go.Proofs.Ytckbffbjdcnklaa
