/-
  No cell of these rows narrows 'for every input' (looked for: loops, veiled, ifaces, maps, wideKeys, modest, calm, conditions, laid).
  DERIVED. THE GIVEN ROWS OF THIS SEAT. 4 by the template 'for every input the law returns true; each argument reads behind the call as it read before'; 0 by the template 'total and deterministic' (their statements: YtjkogmfjfbmmiaaTotals.lean).
  GIVEN WITH THE SEED: the statements are not yours to turn. If you find one false, say at which input.
  Laid BY PROGRAM, IN A SANDBOX (cutbox-rows.mjs): the forced cells as the released guide's own fill.sh prints them over the translation 7da8a07d80e86500… (all of the seat's roots in one cut). By AI agents, Wed Nov 11 2026. No macro, syntax, notation, axiom, sorry.
-/
import Derived.Test.YtjkogmfjfbmmiaaChecked
import GoSem.Claim
import GoSem.ClaimJoined
import GoSem.ClaimMapViews
import Derived.JoinedTies
import Derived.KernelRfl
namespace Go.Proofs.Ytjkogmfjfbmmiaa
/- THE CELL 'sum', in the pinned program and in every row, IS THE sha256 OF THE DUMP (.gsa) THAT YtjkogmfjfbmmiaaProg.lean LOADS. Nothing in Lean hashes anything: it is a label: what it is worth is what the hold of that sum in a sandbox is worth. -/
noncomputable def Try.pinned : Pinned := { name := "ytjkogmfjfbmmiaa", sum := "7da8a07d80e8650061c7e3f4d8e4899ffa0feca9cf8f34d636759fcca36b16a4", checked := Try.checked }
namespace Rows
def none {H : Type} : Left H := { results := [], args := [] }

/-- 'weighbridgelaw18.FsmRises': WHATEVER THE INPUT: true; the input reads as it did. -/
def fsmRisesSpec : ChangeSpec := { name := "fsmRises", fn := fun _ => fun
  | [d1, d2] => { results := [.lit (.bool true)], args := [d1, d2] }
  | _ => none }
def fsmRisesRow : OpenClaim := { program := "ytjkogmfjfbmmiaa", sum := "7da8a07d80e8650061c7e3f4d8e4899ffa0feca9cf8f34d636759fcca36b16a4", func := "weighbridge/weighbridgelaw18.FsmRises", spec := "fsmRises", unfollowed := true, recurses := true, apart := false }
def FsmRisesSaid : Prop := fsmRisesRow.holds Try.pinned (OpenSpec.ofChange fsmRisesSpec)

/-- ITS FALSE NEIGHBOUR: 'it returns false'. Refute it at one input. -/
def fsmRisesWrong : ChangeSpec := { name := "fsmRises", fn := fun _ => fun
  | [d1, d2] => { results := [.lit (.bool false)], args := [d1, d2] }
  | _ => none }
def FsmRisesWrongFalsely : Prop := fsmRisesRow.holds Try.pinned (OpenSpec.ofChange fsmRisesWrong)

/-- 'weighbridgelaw18.FsmWhole': WHATEVER THE INPUT: true; the input reads as it did. -/
def fsmWholeSpec : ChangeSpec := { name := "fsmWhole", fn := fun _ => fun
  | [d1, d2, d3] => { results := [.lit (.bool true)], args := [d1, d2, d3] }
  | _ => none }
def fsmWholeRow : OpenClaim := { program := "ytjkogmfjfbmmiaa", sum := "7da8a07d80e8650061c7e3f4d8e4899ffa0feca9cf8f34d636759fcca36b16a4", func := "weighbridge/weighbridgelaw18.FsmWhole", spec := "fsmWhole", unfollowed := true, recurses := true, apart := false }
def FsmWholeSaid : Prop := fsmWholeRow.holds Try.pinned (OpenSpec.ofChange fsmWholeSpec)

/-- ITS FALSE NEIGHBOUR: 'it returns false'. Refute it at one input. -/
def fsmWholeWrong : ChangeSpec := { name := "fsmWhole", fn := fun _ => fun
  | [d1, d2, d3] => { results := [.lit (.bool false)], args := [d1, d2, d3] }
  | _ => none }
def FsmWholeWrongFalsely : Prop := fsmWholeRow.holds Try.pinned (OpenSpec.ofChange fsmWholeWrong)

/-- 'weighbridgelaw18.FsmTimes': WHATEVER THE INPUT: true; the input reads as it did. -/
def fsmTimesSpec : ChangeSpec := { name := "fsmTimes", fn := fun _ => fun
  | [d1, d2] => { results := [.lit (.bool true)], args := [d1, d2] }
  | _ => none }
def fsmTimesRow : OpenClaim := { program := "ytjkogmfjfbmmiaa", sum := "7da8a07d80e8650061c7e3f4d8e4899ffa0feca9cf8f34d636759fcca36b16a4", func := "weighbridge/weighbridgelaw18.FsmTimes", spec := "fsmTimes", unfollowed := true, recurses := true, apart := false }
def FsmTimesSaid : Prop := fsmTimesRow.holds Try.pinned (OpenSpec.ofChange fsmTimesSpec)

/-- ITS FALSE NEIGHBOUR: 'it returns false'. Refute it at one input. -/
def fsmTimesWrong : ChangeSpec := { name := "fsmTimes", fn := fun _ => fun
  | [d1, d2] => { results := [.lit (.bool false)], args := [d1, d2] }
  | _ => none }
def FsmTimesWrongFalsely : Prop := fsmTimesRow.holds Try.pinned (OpenSpec.ofChange fsmTimesWrong)

/-- 'weighbridgelaw18.FsmStays': WHATEVER THE INPUT: true; the input reads as it did. -/
def fsmStaysSpec : ChangeSpec := { name := "fsmStays", fn := fun _ => fun
  | [d1, d2, d3, d4, d5, d6] => { results := [.lit (.bool true)], args := [d1, d2, d3, d4, d5, d6] }
  | _ => none }
def fsmStaysRow : OpenClaim := { program := "ytjkogmfjfbmmiaa", sum := "7da8a07d80e8650061c7e3f4d8e4899ffa0feca9cf8f34d636759fcca36b16a4", func := "weighbridge/weighbridgelaw18.FsmStays", spec := "fsmStays", unfollowed := true, recurses := true, apart := false }
def FsmStaysSaid : Prop := fsmStaysRow.holds Try.pinned (OpenSpec.ofChange fsmStaysSpec)

/-- ITS FALSE NEIGHBOUR: 'it returns false'. Refute it at one input. -/
def fsmStaysWrong : ChangeSpec := { name := "fsmStays", fn := fun _ => fun
  | [d1, d2, d3, d4, d5, d6] => { results := [.lit (.bool false)], args := [d1, d2, d3, d4, d5, d6] }
  | _ => none }
def FsmStaysWrongFalsely : Prop := fsmStaysRow.holds Try.pinned (OpenSpec.ofChange fsmStaysWrong)

/- THE SECOND FORM. 'bulk': how many values and letters a reading holds, each counted each time it is reached (what is shared counts as often as it is met; a slice's spare places count too). A statement '..UptoSaid' is the law's where the arguments, and the package variables that the reading takes, are together of bulk at most 1048576: NARROWER than '..Said'. Prove '..Said' where nothing that the law and all that it calls make is longer than what came in: it says more and counts as full. Else prove '..UptoSaid'. A law counts once. -/
mutual
def uptoBulk {H : Type} : DataW H → Nat
  | .lit (.string bytes) => bytes.length + 1
  | .lit _ => 1
  | .nil => 1
  | .ptr d => uptoBulk d + 1
  | .slice elems spare => uptoBulkAll elems + uptoBulkAll spare + 1
  | .agg parts => uptoBulkAll parts + 1
  | .iface _ d => uptoBulk d + 1
  | .map entries => uptoBulkEntries entries + 1
  | .held _ => 1
def uptoBulkAll {H : Type} : List (DataW H) → Nat
  | [] => 0
  | d :: r => uptoBulk d + uptoBulkAll r
def uptoBulkEntries {H : Type} : List (Lit × DataW H) → Nat
  | [] => 0
  | x :: r => uptoBulkEntry x + uptoBulkEntries r
def uptoBulkEntry {H : Type} : Lit × DataW H → Nat
  | (.string bytes, d) => bytes.length + uptoBulk d + 1
  | (_, d) => uptoBulk d + 1
 end
def uptoSmall : (H : Type) → List (DataW H) → Bool := fun _ ds => decide (uptoBulkAll ds ≤ 1048576)
def OpenSpec.upto (s : _root_.Go.ChangeSpec) : _root_.Go.OpenSpec := { _root_.Go.OpenSpec.ofChange s with cond := some uptoSmall }

/-- 'weighbridgelaw18.FsmRises', WHERE WHAT IT READS IS OF BULK AT MOST 1048576: true; the input reads as it did. -/
def fsmRisesUptoRow : OpenClaim := { program := "ytjkogmfjfbmmiaa", sum := "7da8a07d80e8650061c7e3f4d8e4899ffa0feca9cf8f34d636759fcca36b16a4", func := "weighbridge/weighbridgelaw18.FsmRises", spec := "fsmRises", unfollowed := true, recurses := true, apart := false, narrowed := true }
def FsmRisesUptoSaid : Prop := fsmRisesUptoRow.holds Try.pinned (OpenSpec.upto fsmRisesSpec)

/-- 'weighbridgelaw18.FsmWhole', WHERE WHAT IT READS IS OF BULK AT MOST 1048576: true; the input reads as it did. -/
def fsmWholeUptoRow : OpenClaim := { program := "ytjkogmfjfbmmiaa", sum := "7da8a07d80e8650061c7e3f4d8e4899ffa0feca9cf8f34d636759fcca36b16a4", func := "weighbridge/weighbridgelaw18.FsmWhole", spec := "fsmWhole", unfollowed := true, recurses := true, apart := false, narrowed := true }
def FsmWholeUptoSaid : Prop := fsmWholeUptoRow.holds Try.pinned (OpenSpec.upto fsmWholeSpec)

/-- 'weighbridgelaw18.FsmTimes', WHERE WHAT IT READS IS OF BULK AT MOST 1048576: true; the input reads as it did. -/
def fsmTimesUptoRow : OpenClaim := { program := "ytjkogmfjfbmmiaa", sum := "7da8a07d80e8650061c7e3f4d8e4899ffa0feca9cf8f34d636759fcca36b16a4", func := "weighbridge/weighbridgelaw18.FsmTimes", spec := "fsmTimes", unfollowed := true, recurses := true, apart := false, narrowed := true }
def FsmTimesUptoSaid : Prop := fsmTimesUptoRow.holds Try.pinned (OpenSpec.upto fsmTimesSpec)

/-- 'weighbridgelaw18.FsmStays', WHERE WHAT IT READS IS OF BULK AT MOST 1048576: true; the input reads as it did. -/
def fsmStaysUptoRow : OpenClaim := { program := "ytjkogmfjfbmmiaa", sum := "7da8a07d80e8650061c7e3f4d8e4899ffa0feca9cf8f34d636759fcca36b16a4", func := "weighbridge/weighbridgelaw18.FsmStays", spec := "fsmStays", unfollowed := true, recurses := true, apart := false, narrowed := true }
def FsmStaysUptoSaid : Prop := fsmStaysUptoRow.holds Try.pinned (OpenSpec.upto fsmStaysSpec)

end Rows
end Go.Proofs.Ytjkogmfjfbmmiaa
