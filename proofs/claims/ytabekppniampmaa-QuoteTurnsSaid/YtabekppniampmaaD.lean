/- The walk of QuoteTurns. -/
import Derived.Test.YtabekppniampmaaC
namespace Go.Proofs.Ytabekppniampmaa
open Go.RowKit
set_option linter.unusedSimpArgs false
set_option linter.unusedVariables false

set_option maxRecDepth 100000 in
set_option maxHeartbeats 2000000 in
theorem turns_c (cp cs cd ca cb bp bs bd ba bb sv be st : Int) (dsr : Bool) (w : World) :
    Calls Try.prog 3 #[flow cp cs cd ca cb bp bs bd ba bb sv be st dsr] w fun e w' => e = .returned (.bool true) ∧ Below w.heap.size w w' := by
  have A0 := Has.new w #[.int .i64 cp, .int .u32 cs, .int .u32 cd, .int .i64 ca, .int .i64 cb, .int .i64 bp, .int .u32 bs, .int .u32 bd, .int .i64 ba, .int .i64 bb, .int .i64 sv, .int .i64 be, .int .i64 st, .bool dsr] 26
  unfold flow
  go_enter Try.func3, Try.ntmps3
  go_wp2_with fail
  refine (examples_c _).mono ?_
  rintro e w1 ⟨rfl, hb⟩
  have hb1 : Below w.heap.size w w1 := ((Below.refl _ _).alloc (Nat.le_refl _) _).trans (hb.mono (by simp))
  have A1 := A0.below hb
  clear A0 hb
  have c1 := A1.cell
  go_wp2_with fail
  refine (plain_f cp cs cd ca cb bp bs bd ba bb sv be st dsr _).mono ?_
  rintro e w2 ⟨rfl, hb⟩
  have hb2 : Below w.heap.size w w2 := hb1.trans (hb.mono hb1.size)
  have A2 := A1.below hb
  have B2 := Has.new w2 #[.int .u32 bs, .int .u32 bd, .int .i64 ba, .int .i64 bb] 29
  clear c1 A1 hb hb1
  have l2 := A2.lt
  have c2 := A2.cell
  go_wp2_with fail
  refine (plain_t cp cs cd ca cb bp bs bd ba bb sv be st dsr _).mono ?_
  rintro e w3 ⟨rfl, hb⟩
  have hb3 : Below w.heap.size w w3 := (hb2.alloc hb2.size _).trans (hb.mono (by simp; omega))
  have A3 := (A2.alloc _).below hb
  have B3 := B2.below hb
  have C3 := Has.new w3 #[.int .u32 cd, .int .u32 cs, .int .i64 cb, .int .i64 ca] 29
  clear c2 l2 A2 B2 hb hb2
  have l3 := A3.lt
  have c3 := A3.cell
  go_wp2_with fail
  refine (about_f cp cs cd ca cb bp bs bd ba bb sv be st dsr _).mono ?_
  rintro e w4 ⟨rfl, hb⟩
  have hb4 : Below w.heap.size w w4 := (hb3.alloc hb3.size _).trans (hb.mono (by simp; omega))
  have A4 := (A3.alloc _).below hb
  have B4 := (B3.alloc _).below hb
  have C4 := C3.below hb
  have D4 := Has.new w4 #[.int .u32 bd, .int .u32 bs, .int .i64 bb, .int .i64 ba] 29
  clear c3 l3 A3 B3 C3 hb hb3
  have l4 := A4.lt
  have c4 := A4.cell
  go_wp2_with fail
  refine (about_t cp cs cd ca cb bp bs bd ba bb sv be st dsr _).mono ?_
  rintro e w5 ⟨rfl, hb⟩
  have hb5 : Below w.heap.size w w5 := (hb4.alloc hb4.size _).trans (hb.mono (by simp; omega))
  have A5 := (A4.alloc _).below hb
  have B5 := (B4.alloc _).below hb
  have C5 := (C4.alloc _).below hb
  have D5 := D4.below hb
  clear c4 l4 A4 B4 C4 D4 hb hb4
  have lA := A5.lt
  have lB := B5.lt
  have lC := C5.lt
  have lD := D5.lt
  have cA := A5.cell
  have cB := B5.cell
  have cC := C5.cell
  have cD := D5.cell
  clear A5 B5 C5 D5
  go_wp2
  go_ret
  exact ⟨rfl, hb5.alloc hb5.size _⟩
end Go.Proofs.Ytabekppniampmaa
