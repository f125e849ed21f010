/- The walk of FsmTimes. -/
import Derived.Test.YtjkogmfjfbmmiaaK
import Derived.Deep.RegionHeld3
namespace Go.Proofs.Ytjkogmfjfbmmiaa
open Go.RowKit
set_option linter.unusedSimpArgs false
set_option linter.unusedVariables false

def fiveOf (o p c wt u : Int) : Array Value := #[.int .i64 o, .int .i64 p, .int .i64 c, .int .i64 wt, .int .i64 u]
theorem has5 {w : World} {b : Nat} {t : TypeId} {o p c wt u : Int} (h : Has w b t (fiveOf o p c wt u)) : w.cell? ⟨b, 0, none⟩ = some (.int .i64 o) ∧ w.cell? ⟨b, 1, none⟩ = some (.int .i64 p) ∧ w.cell? ⟨b, 2, none⟩ = some (.int .i64 c) ∧ w.cell? ⟨b, 3, none⟩ = some (.int .i64 wt) ∧ w.cell? ⟨b, 4, none⟩ = some (.int .i64 u) :=
  ⟨h.cell 0, h.cell 1, h.cell 2, h.cell 3, h.cell 4⟩

set_option maxRecDepth 100000 in
set_option maxHeartbeats 1600000 in
theorem times_c (o p c wt u s : Int) (hs : (Lit.int .i64 s).wf = true) (w : World) : Calls Try.prog 5 #[.agg #[.int .i64 o, .int .i64 p, .int .i64 c, .int .i64 wt, .int .i64 u], .int .i64 s] w fun e w' => e = .returned (.bool true) ∧ Below w.heap.size w w' := by
  go_enter Try.func5, Try.ntmps5
  go_wp2_with fail
  have H0 : Has (w.alloc (Obj.cells #[.int .i64 o, .int .i64 p, .int .i64 c, .int .i64 wt, .int .i64 u] 31)) w.heap.size 31 (fiveOf o p c wt u) := Has.new _ _ _
  have B0 : Below w.heap.size w (w.alloc (Obj.cells #[.int .i64 o, .int .i64 p, .int .i64 c, .int .i64 wt, .int .i64 u] 31)) := (Below.refl _ _).alloc (Nat.le_refl _) _
  refine (examples_c _).mono ?_
  rintro e w1 ⟨rfl, hb⟩
  have H1 := H0.below hb
  have hb1 := B0.trans (hb.mono B0.size)
  clear H0 B0 hb
  obtain ⟨c0, c1, c2, c3, c4⟩ := has5 H1
  have l1 := H1.lt
  go_wp2_with fail
  have H2 : Has (w1.alloc (Obj.cells #[.int .i64 o, .int .i64 p, .int .i64 c, .int .i64 wt, .int .i64 u] 32)) w1.heap.size 32 (fiveOf o p c wt u) := Has.new _ _ _
  have H3 := H1.alloc (Obj.cells #[.int .i64 o, .int .i64 p, .int .i64 c, .int .i64 wt, .int .i64 u] 32)
  refine (of_c o p c wt u s hs _).mono ?_
  rintro e w2 ⟨rfl, hb⟩
  have H4 := H2.below hb
  have H5 := H3.below hb
  have hb2 := (hb1.alloc hb1.size _).trans (hb.mono (Nat.le_trans hb1.size (by simp)))
  clear c0 c1 c2 c3 c4 l1 H1 H2 H3 hb hb1
  obtain ⟨c0, c1, c2, c3, c4⟩ := has5 H4
  go_wp2_with fail
  refine (rof_c o p c wt u s _).mono ?_
  rintro e w3 ⟨rfl, hb⟩
  have H6 := H4.below hb
  have H7 := H5.below hb
  have hb3 := hb2.trans (hb.mono hb2.size)
  clear c0 c1 c2 c3 c4 H4 H5 hb hb2
  have HS : Hid (∀ W : World, Below w3.heap.size w3 W → (W.cell? ⟨w.heap.size, 0, none⟩ = some (.int .i64 o) ∧ W.cell? ⟨w.heap.size, 1, none⟩ = some (.int .i64 p) ∧ W.cell? ⟨w.heap.size, 2, none⟩ = some (.int .i64 c) ∧ W.cell? ⟨w.heap.size, 3, none⟩ = some (.int .i64 wt) ∧ W.cell? ⟨w.heap.size, 4, none⟩ = some (.int .i64 u) ∧ W.cell? ⟨w1.heap.size, 0, none⟩ = some (.int .i64 o) ∧ W.cell? ⟨w1.heap.size, 1, none⟩ = some (.int .i64 p) ∧ W.cell? ⟨w1.heap.size, 2, none⟩ = some (.int .i64 c) ∧ W.cell? ⟨w1.heap.size, 3, none⟩ = some (.int .i64 wt) ∧ W.cell? ⟨w1.heap.size, 4, none⟩ = some (.int .i64 u)) ∧ Below w3.heap.size w3 W) := by
    intro W q
    obtain ⟨a0, a1, a2, a3, a4⟩ := has5 (H7.below q)
    obtain ⟨e0, e1, e2, e3, e4⟩ := has5 (H6.below q)
    exact ⟨⟨a0, a1, a2, a3, a4, e0, e1, e2, e3, e4⟩, q⟩
  have HB := Lib.hid hb3
  obtain ⟨fb, hfb⟩ : ∃ fb, fb = fitsB o p c wt u := ⟨_, rfl⟩
  have R := fun w => right_c o p c wt u w
  have F := fun w => fits_c o p c wt u w
  rw [← hfb] at R F
  generalize allD o p c wt u s = ad
  have HR := Lib.hid R
  have HF := Lib.hid F
  clear H6 H7 hb3 R F hfb
  go_wp2_with fail
  go_region_held3 (fun W => (W.cell? ⟨w.heap.size, 0, none⟩ = some (.int .i64 o) ∧ W.cell? ⟨w.heap.size, 1, none⟩ = some (.int .i64 p) ∧ W.cell? ⟨w.heap.size, 2, none⟩ = some (.int .i64 c) ∧ W.cell? ⟨w.heap.size, 3, none⟩ = some (.int .i64 wt) ∧ W.cell? ⟨w.heap.size, 4, none⟩ = some (.int .i64 u) ∧ W.cell? ⟨w1.heap.size, 0, none⟩ = some (.int .i64 o) ∧ W.cell? ⟨w1.heap.size, 1, none⟩ = some (.int .i64 p) ∧ W.cell? ⟨w1.heap.size, 2, none⟩ = some (.int .i64 c) ∧ W.cell? ⟨w1.heap.size, 3, none⟩ = some (.int .i64 wt) ∧ W.cell? ⟨w1.heap.size, 4, none⟩ = some (.int .i64 u)) ∧ Below w3.heap.size w3 W)
    (first | exact HS.out _ (Below.drew (Below.refl _ _)) | exact HS.out _ ((Below.drew (Below.refl _ _)).trans hA) | exact HS.out _ ((Below.drew (Below.refl _ _)).trans hB) | exact HS.out _ (((Below.drew (Below.refl _ _)).trans hA).trans (hB.mono hA.size)) | exact HS.out _ (((Below.drew (Below.refl _ _)).trans hB).trans (hA.mono hB.size)))
    (first | (go_at_call 11; refine (HR.out _).mono ?_; rintro e wA ⟨rfl, hA⟩) | (go_at_call 12; refine (HF.out _).mono ?_; rintro e wB ⟨rfl, hB⟩))
  all_goals
    rename_i hx
    have BL := HB.out.trans (hx.2.mono HB.out.size)
    clear hx HS hA hB
    go_wp2
    go_ret
    exact ⟨rfl, BL⟩
theorem times_w (o p c wt u : Int) (_ : IntKind.i64.has o) (_ : IntKind.i64.has p) (_ : IntKind.i64.has c) (_ : IntKind.i64.has wt) (_ : IntKind.i64.has u) (s : Int) (hs : (Lit.int .i64 s).wf = true) (w : World) : Calls Try.prog 5 #[.agg #[.int .i64 o, .int .i64 p, .int .i64 c, .int .i64 wt, .int .i64 u], .int .i64 s] w fun e w' => e = .returned (.bool true) ∧ Below w.heap.size w w' := times_c o p c wt u s hs w
end Go.Proofs.Ytjkogmfjfbmmiaa
