/- The examples of tables. -/
import Derived.Test.YtckbffbjdcnklaaPTw2
namespace Go.Proofs.Ytckbffbjdcnklaa
open Go.RowKit
set_option linter.unusedSimpArgs false
set_option linter.unusedVariables false
open P

set_option maxRecDepth 100000 in
set_option maxHeartbeats 3200000 in
theorem examples_c (w : World) : Calls Try.prog 7 #[] w fun e w' => e = .returned (.bool true) ∧ Below w.heap.size w w' := by
  go_enter Try.func7, Try.ntmps7
  go_wp2_with fail
  refine (new_c 2 (by omega) (by omega) w).mono ?_
  rintro e w1 ⟨tb, g, am, bm, rfl, T1⟩
  go_wp2_with fail
  refine (new_bad 0 (by omega) w1).mono ?_
  rintro e w' ⟨rfl, rfl⟩
  have k1 : okA ⟨#[120]⟩ := by show (1 : Nat) ≤ maxLen; unfold maxLen; omega
  have k2 : okA ⟨#[121]⟩ := by show (1 : Nat) ≤ maxLen; unfold maxLen; omega
  have k5 : okB 5 := by show (Lit.int .i64 5).wf = true; decide
  have K := Lib.hid (And.intro k1 (And.intro k2 k5))
  clear k1 k2 k5
  go_wp2_with fail
  refine (put_new T1 ⟨#[120]⟩ 5 ⟨#[118]⟩ K.out.1 K.out.2.2 rfl rfl (by omega) (by omega) (by omega)).mono ?_
  rintro e w2 ⟨g2, cap2, rfl, T2⟩
  clear T1
  go_wp2_with fail
  refine (put_old T2 ⟨#[121]⟩ 5 ⟨#[119]⟩ K.out.2.1 K.out.2.2 (.inr (by rw [updF_same]; rfl))).mono ?_
  rintro e w' ⟨rfl, rfl⟩
  go_wp2_with fail
  refine (byB_c T2 5 K.out.2.2).mono ?_
  rintro e w' ⟨rfl, rfl⟩
  rw [updF_same]
  go_wp2_with fail
  refine (get_yes T2 1 ⟨⟨#[120]⟩, 5, ⟨#[118]⟩⟩ rfl).mono ?_
  rintro e w' ⟨rfl, rfl⟩
  have FIN : Hid (Below w.heap.size w w2) := T2.bel.below (fun b hb => hb)
  clear T2
  unfold vV
  go_wp2
  go_ret
  exact ⟨rfl, FIN.out⟩
end Go.Proofs.Ytckbffbjdcnklaa
