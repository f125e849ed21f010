/- TwinRoom: the plain part. -/
import Derived.Test.YtckbffbjdcnklaaRTw4
import Derived.Test.YtckbffbjdcnklaaRTw5
import Derived.Test.YtckbffbjdcnklaaEx
namespace Go.Proofs.Ytckbffbjdcnklaa
open Go.RowKit
set_option linter.unusedSimpArgs false
set_option linter.unusedVariables false
open R

theorem R.TS.move {w0 : Base} {w w' : World} {tb g cap am bm room m cnt : Nat} {T : Nat → Option R.Row} {fa : Int → Option Nat} {fb : Int → Option Nat} {fr : Value} (h : R.TS w0 w tb g cap am bm room m cnt T fa fb fr) {S Z : Nat → Prop} (c : Chg S w w') (n : ¬ S tb ∧ ¬ S g ∧ ¬ S am ∧ ¬ S bm) (hz : ∀ b, Z b → b < w'.heap.size) (n2 : ¬ Z tb ∧ ¬ Z g ∧ ¬ Z am ∧ ¬ Z bm) : R.TS ⟨w', Z⟩ w' tb g cap am bm room m cnt T fa fb fr := by
  obtain ⟨MA, q1, q2⟩ := h.ma
  obtain ⟨MB, q3, q4⟩ := h.mb
  exact ⟨(c.block _ h.head.lt n.1).trans h.head, h.rows.of_block (c.block _ h.rows.lt n.2.1), ⟨MA, q1.of_block (c.block _ q1.lt n.2.2.1), q2⟩, ⟨MB, q3.of_block (c.block _ q3.lt n.2.2.2), q4⟩, h.coA, h.coB, h.okR, h.ne, n2, Keeps.refl _ hz, h.hm, h.hc, h.hr⟩
/-- "v". -/
def sv : ByteArray := ⟨#[118]⟩
def sw : ByteArray := ⟨#[119]⟩
/-- j things are in: i and -i, under the handle i + 1. -/
structure RI (j : Nat) (T : Nat → Option R.Row) (fa : Int → Option Nat) (fb : Int → Option Nat) : Prop where
  a : ∀ y : Int, fa y = if 0 ≤ y ∧ y < (j : Int) then some (y.toNat + 1) else none
  b : ∀ y : Int, fb y = if 0 ≤ -y ∧ -y < (j : Int) then some ((-y).toNat + 1) else none
  r : ∀ h : Nat, T h = if 1 ≤ h ∧ h ≤ j then some ⟨(h : Int) - 1, -((h : Int) - 1), sv⟩ else none
theorem RI.start : RI 0 (fun _ => none) (fun _ => none) (fun _ => none) := by
  refine ⟨fun y => ?_, fun y => ?_, fun h => ?_⟩
  all_goals
    rw [if_neg (by omega)]
theorem RI.put {j : Nat} {T : Nat → Option R.Row} {fa : Int → Option Nat} {fb : Int → Option Nat} (h : RI j T fa fb) : RI (j + 1) (R.setR T (j + 1) (some ⟨(j : Int), -(j : Int), sv⟩)) (R.updF fa (j : Int) (some (j + 1))) (R.updF fb (-(j : Int)) (some (j + 1))) := by
  refine ⟨fun y => ?_, fun y => ?_, fun k => ?_⟩
  · by_cases e : y = (j : Int)
    · subst e; rw [R.updF_same, if_pos (by omega)]; simp
    · rw [R.updF_other _ _ e, h.a y]
      by_cases q : 0 ≤ y ∧ y < (j : Int)
      · rw [if_pos q, if_pos (by omega)]
      · rw [if_neg q, if_neg (by omega)]
  · by_cases e : y = -(j : Int)
    · subst e; rw [R.updF_same, if_pos (by omega)]; simp
    · rw [R.updF_other _ _ e, h.b y]
      by_cases q : 0 ≤ -y ∧ -y < (j : Int)
      · rw [if_pos q, if_pos (by omega)]
      · rw [if_neg q, if_neg (by omega)]
  · unfold R.setR
    by_cases e : k = j + 1
    · subst e; rw [if_pos rfl, if_pos (by omega)]; simp
    · rw [if_neg e, h.r k]
      by_cases q : 1 ≤ k ∧ k ≤ j
      · rw [if_pos q, if_pos (by omega)]
      · rw [if_neg q, if_neg (by omega)]
theorem hs_full {T : Nat → Option R.Row} (h0 : T 0 = none) : ∀ (n : Nat), (∀ k, 1 ≤ k → k ≤ n → (T k).isSome = true) → (R.hs T (n + 1)).length = n
  | 0, _ => by rw [R.hs_no (by rw [h0]; rfl)]; rfl
  | n + 1, h => by
    rw [R.hs_yes (h (n + 1) (by omega) (Nat.le_refl _)), List.length_append, hs_full h0 n (fun k h1 h2 => h k h1 (by omega))]
    rfl
theorem wfi (x : Int) (h1 : -1000 ≤ x) (h2 : x ≤ 1000) : (Lit.int .i64 x).wf = true := by
  have hmin : IntKind.i64.min = -9223372036854775808 := rfl
  have hmax : IntKind.i64.max = 9223372036854775807 := rfl
  simp only [Lit.wf, Bool.and_eq_true, decide_eq_true_eq]
  omega
end Go.Proofs.Ytckbffbjdcnklaa
