/- Contracts of fsm's inner functions. -/
import Derived.Test.YtjkogmfjfbmmiaaRows
import Derived.Test.YtjkogmfjfbmmiaaLib
import Derived.Deep.QuietTactic
import Derived.BigQuiet
namespace Go.Proofs.Ytjkogmfjfbmmiaa
open Go.RowKit
set_option linter.unusedSimpArgs false
set_option linter.unusedVariables false

/-- Is the flag set? -/
def hasB (f m : Int) : Bool := bits BinOp.and IntKind.i64 f m != 0

theorem has_c (k : Nat) (f m : Int) (w : World) (h : w.cell? ⟨k, 0, none⟩ = some (.int .i64 f)) :
    Calls Try.prog 14 #[.int .i64 m, .pointer (some ⟨k, 0, none⟩)] w fun e w' => e = .returned (.bool (hasB f m)) ∧ w = w' := by
  go_enter Try.func14, Try.ntmps14
  go_wp2
  go_ret
  exact ⟨by simp [hasB], rfl⟩

theorem opening0 (b s a f : Bool) (w : World) : Calls Try.prog 15 #[.int .i64 0, .agg #[.bool b, .bool s, .bool a, .bool f]] w fun e w' => e = .returned (.tuple #[.int .i64 1, .bool (!b && s && !a && !f)]) ∧ Below w.heap.size w w' := by
  cases b <;> cases s <;> cases a <;> cases f
  all_goals
    go_enter Try.func15, Try.ntmps15
    go_wp2
    go_quiet (fail)
    go_wp2
    go_ret2
    exact ⟨rfl, Below.trans ((Below.refl _ _).alloc (Nat.le_refl _) _) ⟨rfl, rfl, rfl, Nat.le_refl _, fun _ _ => rfl⟩⟩

theorem opening1 (b s a f : Bool) (w : World) : Calls Try.prog 15 #[.int .i64 1, .agg #[.bool b, .bool s, .bool a, .bool f]] w fun e w' => e = .returned (.tuple #[.int .i64 (if b && s && a then 2 else 1), .bool (b && s && a || !b && s && !a)]) ∧ Below w.heap.size w w' := by
  cases b <;> cases s <;> cases a <;> cases f
  all_goals
    go_enter Try.func15, Try.ntmps15
    go_wp2
    go_ret2
    exact ⟨rfl, (Below.refl _ _).alloc (Nat.le_refl _) _⟩

def op2N (b s a f : Bool) : Int := if b && s && a || !b && s && !a then 2 else if f then 4 else 3
def op2B (b s a f : Bool) : Bool := (b && s && a || !b && s && !a) || (!b && a && !s)
set_option maxHeartbeats 1600000 in
theorem opening2 (b s a f : Bool) (w : World) : Calls Try.prog 15 #[.int .i64 2, .agg #[.bool b, .bool s, .bool a, .bool f]] w fun e w' => e = .returned (.tuple #[.int .i64 (op2N b s a f), .bool (op2B b s a f)]) ∧ Below w.heap.size w w' := by
  by_cases h : (b && s && a || !b && s && !a) = true
  · cases b <;> cases s <;> cases a <;> simp at h <;> cases f
    all_goals
      go_enter Try.func15, Try.ntmps15
      go_wp2
      go_ret2
      exact ⟨rfl, (Below.refl _ _).alloc (Nat.le_refl _) _⟩
  · cases b <;> cases s <;> cases a <;> simp at h <;> cases f
    all_goals
      go_enter Try.func15, Try.ntmps15
      go_wp2
      go_quiet (fail)
      go_wp2
      go_ret2
      exact ⟨rfl, Below.trans ((Below.refl _ _).alloc (Nat.le_refl _) _) ⟨rfl, rfl, rfl, Nat.le_refl _, fun _ _ => rfl⟩⟩
end Go.Proofs.Ytjkogmfjfbmmiaa
