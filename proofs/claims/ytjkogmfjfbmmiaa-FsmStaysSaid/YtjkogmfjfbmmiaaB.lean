/- Contracts of fsm's closing. -/
import Derived.Test.YtjkogmfjfbmmiaaA
namespace Go.Proofs.Ytjkogmfjfbmmiaa
open Go.RowKit
set_option linter.unusedSimpArgs false
set_option linter.unusedVariables false

/-- closing, as plain numbers. -/
def clN (st : Int) (b a f : Bool) : Int :=
  if st = 3 ∧ f = true ∧ b = true then 5 else if st = 3 ∧ f = true then 4 else if st = 4 ∧ f = true ∧ b = true ∨ st = 5 ∧ f = true ∧ b = false then 6 else if st = 6 ∧ a = true ∧ f = false then 7 else st

set_option maxHeartbeats 1600000 in
theorem closing3 (b s a f : Bool) (w : World) : Calls Try.prog 16 #[.int .i64 3, .agg #[.bool b, .bool s, .bool a, .bool f]] w fun e w' => e = .returned (.int .i64 (clN 3 b a f)) ∧ Below w.heap.size w w' := by
  cases b <;> cases f
  all_goals
    go_enter Try.func16, Try.ntmps16
    go_wp2
    go_ret
    exact ⟨rfl, (Below.refl _ _).alloc (Nat.le_refl _) _⟩
set_option maxHeartbeats 1600000 in
theorem closing4 (b s a f : Bool) (w : World) : Calls Try.prog 16 #[.int .i64 4, .agg #[.bool b, .bool s, .bool a, .bool f]] w fun e w' => e = .returned (.int .i64 (clN 4 b a f)) ∧ Below w.heap.size w w' := by
  cases b <;> cases f
  all_goals
    go_enter Try.func16, Try.ntmps16
    go_wp2
    go_ret
    exact ⟨rfl, (Below.refl _ _).alloc (Nat.le_refl _) _⟩
set_option maxHeartbeats 1600000 in
theorem closing5 (b s a f : Bool) (w : World) : Calls Try.prog 16 #[.int .i64 5, .agg #[.bool b, .bool s, .bool a, .bool f]] w fun e w' => e = .returned (.int .i64 (clN 5 b a f)) ∧ Below w.heap.size w w' := by
  cases b <;> cases f
  all_goals
    go_enter Try.func16, Try.ntmps16
    go_wp2
    go_ret
    exact ⟨rfl, (Below.refl _ _).alloc (Nat.le_refl _) _⟩
set_option maxHeartbeats 1600000 in
theorem closing6 (b s a f : Bool) (w : World) : Calls Try.prog 16 #[.int .i64 6, .agg #[.bool b, .bool s, .bool a, .bool f]] w fun e w' => e = .returned (.int .i64 (clN 6 b a f)) ∧ Below w.heap.size w w' := by
  cases a <;> cases f
  all_goals
    go_enter Try.func16, Try.ntmps16
    go_wp2
    go_ret
    exact ⟨by cases b <;> rfl, (Below.refl _ _).alloc (Nat.le_refl _) _⟩
set_option maxHeartbeats 1600000 in
theorem closing7 (b s a f : Bool) (w : World) : Calls Try.prog 16 #[.int .i64 7, .agg #[.bool b, .bool s, .bool a, .bool f]] w fun e w' => e = .returned (.int .i64 (clN 7 b a f)) ∧ Below w.heap.size w w' := by
  go_enter Try.func16, Try.ntmps16
  go_wp2
  go_ret
  exact ⟨by simp [clN], (Below.refl _ _).alloc (Nat.le_refl _) _⟩
end Go.Proofs.Ytjkogmfjfbmmiaa
