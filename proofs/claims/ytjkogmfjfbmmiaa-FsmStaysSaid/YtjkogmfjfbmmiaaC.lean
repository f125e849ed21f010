/- Contracts of fsm.Step. -/
import Derived.Test.YtjkogmfjfbmmiaaB
namespace Go.Proofs.Ytjkogmfjfbmmiaa
open Go.RowKit
set_option linter.unusedSimpArgs false
set_option linter.unusedVariables false

/-- Step, as plain numbers. -/
def opN (st : Int) (b s a f : Bool) : Int := if st = 0 then 1 else if st = 1 then (if b && s && a then 2 else 1) else op2N b s a f
def opB (st : Int) (b s a f : Bool) : Bool := if st = 0 then !b && s && !a && !f else if st = 1 then (b && s && a || !b && s && !a) else op2B b s a f
def stN (st : Int) (b s a r f : Bool) : Int :=
  if r then 0 else if st < 3 then (if opB st b s a f then opN st b s a f else 0) else if s && !a then 0 else clN st b a f
def stB (st : Int) (b s a r f : Bool) : Bool :=
  if r then st != 0 else if st < 3 then opB st b s a f else if s && !a then false else true

theorem opening_c (st : Int) (h : st = 0 ∨ st = 1 ∨ st = 2) (b s a f : Bool) (w : World) : Calls Try.prog 15 #[.int .i64 st, .agg #[.bool b, .bool s, .bool a, .bool f]] w fun e w' => e = .returned (.tuple #[.int .i64 (opN st b s a f), .bool (opB st b s a f)]) ∧ Below w.heap.size w w' := by
  rcases h with rfl | rfl | rfl
  · exact opening0 b s a f w
  · exact opening1 b s a f w
  · exact opening2 b s a f w
theorem closing_c (st : Int) (h0 : 3 ≤ st) (h1 : st ≤ 7) (b s a f : Bool) (w : World) : Calls Try.prog 16 #[.int .i64 st, .agg #[.bool b, .bool s, .bool a, .bool f]] w fun e w' => e = .returned (.int .i64 (clN st b a f)) ∧ Below w.heap.size w w' := by
  obtain rfl | rfl | rfl | rfl | rfl : st = 3 ∨ st = 4 ∨ st = 5 ∨ st = 6 ∨ st = 7 := by omega
  · exact closing3 b s a f w
  · exact closing4 b s a f w
  · exact closing5 b s a f w
  · exact closing6 b s a f w
  · exact closing7 b s a f w

set_option maxHeartbeats 1600000 in
theorem step_low (st : Int) (h0 : 0 ≤ st) (h1 : st ≤ 2) (b : Bool) (f : Int) (r : Bool) (w : World) (hr : hasB f 4 = r) : Calls Try.prog 8 #[.int .i64 st, .bool b, .int .i64 f] w fun e w' => e = .returned (.tuple #[.int .i64 (stN st b (hasB f 2) (hasB f 16) r (hasB f 1)), .bool (stB st b (hasB f 2) (hasB f 16) r (hasB f 1))]) ∧ Below w.heap.size w w' := by
  have hmf : ∀ (fn : Fn) (first cap : Array Value) (w : World), (Instr.makeFunc fn first cap).run Try.prog w = .ok (.func fn first cap) w := fun _ _ _ _ => rfl
  have hs : st = 0 ∨ st = 1 ∨ st = 2 := by omega
  have HS := Lib.hid hs
  clear hs
  have g0 : ¬ st < 0 := by omega
  have g1 : ¬ 7 < st := by omega
  have g2 : st < 3 := by omega
  cases r
  · go_enter Try.func8, Try.ntmps8
    go_wp2_with (go_at_call 14; refine (has_c _ f _ _ ?_).mono ?_; (simp [go_sem]); rintro e w' ⟨rfl, rfl⟩)
    refine (opening_c st HS.out _ _ _ _ _).mono ?_
    rintro e w1 ⟨rfl, hb⟩
    have hb1 : Below w.heap.size w w1 := (((Below.refl _ _).alloc (Nat.le_refl _) _).alloc (by simp) _).trans (hb.mono (by simp; omega))
    clear hb
    cases hok : opB st b (hasB f 2) (hasB f 16) (hasB f 1)
    · have HO := Lib.hid hok
      go_wp2
      go_ret2
      exact ⟨by simp [stN, stB, g2, HO.out], hb1⟩
    · have HO := Lib.hid hok
      go_wp2
      go_ret2
      exact ⟨by simp [stN, stB, g2, HO.out], hb1⟩
  · go_enter Try.func8, Try.ntmps8
    go_wp2_with (go_at_call 14; refine (has_c _ f _ _ ?_).mono ?_; (simp [go_sem]); rintro e w' ⟨rfl, rfl⟩)
    go_ret2
    exact ⟨by simp [stN, stB], ((Below.refl _ _).alloc (Nat.le_refl _) _).alloc (by simp) _⟩

end Go.Proofs.Ytjkogmfjfbmmiaa
