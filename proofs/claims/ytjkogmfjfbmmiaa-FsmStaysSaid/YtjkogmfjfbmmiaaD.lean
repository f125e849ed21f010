/- Contracts of fsm.Step from the open states on. -/
import Derived.Test.YtjkogmfjfbmmiaaC
namespace Go.Proofs.Ytjkogmfjfbmmiaa
open Go.RowKit
set_option linter.unusedSimpArgs false
set_option linter.unusedVariables false

set_option maxHeartbeats 1600000 in
theorem step_high (st : Int) (h0 : 3 ≤ st) (h1 : st ≤ 7) (b : Bool) (f : Int) (r : Bool) (w : World) (hr : hasB f 4 = r) : Calls Try.prog 8 #[.int .i64 st, .bool b, .int .i64 f] w fun e w' => e = .returned (.tuple #[.int .i64 (stN st b (hasB f 2) (hasB f 16) r (hasB f 1)), .bool (stB st b (hasB f 2) (hasB f 16) r (hasB f 1))]) ∧ Below w.heap.size w w' := by
  have hmf : ∀ (fn : Fn) (first cap : Array Value) (w : World), (Instr.makeFunc fn first cap).run Try.prog w = .ok (.func fn first cap) w := fun _ _ _ _ => rfl
  have g0 : ¬ st < 0 := by omega
  have g1 : ¬ 7 < st := by omega
  have g2 : ¬ st < 3 := by omega
  have gz : (st != 0) = true := by simp; omega
  cases r
  · cases hs : hasB f 2
    · go_enter Try.func8, Try.ntmps8
      go_wp2_with (go_at_call 14; refine (has_c _ f _ _ ?_).mono ?_; (simp [go_sem]); rintro e w' ⟨rfl, rfl⟩)
      refine (closing_c st h0 h1 _ _ _ _ _).mono ?_
      rintro e w1 ⟨rfl, hb⟩
      have hb1 : Below w.heap.size w w1 := (((Below.refl _ _).alloc (Nat.le_refl _) _).alloc (by simp) _).trans (hb.mono (by simp; omega))
      clear hb
      have HS := Lib.hid hs
      clear hs
      go_wp2
      go_ret2
      exact ⟨by simp [stN, stB, show ¬ st < 3 by omega], hb1⟩
    · cases ha : hasB f 16
      · go_enter Try.func8, Try.ntmps8
        go_wp2_with (go_at_call 14; refine (has_c _ f _ _ ?_).mono ?_; (simp [go_sem]); rintro e w' ⟨rfl, rfl⟩)
        go_ret2
        exact ⟨by simp [stN, stB, show ¬ st < 3 by omega], ((Below.refl _ _).alloc (Nat.le_refl _) _).alloc (by simp) _⟩
      · go_enter Try.func8, Try.ntmps8
        go_wp2_with (go_at_call 14; refine (has_c _ f _ _ ?_).mono ?_; (simp [go_sem]); rintro e w' ⟨rfl, rfl⟩)
        refine (closing_c st h0 h1 _ _ _ _ _).mono ?_
        rintro e w1 ⟨rfl, hb⟩
        have hb1 : Below w.heap.size w w1 := (((Below.refl _ _).alloc (Nat.le_refl _) _).alloc (by simp) _).trans (hb.mono (by simp; omega))
        clear hb
        go_wp2
        go_ret2
        exact ⟨by simp [stN, stB, show ¬ st < 3 by omega], hb1⟩
  · go_enter Try.func8, Try.ntmps8
    go_wp2_with (go_at_call 14; refine (has_c _ f _ _ ?_).mono ?_; (simp [go_sem]); rintro e w' ⟨rfl, rfl⟩)
    go_ret2
    exact ⟨by simp [stN, stB]; omega, ((Below.refl _ _).alloc (Nat.le_refl _) _).alloc (by simp) _⟩

theorem step_c (st : Int) (h0 : 0 ≤ st) (h1 : st ≤ 7) (b : Bool) (f : Int) (w : World) : Calls Try.prog 8 #[.int .i64 st, .bool b, .int .i64 f] w fun e w' => e = .returned (.tuple #[.int .i64 (stN st b (hasB f 2) (hasB f 16) (hasB f 4) (hasB f 1)), .bool (stB st b (hasB f 2) (hasB f 16) (hasB f 4) (hasB f 1))]) ∧ Below w.heap.size w w' := by
  by_cases h : st ≤ 2
  · exact step_low st h0 h b f _ w rfl
  · exact step_high st (by omega) h1 b f _ w rfl

/-- 'Name' of 7. -/
theorem name7 (w : World) : Calls Try.prog 13 #[.int .i64 7] w fun e w' => e = .returned (.string ⟨#[119, 97, 105, 116]⟩) ∧ Below w.heap.size w w' := by
  go_enter Try.func13, Try.ntmps13
  go_wp2
  go_ret
  exact ⟨rfl, (Below.refl _ _).alloc (Nat.le_refl _) _⟩

set_option maxHeartbeats 400000 in
theorem examples_c (w : World) : Calls Try.prog 7 #[] w fun e w' => e = .returned (.bool true) ∧ Below w.heap.size w w' := by
  go_enter Try.func7, Try.ntmps7
  go_wp2_with fail
  refine (step_c 0 (by omega) (by omega) false 2 _).mono ?_
  rintro e w1 ⟨rfl, hb1⟩
  rw [show stN 0 false (hasB 2 2) (hasB 2 16) (hasB 2 4) (hasB 2 1) = 1 from by decide, show stB 0 false (hasB 2 2) (hasB 2 16) (hasB 2 4) (hasB 2 1) = true from by decide]
  go_wp2_with fail
  refine (step_c 0 (by omega) (by omega) true 2 _).mono ?_
  rintro e w2 ⟨rfl, hb2⟩
  rw [show stN 0 true (hasB 2 2) (hasB 2 16) (hasB 2 4) (hasB 2 1) = 0 from by decide, show stB 0 true (hasB 2 2) (hasB 2 16) (hasB 2 4) (hasB 2 1) = false from by decide]
  go_wp2_with fail
  refine (step_c 3 (by omega) (by omega) true 4 _).mono ?_
  rintro e w3 ⟨rfl, hb3⟩
  rw [show stN 3 true (hasB 4 2) (hasB 4 16) (hasB 4 4) (hasB 4 1) = 0 from by decide, show stB 3 true (hasB 4 2) (hasB 4 16) (hasB 4 4) (hasB 4 1) = true from by decide]
  go_wp2_with fail
  refine (name7 _).mono ?_
  rintro e w4 ⟨rfl, hb4⟩
  have hb : Below w.heap.size w w4 := (hb1.trans ((hb2.mono hb1.size).trans ((hb3.mono (Nat.le_trans hb1.size hb2.size)).trans (hb4.mono (Nat.le_trans hb1.size (Nat.le_trans hb2.size hb3.size))))))
  clear hb1 hb2 hb3 hb4
  go_wp2
  go_ret
  exact ⟨rfl, hb⟩
end Go.Proofs.Ytjkogmfjfbmmiaa
