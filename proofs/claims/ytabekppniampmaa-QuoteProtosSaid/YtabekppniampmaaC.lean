/- Contracts: examples, Name, tuple. -/
import Derived.Test.YtabekppniampmaaB
namespace Go.Proofs.Ytabekppniampmaa
open Go.RowKit
set_option linter.unusedSimpArgs false
set_option linter.unusedVariables false

theorem tuple_c (p s d a b : Int) (w : World) :
    Calls Try.prog 9 #[.int .i64 p, .int .u32 s, .int .u32 d, .int .i64 a, .int .i64 b] w fun e w' => e = .returned (.agg #[.int .i64 p, .int .u32 s, .int .u32 d, .int .i64 a, .int .i64 b]) ∧ Below w.heap.size w w' := by
  go_enter Try.func9, Try.ntmps9
  go_wp2
  exact bodyPost_ret (by simp [results, Try.results9, go_sem]) rfl ⟨rfl, ((Below.refl _ _).alloc (Nat.le_refl _) _)⟩

set_option maxHeartbeats 400000 in
theorem examples_c (w : World) : Calls Try.prog 6 #[] w fun e w' => e = .returned (.bool true) ∧ Below w.heap.size w w' := by
  go_enter Try.func6, Try.ntmps6
  go_wp2_with fail
  refine (about_t 0 1 2 3 4 0 5 6 7 8 0 0 0 false _).mono ?_
  rintro e w1 ⟨rfl, hb⟩
  have hz := hb.size
  have hb1 : Below w.heap.size w w1 := ((Below.refl _ _).alloc (Nat.le_refl _) _).trans (hb.mono (by simp))
  obtain ⟨hc, hf⟩ := bcell hb
  have hlt : w.heap.size < w1.heap.size := by have := hz; simp at this; omega
  have hq := fun o => hc w.heap.size o (by simp)
  clear hb hf hc hz
  go_wp2_with fail
  refine (plain_t 0 1 2 3 4 0 5 6 7 8 0 0 0 false _).mono ?_
  rintro e w2 ⟨rfl, hb⟩
  have hz := hb.size
  have hb2 : Below w.heap.size w w2 := (hb1.alloc hb1.size _).trans (hb.mono (by simp; omega))
  obtain ⟨hc, hf⟩ := bcell hb
  simp at hz
  have hr := fun o => hc w1.heap.size o (by simp)
  clear hb hc hf hq hb1
  go_wp2
  go_ret
  exact ⟨rfl, hb2⟩

end Go.Proofs.Ytabekppniampmaa
