/- The walks of Of, Right and the document's. -/
import Derived.Test.YtjkogmfjfbmmiaaJ
namespace Go.Proofs.Ytjkogmfjfbmmiaa
open Go.RowKit
set_option linter.unusedSimpArgs false
set_option linter.unusedVariables false

def allD (o p c wt u s : Int) : Int := (allN o p c wt u s).getD 0
def allS (s : Int) : Bool := (decide (1 ≤ s) && decide (s ≤ 8))
theorem allS_eq (o p c wt u s : Int) : (allN o p c wt u s).isSome = allS s := by
  unfold allN allS
  by_cases h1 : 1 ≤ s
  · by_cases h2 : s ≤ 8
    · rcases (by omega : s = 1 ∨ s = 2 ∨ s = 3 ∨ s = 4 ∨ s = 5 ∨ s = 6 ∨ s = 7 ∨ s = 8) with h | h | h | h | h | h | h | h <;> subst h <;> rfl
    · simp [h2, show ¬ (s = 1 ∨ s = 2) by omega, show ¬ s = 3 by omega, show ¬ (s = 4 ∨ s = 5 ∨ s = 6) by omega, show ¬ s = 7 by omega, show ¬ s = 8 by omega]
  · simp [h1, show ¬ (s = 1 ∨ s = 2) by omega, show ¬ s = 3 by omega, show ¬ (s = 4 ∨ s = 5 ∨ s = 6) by omega, show ¬ s = 7 by omega, show ¬ s = 8 by omega]
theorem allM_at (o p c wt u s : Int) : (allM o p c wt u (.int .i64 s)).getD (.int .i64 0) = .int .i64 (allD o p c wt u s) := by
  unfold allD
  rw [show allM o p c wt u (.int .i64 s) = (allN o p c wt u s).map (Value.int .i64) from rfl]
  cases allN o p c wt u s <;> rfl
theorem allM_in (o p c wt u s : Int) : (allM o p c wt u (.int .i64 s)).isSome = allS s := by
  rw [← allS_eq o p c wt u s]
  rw [show allM o p c wt u (.int .i64 s) = (allN o p c wt u s).map (Value.int .i64) from rfl]
  cases allN o p c wt u s <;> rfl

set_option maxHeartbeats 800000 in
theorem of_c (o p c wt u s : Int) (hs : (Lit.int .i64 s).wf = true) (w : World) : Calls Try.prog 9 #[.agg #[.int .i64 o, .int .i64 p, .int .i64 c, .int .i64 wt, .int .i64 u], .int .i64 s] w fun e w' => e = .returned (.tuple #[.int .i64 (allD o p c wt u s), .bool (allS s)]) ∧ Below w.heap.size w w' := by
  go_enter Try.func9, Try.ntmps9
  go_wp2_with fail
  refine (all_c o p c wt u _).mono ?_
  rintro e w1 ⟨rfl, G, hb⟩
  have hb1 : Below w.heap.size w w1 := ((Below.refl _ _).alloc (Nat.le_refl _) _).trans (hb.mono (by simp))
  clear hb
  rw [show (w.alloc (Obj.cells #[.int .i64 o, .int .i64 p, .int .i64 c, .int .i64 wt, .int .i64 u] 31)).heap.size = w.heap.size + 1 from by simp] at G
  go_wp2_with (at_lookup; go_loud (refine wpList_gm_look_ok _ rfl _ _ _ rfl keyed3 Try.underlying43 zero3 rfl G _ (.int .i64 _) rfl (Maps.keyOf_int_mk Try.underlying3 hs) _ (allM_at _ _ _ _ _ _) _ (allM_in _ _ _ _ _ _) ?_))
  go_ret2
  exact ⟨rfl, hb1⟩

theorem rof_c (o p c wt u s : Int) (w : World) : Calls Try.prog 10 #[.agg #[.int .i64 o, .int .i64 p, .int .i64 c, .int .i64 wt, .int .i64 u], .int .i64 s] w fun e w' => e = .returned (.tuple #[.int .i64 (allD o p c wt u s), .bool (allS s)]) ∧ Below w.heap.size w w' := by
  have hb1 : Below w.heap.size w (w.alloc (Obj.cells #[.int .i64 o, .int .i64 p, .int .i64 c, .int .i64 wt, .int .i64 u] 32)) := (Below.refl _ _).alloc (Nat.le_refl _) _
  by_cases h1 : s = 1
  · subst h1; go_enter Try.func10, Try.ntmps10; go_wp2; go_ret2; exact ⟨rfl, hb1⟩
  by_cases h2 : s = 2
  · subst h2; go_enter Try.func10, Try.ntmps10; go_wp2; go_ret2; exact ⟨rfl, hb1⟩
  by_cases h3 : s = 3
  · subst h3; go_enter Try.func10, Try.ntmps10; go_wp2; go_ret2; exact ⟨rfl, hb1⟩
  by_cases h4 : s = 4
  · subst h4; go_enter Try.func10, Try.ntmps10; go_wp2; go_ret2; exact ⟨rfl, hb1⟩
  by_cases h5 : s = 5
  · subst h5; go_enter Try.func10, Try.ntmps10; go_wp2; go_ret2; exact ⟨rfl, hb1⟩
  by_cases h6 : s = 6
  · subst h6; go_enter Try.func10, Try.ntmps10; go_wp2; go_ret2; exact ⟨rfl, hb1⟩
  by_cases h7 : s = 7
  · subst h7; go_enter Try.func10, Try.ntmps10; go_wp2; go_ret2; exact ⟨rfl, hb1⟩
  by_cases h8 : s = 8
  · subst h8; go_enter Try.func10, Try.ntmps10; go_wp2; go_ret2; exact ⟨rfl, hb1⟩
  have e1 : allD o p c wt u s = 0 := by unfold allD allN; simp [h1, h2, h3, h4, h5, h6, h7, h8]
  have e2 : allS s = false := by unfold allS; simp; omega
  rw [e1, e2]
  go_enter Try.func10, Try.ntmps10
  go_wp2
  go_ret2
  exact ⟨rfl, hb1⟩

def mayB (n : Int) : Bool := decide (1 ≤ n) && decide (n ≤ 1073741824)
theorem may_c (n : Int) (w : World) : Calls Try.prog 18 #[.int .i64 n] w fun e w' => e = .returned (.bool (mayB n)) ∧ w = w' := by
  unfold mayB
  by_cases h1 : 1 ≤ n
  · by_cases h2 : n ≤ 1073741824
    all_goals (go_enter Try.func18, Try.ntmps18; go_wp2; go_ret; refine ⟨?_, rfl⟩; simp [h1, h2]; try omega)
  · go_enter Try.func18, Try.ntmps18; go_wp2; go_ret; refine ⟨?_, rfl⟩; simp [h1]; try omega
def fitsB (o p c wt u : Int) : Bool := mayB o && (mayB p && (mayB c && (mayB wt && mayB u)))

set_option maxHeartbeats 800000 in
theorem fits_b (o p c wt u : Int) (b1 b2 b3 b4 b5 : Bool) (h1 : mayB o = b1) (h2 : mayB p = b2) (h3 : mayB c = b3) (h4 : mayB wt = b4) (h5 : mayB u = b5) (w : World) : Calls Try.prog 12 #[.agg #[.int .i64 o, .int .i64 p, .int .i64 c, .int .i64 wt, .int .i64 u]] w fun e w' => e = .returned (.bool (b1 && (b2 && (b3 && (b4 && b5))))) ∧ Below w.heap.size w w' := by
  have hb1 : Below w.heap.size w (w.alloc (Obj.cells #[.int .i64 o, .int .i64 p, .int .i64 c, .int .i64 wt, .int .i64 u] 32)) := (Below.refl _ _).alloc (Nat.le_refl _) _
  cases b1
  · go_enter Try.func12, Try.ntmps12
    go_wp2_with (go_at_call 18; refine (may_c _ _).mono ?_; rintro e w' ⟨rfl, rfl⟩; simp only [h1])
    go_ret; exact ⟨rfl, hb1⟩
  cases b2
  · go_enter Try.func12, Try.ntmps12
    go_wp2_with (go_at_call 18; refine (may_c _ _).mono ?_; rintro e w' ⟨rfl, rfl⟩; simp only [h1, h2])
    go_ret; exact ⟨rfl, hb1⟩
  cases b3
  · go_enter Try.func12, Try.ntmps12
    go_wp2_with (go_at_call 18; refine (may_c _ _).mono ?_; rintro e w' ⟨rfl, rfl⟩; simp only [h1, h2, h3])
    go_ret; exact ⟨rfl, hb1⟩
  cases b4
  · go_enter Try.func12, Try.ntmps12
    go_wp2_with (go_at_call 18; refine (may_c _ _).mono ?_; rintro e w' ⟨rfl, rfl⟩; simp only [h1, h2, h3, h4])
    go_ret; exact ⟨rfl, hb1⟩
  cases b5
  · go_enter Try.func12, Try.ntmps12
    go_wp2_with (go_at_call 18; refine (may_c _ _).mono ?_; rintro e w' ⟨rfl, rfl⟩; simp only [h1, h2, h3, h4, h5])
    go_ret; exact ⟨rfl, hb1⟩
  · go_enter Try.func12, Try.ntmps12
    go_wp2_with (go_at_call 18; refine (may_c _ _).mono ?_; rintro e w' ⟨rfl, rfl⟩; simp only [h1, h2, h3, h4, h5])
    go_ret; exact ⟨rfl, hb1⟩
theorem fits_c (o p c wt u : Int) (w : World) : Calls Try.prog 12 #[.agg #[.int .i64 o, .int .i64 p, .int .i64 c, .int .i64 wt, .int .i64 u]] w fun e w' => e = .returned (.bool (fitsB o p c wt u)) ∧ Below w.heap.size w w' :=
  fits_b o p c wt u _ _ _ _ _ rfl rfl rfl rfl rfl w

theorem three (c : Int) : c < 1 ∨ (¬ c < 1 ∧ 1073741824 < c) ∨ (¬ c < 1 ∧ ¬ 1073741824 < c) := by omega
theorem allM_val {o p c wt u : Int} (kl : Lit) (v : Value) (h : allM o p c wt u kl = some v) : ∃ x, v = Value.int .i64 x := by
  unfold allM at h
  split at h
  · rw [Option.map_eq_some_iff] at h
    obtain ⟨y, _, rfl⟩ := h
    exact ⟨y, rfl⟩
  · simp at h
theorem allM_inv {o p c wt u x v : Int} (h : allM o p c wt u (.int .i64 x) = some (.int .i64 v)) : allN o p c wt u x = some v := by
  rw [show allM o p c wt u (.int .i64 x) = (allN o p c wt u x).map (Value.int .i64) from rfl, Option.map_eq_some_iff] at h
  obtain ⟨y, h1, h2⟩ := h
  cases h2
  exact h1
theorem allN_fits {o p c wt u : Int} (h : ∀ k v, allN o p c wt u k = some v → mayB v = true) : fitsB o p c wt u = true := by
  unfold fitsB
  rw [h 1 o rfl, h 3 p rfl, h 4 c rfl, h 7 wt rfl, h 8 u rfl]
  rfl
theorem allN_not {o p c wt u : Int} {k v : Int} (h : allN o p c wt u k = some v) (hv : mayB v = false) : fitsB o p c wt u = false := by
  unfold fitsB
  unfold allN at h
  split at h
  · simp at h; subst h; simp [hv]
  split at h
  · simp at h; subst h; simp [hv]
  split at h
  · simp at h; subst h; simp [hv]
  split at h
  · simp at h; subst h; simp [hv]
  split at h
  · simp at h; subst h; simp [hv]
  · simp at h

set_option maxHeartbeats 800000 in
theorem right_c (o p c wt u : Int) (w : World) : Calls Try.prog 11 #[.agg #[.int .i64 o, .int .i64 p, .int .i64 c, .int .i64 wt, .int .i64 u]] w fun e w' => e = .returned (.bool (fitsB o p c wt u)) ∧ Below w.heap.size w w' := by
  go_enter Try.func11, Try.ntmps11
  go_wp2_with fail
  refine (all_c o p c wt u _).mono ?_
  rintro e w1 ⟨rfl, G, hb⟩
  have hb1 : Below w.heap.size w w1 := ((Below.refl _ _).alloc (Nat.le_refl _) _).trans (hb.mono (by simp))
  clear hb
  rw [show (w.alloc (Obj.cells #[.int .i64 o, .int .i64 p, .int .i64 c, .int .i64 wt, .int .i64 u] 31)).heap.size = w.heap.size + 1 from by simp] at G
  go_wp2_with (at_range; go_loud (refine wpList_gm_range _ rfl _ _ rfl keyed3 Try.underlying43 rfl G ?_; intro w2 R hb2 hs2))
  have hb3 : Below w.heap.size w w2 := hb1.trans (hb2.mono hb1.size)
  clear hb2 G
  go_frame
  go_loopw [] (fun wr => ∃ left cnt, GRange Try.prog wr 3 (w.heap.size + 1 + 1) w1.heap.size (allM o p c wt u) left cnt ∧ Below w.heap.size w wr ∧ (∀ kl, left kl = true → (allM o p c wt u kl).isSome = true) ∧ ∀ k v, allN o p c wt u k = some v → left (.int .i64 k) = false → mayB v = true) (fun wr => wr.rangeLeft (w.heap.size + 1 + 1) w1.heap.size)
  case atStart => exact ⟨_, _, R, hb3, fun _ h => h, fun k v h h' => by rw [allM_in, ← allS_eq o p c wt u k, h] at h'; simp at h'⟩
  case round =>
    obtain ⟨left, cnt, R2, hb4, hL, hV⟩ := hrel
    go_wp2_with (at_next; go_loud (refine wpList_gm_next (α := Int) (β := Int) _ rfl _ rfl keyed3 (Value.int .i64) (Value.int .i64) (fun key kl hk => by obtain ⟨x, h, _⟩ := Maps.keyOf_int_inv Try.underlying3 hk; exact ⟨x, h⟩) rfl R2 R2.lt allM_val hL (fun hdone => ?_) (fun x cv kl w3 cnt' hk hlk hM R3 hlt hbB hs3 hen => (three cv).elim (fun h1 => ?_) (fun h => h.elim (fun ⟨h1, h2⟩ => ?_) (fun ⟨h1, h2⟩ => ?_)))))
    · go_ret
      rw [allN_fits fun k v h => hV k v h (hdone _)]
      exact ⟨rfl, hb4⟩
    · obtain ⟨_, e1, rfl, _⟩ := Maps.keyOf_int_inv Try.underlying3 hk
      cases e1
      go_ret
      rw [allN_not (allM_inv hM) (v := cv) (by simp [mayB]; omega)]
      exact ⟨rfl, hb4.trans (hbB _ hb1.size)⟩
    · obtain ⟨_, e1, rfl, _⟩ := Maps.keyOf_int_inv Try.underlying3 hk
      cases e1
      go_ret
      rw [allN_not (allM_inv hM) (v := cv) (by simp [mayB]; omega)]
      exact ⟨rfl, hb4.trans (hbB _ hb1.size)⟩
    · obtain ⟨_, e1, rfl, _⟩ := Maps.keyOf_int_inv Try.underlying3 hk
      cases e1
      go_roundw
      case rel =>
        refine ⟨_, _, R3, hb4.trans (hbB _ hb1.size), fun kl h => hL kl (by simp at h; exact h.1), fun k v hv h => ?_⟩
        by_cases e : k = x
        · subst e
          have := allM_inv hM
          rw [hv] at this
          simp at this
          subst this
          simp [mayB]; omega
        · refine hV k v hv ?_
          simpa [Lit.sameKey, e] using h
      case measure => rw [R3.left_eq, R2.left_eq]; exact hlt
end Go.Proofs.Ytjkogmfjfbmmiaa
