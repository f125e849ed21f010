/- The walk of FsmStays. -/
import Derived.Test.YtjkogmfjfbmmiaaL
namespace Go.Proofs.Ytjkogmfjfbmmiaa
open Go.RowKit
set_option linter.unusedSimpArgs false
set_option linter.unusedVariables false

set_option maxHeartbeats 3200000 in
/-- A name is told just for the states that there are. -/
theorem name_c (s : Int) (w : World) : Calls Try.prog 13 #[.int .i64 s] w fun e w' => ∃ x : ByteArray, e = .returned (.string x) ∧ x.toList.isEmpty = !(decide (0 ≤ s) && decide (s ≤ 8)) ∧ Below w.heap.size w w' := by
  by_cases h0 : s < 0
  · go_enter Try.func13, Try.ntmps13
    go_wp2
    go_ret
    exact ⟨_, rfl, by simp [show ¬ 0 ≤ s by omega], (Below.refl _ _).alloc (Nat.le_refl _) _⟩
  by_cases h9 : 9 ≤ s
  · go_enter Try.func13, Try.ntmps13
    go_wp2
    go_ret
    exact ⟨_, rfl, by simp [show ¬ s ≤ 8 by omega], (Below.refl _ _).alloc (Nat.le_refl _) _⟩
  rcases (by omega : s = 0 ∨ s = 1 ∨ s = 2 ∨ s = 3 ∨ s = 4 ∨ s = 5 ∨ s = 6 ∨ s = 7 ∨ s = 8) with h | h | h | h | h | h | h | h | h <;> subst h
  all_goals
    go_enter Try.func13, Try.ntmps13
    go_wp2
    go_ret
    exact ⟨_, rfl, fun h => Bool.noConfusion (Eq.trans (Eq.symm (by kernel_rfl)) (congrArg List.isEmpty h) : false = true), (Below.refl _ _).alloc (Nat.le_refl _) _⟩
theorem fits_in {o p c wt u : Int} (h1 : 1 ≤ o ∧ o ≤ 65536) (h2 : 1 ≤ p ∧ p ≤ 65536) (h3 : 1 ≤ c ∧ c ≤ 65536) (h4 : 1 ≤ wt ∧ wt ≤ 65536) (h5 : 1 ≤ u ∧ u ≤ 65536) : fitsB o p c wt u = true := by
  unfold fitsB mayB
  simp
  omega
theorem fits_no4 (o p c u : Int) : fitsB o p c 0 u = false := by
  unfold fitsB mayB
  simp
theorem fits_no5 (o p c wt : Int) : fitsB o p c wt 1073741825 = false := by
  unfold fitsB mayB
  simp
theorem allD_pos {o p c wt u : Int} (h1 : 1 ≤ o) (h2 : 1 ≤ p) (h3 : 1 ≤ c) (h4 : 1 ≤ wt) (h5 : 1 ≤ u) (s : Int) : decide (0 < allD o p c wt u s) = allS s := by
  have e := allS_eq o p c wt u s
  rw [← e]
  unfold allD
  cases h : allN o p c wt u s with
  | none => rfl
  | some v =>
    unfold allN at h
    have : 1 ≤ v := by
      split at h
      · simp at h; omega
      split at h
      · simp at h; omega
      split at h
      · simp at h; omega
      split at h
      · simp at h; omega
      split at h
      · simp at h; omega
      · simp at h
    simp
    omega

set_option maxRecDepth 100000 in
set_option maxHeartbeats 1600000 in
theorem stays_c (a b c d u s : Int) (ha : 0 ≤ a ∧ a ≤ 65535) (hb : 0 ≤ b ∧ b ≤ 65535) (hc : 0 ≤ c ∧ c ≤ 65535) (hd : 0 ≤ d ∧ d ≤ 65535) (hu : 0 ≤ u ∧ u ≤ 65535) (hs : (Lit.int .i64 s).wf = true) (w : World) :
    Calls Try.prog 6 #[.int .u16 a, .int .u16 b, .int .u16 c, .int .u16 d, .int .u16 u, .int .i64 s] w fun e w' => e = .returned (.bool true) ∧ Below w.heap.size w w' := by
  obtain ⟨a0, a1⟩ := ha
  obtain ⟨b0, b1⟩ := hb
  obtain ⟨c0, c1⟩ := hc
  obtain ⟨d0, d1⟩ := hd
  obtain ⟨u0, u1⟩ := hu
  have F1 := Lib.hid (fits_in (o := 1 + a) (p := 1 + b) (c := 1 + c) (wt := 1 + d) (u := 1 + u) (by omega) (by omega) (by omega) (by omega) (by omega))
  have D1 := Lib.hid (allD_pos (o := 1 + a) (p := 1 + b) (c := 1 + c) (wt := 1 + d) (u := 1 + u) (by omega) (by omega) (by omega) (by omega) (by omega) s)
  go_enter Try.func6, Try.ntmps6
  go_wp2_with fail
  refine (examples_c _).mono ?_
  rintro e w1 ⟨rfl, hb1⟩
  go_wp2_with fail
  have H2 : Has (w1.alloc (Obj.cells #[.int .i64 (1 + a), .int .i64 (1 + b), .int .i64 (1 + c), .int .i64 (1 + d), .int .i64 (1 + u)] 31)) w1.heap.size 31 (fiveOf (1 + a) (1 + b) (1 + c) (1 + d) (1 + u)) := Has.new _ _ _
  refine (of_c (1 + a) (1 + b) (1 + c) (1 + d) (1 + u) s hs _).mono ?_
  rintro e w2 ⟨rfl, hbb⟩
  have H4 := H2.below hbb
  have hb2 : Below w.heap.size w w2 := (hb1.alloc hb1.size _).trans (hbb.mono (Nat.le_trans hb1.size (by simp)))
  clear H2 hbb hb1
  have l4 := H4.lt
  obtain ⟨x0, x1, x2, x3, x4⟩ := has5 H4
  generalize hn : allD (1 + a) (1 + b) (1 + c) (1 + d) (1 + u) s = n at D1
  clear hn
  go_wp2_with fail
  have H14 := (H4.alloc (Obj.cells (fiveOf (1 + a) (1 + b) (1 + c) 0 (1 + u)) 31)).alloc (Obj.cells (fiveOf (1 + a) (1 + b) (1 + c) (1 + d) 1073741825) 31)
  have H17 := (Has.new w2 (fiveOf (1 + a) (1 + b) (1 + c) 0 (1 + u)) 31).alloc (Obj.cells (fiveOf (1 + a) (1 + b) (1 + c) (1 + d) 1073741825) 31)
  have H18 := Has.new (w2.alloc (Obj.cells (fiveOf (1 + a) (1 + b) (1 + c) 0 (1 + u)) 31)) (fiveOf (1 + a) (1 + b) (1 + c) (1 + d) 1073741825) 31
  rw [show (w2.alloc (Obj.cells (fiveOf (1 + a) (1 + b) (1 + c) 0 (1 + u)) 31)).heap.size = w2.heap.size + 1 from by simp] at H18
  have B3 := (hb2.alloc hb2.size (Obj.cells (fiveOf (1 + a) (1 + b) (1 + c) 0 (1 + u)) 31)).alloc (by have := hb2.size; simp; omega) (Obj.cells (fiveOf (1 + a) (1 + b) (1 + c) (1 + d) 1073741825) 31)
  refine (right_c _ _ _ _ _ _).mono ?_
  rintro e w3 ⟨rfl, hbb⟩
  rw [F1.out]
  have H17' := H17.below hbb
  have H18' := H18.below hbb
  have B3' := B3.trans (hbb.mono B3.size)
  clear H14 H17 H18 B3 hbb H4 hb2 l4 x0 x1 x2 x3 x4
  obtain ⟨x0, x1, x2, x3, x4⟩ := has5 H17'
  go_wp2_with fail
  refine (right_c _ _ _ _ _ _).mono ?_
  rintro e w4 ⟨rfl, hbb⟩
  rw [fits_no4]
  have H18 := H18'.below hbb
  have B4 := B3'.trans (hbb.mono B3'.size)
  clear H17' H18' B3' hbb x0 x1 x2 x3 x4
  obtain ⟨x0, x1, x2, x3, x4⟩ := has5 H18
  go_wp2_with fail
  refine (right_c _ _ _ _ _ _).mono ?_
  rintro e w5 ⟨rfl, hbb⟩
  rw [fits_no5]
  have B5 := B4.trans (hbb.mono B4.size)
  clear H18 B4 hbb x0 x1 x2 x3 x4
  rcases (by omega : s < 0 ∨ s = 0 ∨ (1 ≤ s ∧ s ≤ 8) ∨ 8 < s) with h | h | h | h
  · have e0 : allS s = false := by unfold allS; simp; omega
    have e1 := D1.out
    rw [e0] at e1
    have e2 : ¬ 0 < n := by simpa using e1
    have e3 : ¬ 0 < s := by omega
    have e4 : ¬ 0 ≤ s := by omega
    have e5 : s ≤ 8 := by omega
    rw [e0]
    clear e0 e1 D1 F1
    go_wp2_with fail
    refine (name_c s _).mono ?_
    rintro e w6 ⟨x, rfl, hx, hbb⟩
    have hx2 : x.toList.isEmpty = true := by rw [hx]; simp; omega
    have B6 := B5.trans (hbb.mono B5.size)
    clear hbb B5 hx
    go_wp2
    go_ret
    refine ⟨?_, B6⟩
    simp [e2, hx2]
  · have e0 : allS s = false := by unfold allS; simp; omega
    have e1 := D1.out
    rw [e0] at e1
    have e2 : ¬ 0 < n := by simpa using e1
    have e3 : ¬ 0 < s := by omega
    have e4 : 0 ≤ s := by omega
    have e5 : s ≤ 8 := by omega
    rw [e0]
    clear e0 e1 D1 F1 h
    go_wp2_with fail
    refine (name_c s _).mono ?_
    rintro e w6 ⟨x, rfl, hx, hbb⟩
    have hx2 : x.toList.isEmpty = false := by rw [hx]; simp; omega
    have B6 := B5.trans (hbb.mono B5.size)
    clear hbb B5 hx
    go_wp2
    go_ret
    refine ⟨?_, B6⟩
    simp [e2, hx2]
  · have e0 : allS s = true := by unfold allS; simp; omega
    have e1 := D1.out
    rw [e0] at e1
    have e2 : 0 < n := by simpa using e1
    have e3 : 0 < s := by omega
    have e4 : 0 ≤ s := by omega
    have e5 : s ≤ 8 := by omega
    rw [e0]
    clear e0 e1 D1 F1 h
    go_wp2_with fail
    refine (name_c s _).mono ?_
    rintro e w6 ⟨x, rfl, hx, hbb⟩
    have hx2 : x.toList.isEmpty = false := by rw [hx]; simp; omega
    have B6 := B5.trans (hbb.mono B5.size)
    clear hbb B5 hx
    go_wp2
    go_ret
    refine ⟨?_, B6⟩
    simp [e2, hx2]
  · have e0 : allS s = false := by unfold allS; simp; omega
    have e1 := D1.out
    rw [e0] at e1
    have e2 : ¬ 0 < n := by simpa using e1
    have e3 : 0 < s := by omega
    have e4 : 0 ≤ s := by omega
    have e5 : ¬ s ≤ 8 := by omega
    rw [e0]
    clear e0 e1 D1 F1
    go_wp2_with fail
    refine (name_c s _).mono ?_
    rintro e w6 ⟨x, rfl, hx, hbb⟩
    have hx2 : x.toList.isEmpty = true := by rw [hx]; simp; omega
    have B6 := B5.trans (hbb.mono B5.size)
    clear hbb B5 hx
    go_wp2
    go_ret
    refine ⟨?_, B6⟩
    simp [e2, hx2, h]
theorem stays_w (a : Int) (ha : (Lit.int .u16 a).wf = true) (b : Int) (hb : (Lit.int .u16 b).wf = true) (c : Int) (hc : (Lit.int .u16 c).wf = true) (d : Int) (hd : (Lit.int .u16 d).wf = true) (u : Int) (hu : (Lit.int .u16 u).wf = true) (s : Int) (hs : (Lit.int .i64 s).wf = true) (w : World) :
    Calls Try.prog 6 #[.int .u16 a, .int .u16 b, .int .u16 c, .int .u16 d, .int .u16 u, .int .i64 s] w fun e w' => e = .returned (.bool true) ∧ Below w.heap.size w w' :=
  stays_c a b c d u s (wf_u16 ha) (wf_u16 hb) (wf_u16 hc) (wf_u16 hd) (wf_u16 hu) hs w
end Go.Proofs.Ytjkogmfjfbmmiaa
