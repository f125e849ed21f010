/- SipHash and Mix (chapter 11): that they answer, whatever. SipHash and Mix (chapter 11), the rest: word, add, Hash, Mix; draw. -/
import Derived.Test.YtngdebpaheejlaaGreatDoorZc
import Derived.Laws.Closers25b
namespace Go.Proofs.YtngdebpaheejlaaGreatDoor
open Go.RowKit
set_option linter.unusedSimpArgs false
set_option linter.unusedVariables false
attribute [local go_sem] bs_app bs_size bs_bt bs_extract numB_len
theorem rot_c (x k : Int) (hk : k = 13 ∨ k = 16 ∨ k = 32 ∨ k = 17 ∨ k = 21) : ∃ y : Int, ∀ w, Calls Tryz.prog 206 #[.int .u64 x, .int .i64 k] w fun e w' => e = .returned (.int .u64 y) ∧ Below w.heap.size w w' := by
  have b1 : bits BinOp.and IntKind.u64 13 63 = 13 := by decide
  have b2 : bits BinOp.and IntKind.u64 16 63 = 16 := by decide
  have b3 : bits BinOp.and IntKind.u64 32 63 = 32 := by decide
  have b4 : bits BinOp.and IntKind.u64 17 63 = 17 := by decide
  have b5 : bits BinOp.and IntKind.u64 21 63 = 21 := by decide
  rcases hk with rfl | rfl | rfl | rfl | rfl
  · refine ⟨bits BinOp.or IntKind.u64 (IntKind.u64.wrap (x * 8192)) (x / 2251799813685248), fun w => ?_⟩
    go_enter Tryz.func206, Tryz.ntmps206
    go_wp2_with fail
    go_ret
    exact ⟨rfl, Below.refl _ _⟩
  · refine ⟨bits BinOp.or IntKind.u64 (IntKind.u64.wrap (x * 65536)) (x / 281474976710656), fun w => ?_⟩
    go_enter Tryz.func206, Tryz.ntmps206
    go_wp2_with fail
    go_ret
    exact ⟨rfl, Below.refl _ _⟩
  · refine ⟨bits BinOp.or IntKind.u64 (IntKind.u64.wrap (x * 4294967296)) (x / 4294967296), fun w => ?_⟩
    go_enter Tryz.func206, Tryz.ntmps206
    go_wp2_with fail
    go_ret
    exact ⟨rfl, Below.refl _ _⟩
  · refine ⟨bits BinOp.or IntKind.u64 (IntKind.u64.wrap (x * 131072)) (x / 140737488355328), fun w => ?_⟩
    go_enter Tryz.func206, Tryz.ntmps206
    go_wp2_with fail
    go_ret
    exact ⟨rfl, Below.refl _ _⟩
  · refine ⟨bits BinOp.or IntKind.u64 (IntKind.u64.wrap (x * 2097152)) (x / 8796093022208), fun w => ?_⟩
    go_enter Tryz.func206, Tryz.ntmps206
    go_wp2_with fail
    go_ret
    exact ⟨rfl, Below.refl _ _⟩
set_option maxRecDepth 100000 in
set_option maxHeartbeats 3200000 in
theorem rounds_c {T : TypeId} (vb n : Nat) (hn : n ≤ 4) (p q r s : Int) (w : World) (h : Has w vb T #[.int .u64 p, .int .u64 q, .int .u64 r, .int .u64 s]) :
    Calls Tryz.prog 184 #[.pointer (some ⟨vb, 0, none⟩), .int .i64 n] w fun e w' => e = .returned (.tuple #[]) ∧ ∃ p' q' r' s' : Int, Has w' vb T #[.int .u64 p', .int .u64 q', .int .u64 r', .int .u64 s'] ∧ Chg (fun b => b = vb) w w' := by
  go_enter Tryz.func184, Tryz.ntmps184
  go_wp2_with fail
  go_loopw [5] (fun i wr => ∃ (j : Nat) (p q r s : Int), j ≤ n ∧ i = .int .i64 j ∧ Has wr vb T #[.int .u64 p, .int .u64 q, .int .u64 r, .int .u64 s] ∧ Chg (fun b => b = vb) w wr) (fun i _ => n - (intOf i).toNat)
  case atStart => exact ⟨0, p, q, r, s, by omega, rfl, h, Chg.refl _ _⟩
  case round =>
    clear h p q r s
    obtain ⟨j, v0, v1, v2, v3, hj, rfl, h, g0⟩ := hrel
    have g := Lib.hid g0
    clear g0
    by_cases hjn : j < n
    case neg =>
      have hi : ¬ (j : Int) < (n : Int) := by omega
      go_wp2_with fail
      refine bodyPost_end (v := .tuple #[]) (by simp [results, Tryz.f184, go_sem]) rfl ⟨rfl, ⟨v0, v1, v2, v3, h⟩, g.out⟩
    have hi : (j : Int) < (n : Int) := by omega
    go_wp2_with fail
    have c0 := fun V : Gr wr => (V.has h).cell 0
    have c1 := fun V : Gr wr => (V.has h).cell 1
    have c2 := fun V : Gr wr => (V.has h).cell 2
    have c3 := fun V : Gr wr => (V.has h).cell 3
    simp at c0 c1 c2 c3
    refine wp_region_grows_mid 11 (by kernel_rfl) (by kernel_rfl) ?_
    simp only [List.take_succ_cons, List.take_zero, List.drop_succ_cons, List.drop_zero]
    repeat (go_big_quiet_step (fail))
    refine wpQuiet_nil ?_
    intro V
    have hV := V.has h
    have zf := hV.free 0
    have zc := c0 V
    go_wp2_with fail
    rename_i hK9
    refine hK9 _ _ ?_
    obtain ⟨u0, hu⟩ : ∃ u, IntKind.u64.wrap (v0 + v1) = u := ⟨_, rfl⟩
    rw [hu]
    have h1 : Has (V.1.setCell ⟨vb, 0, none⟩ (.int .u64 u0)) vb T #[.int .u64 u0, .int .u64 v1, .int .u64 v2, .int .u64 v3] := by have := hV.set 0 (.int .u64 u0); simpa using this
    have g1 := Lib.hid ((g.out.trans (Chg.of_below V.2)).set (b := vb) rfl 0 (.int .u64 u0))
    obtain ⟨w1, hw⟩ : ∃ W, W = V.1.setCell ⟨vb, 0, none⟩ (.int .u64 u0) := ⟨_, rfl⟩
    rw [← hw] at h1 g1 ⊢
    clear hw c0 c1 c2 c3 zf zc hV h g hK9
    clear hu
    go_wp2_with fail
    have c0 := fun V : Gr w1 => (V.has h1).cell 0
    have c1 := fun V : Gr w1 => (V.has h1).cell 1
    have c2 := fun V : Gr w1 => (V.has h1).cell 2
    have c3 := fun V : Gr w1 => (V.has h1).cell 3
    simp at c0 c1 c2 c3
    refine wp_region_grows_mid 11 (by kernel_rfl) (by kernel_rfl) ?_
    simp only [List.take_succ_cons, List.take_zero, List.drop_succ_cons, List.drop_zero]
    repeat (go_big_quiet_step (fail))
    refine wpQuiet_nil ?_
    intro V
    have hV := V.has h1
    have zf := hV.free 2
    have zc := c2 V
    go_wp2_with fail
    rename_i hK9
    refine hK9 _ _ ?_
    obtain ⟨u1, hu⟩ : ∃ u, IntKind.u64.wrap (v2 + v3) = u := ⟨_, rfl⟩
    rw [hu]
    have h2 : Has (V.1.setCell ⟨vb, 2, none⟩ (.int .u64 u1)) vb T #[.int .u64 u0, .int .u64 v1, .int .u64 u1, .int .u64 v3] := by have := hV.set 2 (.int .u64 u1); simpa using this
    have g2 := Lib.hid ((g1.out.trans (Chg.of_below V.2)).set (b := vb) rfl 2 (.int .u64 u1))
    obtain ⟨w2, hw⟩ : ∃ W, W = V.1.setCell ⟨vb, 2, none⟩ (.int .u64 u1) := ⟨_, rfl⟩
    rw [← hw] at h2 g2 ⊢
    clear hw c0 c1 c2 c3 zf zc hV h1 g1 hK9
    clear hu
    go_wp2_with fail
    obtain ⟨y2, hy2⟩ := rot_c v1 13 (by decide)
    have HY2 := Lib.hid hy2
    clear hy2
    have c0 := fun V : Gr w2 => (V.has h2).cell 0
    have c1 := fun V : Gr w2 => (V.has h2).cell 1
    have c2 := fun V : Gr w2 => (V.has h2).cell 2
    have c3 := fun V : Gr w2 => (V.has h2).cell 3
    simp at c0 c1 c2 c3
    refine wp_region_grows_mid 13 (by kernel_rfl) (by kernel_rfl) ?_
    simp only [List.take_succ_cons, List.take_zero, List.drop_succ_cons, List.drop_zero]
    repeat (go_big_quiet_step (first | (go_at_call 206; exact grows_call _ (HY2.out _))))
    refine wpQuiet_nil ?_
    intro V
    have hV := V.has h2
    have zf := hV.free 1
    have zc := c1 V
    go_wp2_with fail
    rename_i hK9
    refine hK9 _ _ ?_
    obtain ⟨u2, hu⟩ : ∃ u, bits BinOp.xor IntKind.u64 y2 u0 = u := ⟨_, rfl⟩
    rw [hu]
    have h3 : Has (V.1.setCell ⟨vb, 1, none⟩ (.int .u64 u2)) vb T #[.int .u64 u0, .int .u64 u2, .int .u64 u1, .int .u64 v3] := by have := hV.set 1 (.int .u64 u2); simpa using this
    have g3 := Lib.hid ((g2.out.trans (Chg.of_below V.2)).set (b := vb) rfl 1 (.int .u64 u2))
    obtain ⟨w3, hw⟩ : ∃ W, W = V.1.setCell ⟨vb, 1, none⟩ (.int .u64 u2) := ⟨_, rfl⟩
    rw [← hw] at h3 g3 ⊢
    clear hw c0 c1 c2 c3 zf zc hV h2 g2 hK9
    clear hu
    clear HY2
    go_wp2_with fail
    obtain ⟨y3, hy3⟩ := rot_c v3 16 (by decide)
    have HY3 := Lib.hid hy3
    clear hy3
    have c0 := fun V : Gr w3 => (V.has h3).cell 0
    have c1 := fun V : Gr w3 => (V.has h3).cell 1
    have c2 := fun V : Gr w3 => (V.has h3).cell 2
    have c3 := fun V : Gr w3 => (V.has h3).cell 3
    simp at c0 c1 c2 c3
    refine wp_region_grows_mid 13 (by kernel_rfl) (by kernel_rfl) ?_
    simp only [List.take_succ_cons, List.take_zero, List.drop_succ_cons, List.drop_zero]
    repeat (go_big_quiet_step (first | (go_at_call 206; exact grows_call _ (HY3.out _))))
    refine wpQuiet_nil ?_
    intro V
    have hV := V.has h3
    have zf := hV.free 3
    have zc := c3 V
    go_wp2_with fail
    rename_i hK9
    refine hK9 _ _ ?_
    obtain ⟨u3, hu⟩ : ∃ u, bits BinOp.xor IntKind.u64 y3 u1 = u := ⟨_, rfl⟩
    rw [hu]
    have h4 : Has (V.1.setCell ⟨vb, 3, none⟩ (.int .u64 u3)) vb T #[.int .u64 u0, .int .u64 u2, .int .u64 u1, .int .u64 u3] := by have := hV.set 3 (.int .u64 u3); simpa using this
    have g4 := Lib.hid ((g3.out.trans (Chg.of_below V.2)).set (b := vb) rfl 3 (.int .u64 u3))
    obtain ⟨w4, hw⟩ : ∃ W, W = V.1.setCell ⟨vb, 3, none⟩ (.int .u64 u3) := ⟨_, rfl⟩
    rw [← hw] at h4 g4 ⊢
    clear hw c0 c1 c2 c3 zf zc hV h3 g3 hK9
    clear hu
    clear HY3
    go_wp2_with fail
    obtain ⟨y4, hy4⟩ := rot_c u0 32 (by decide)
    have HY4 := Lib.hid hy4
    clear hy4
    have c0 := fun V : Gr w4 => (V.has h4).cell 0
    have c1 := fun V : Gr w4 => (V.has h4).cell 1
    have c2 := fun V : Gr w4 => (V.has h4).cell 2
    have c3 := fun V : Gr w4 => (V.has h4).cell 3
    simp at c0 c1 c2 c3
    refine wp_region_grows_mid 8 (by kernel_rfl) (by kernel_rfl) ?_
    simp only [List.take_succ_cons, List.take_zero, List.drop_succ_cons, List.drop_zero]
    repeat (go_big_quiet_step (first | (go_at_call 206; exact grows_call _ (HY4.out _))))
    refine wpQuiet_nil ?_
    intro V
    have hV := V.has h4
    have zf := hV.free 0
    have zc := c0 V
    go_wp2_with fail
    rename_i hK9
    refine hK9 _ _ ?_
    have h5 : Has (V.1.setCell ⟨vb, 0, none⟩ (.int .u64 y4)) vb T #[.int .u64 y4, .int .u64 u2, .int .u64 u1, .int .u64 u3] := by have := hV.set 0 (.int .u64 y4); simpa using this
    have g5 := Lib.hid ((g4.out.trans (Chg.of_below V.2)).set (b := vb) rfl 0 (.int .u64 y4))
    obtain ⟨w5, hw⟩ : ∃ W, W = V.1.setCell ⟨vb, 0, none⟩ (.int .u64 y4) := ⟨_, rfl⟩
    rw [← hw] at h5 g5 ⊢
    clear hw c0 c1 c2 c3 zf zc hV h4 g4 hK9
    clear HY4
    go_wp2_with fail
    have c0 := fun V : Gr w5 => (V.has h5).cell 0
    have c1 := fun V : Gr w5 => (V.has h5).cell 1
    have c2 := fun V : Gr w5 => (V.has h5).cell 2
    have c3 := fun V : Gr w5 => (V.has h5).cell 3
    simp at c0 c1 c2 c3
    refine wp_region_grows_mid 11 (by kernel_rfl) (by kernel_rfl) ?_
    simp only [List.take_succ_cons, List.take_zero, List.drop_succ_cons, List.drop_zero]
    repeat (go_big_quiet_step (fail))
    refine wpQuiet_nil ?_
    intro V
    have hV := V.has h5
    have zf := hV.free 2
    have zc := c2 V
    go_wp2_with fail
    rename_i hK9
    refine hK9 _ _ ?_
    obtain ⟨u5, hu⟩ : ∃ u, IntKind.u64.wrap (u1 + u2) = u := ⟨_, rfl⟩
    rw [hu]
    have h6 : Has (V.1.setCell ⟨vb, 2, none⟩ (.int .u64 u5)) vb T #[.int .u64 y4, .int .u64 u2, .int .u64 u5, .int .u64 u3] := by have := hV.set 2 (.int .u64 u5); simpa using this
    have g6 := Lib.hid ((g5.out.trans (Chg.of_below V.2)).set (b := vb) rfl 2 (.int .u64 u5))
    obtain ⟨w6, hw⟩ : ∃ W, W = V.1.setCell ⟨vb, 2, none⟩ (.int .u64 u5) := ⟨_, rfl⟩
    rw [← hw] at h6 g6 ⊢
    clear hw c0 c1 c2 c3 zf zc hV h5 g5 hK9
    clear hu
    go_wp2_with fail
    have c0 := fun V : Gr w6 => (V.has h6).cell 0
    have c1 := fun V : Gr w6 => (V.has h6).cell 1
    have c2 := fun V : Gr w6 => (V.has h6).cell 2
    have c3 := fun V : Gr w6 => (V.has h6).cell 3
    simp at c0 c1 c2 c3
    refine wp_region_grows_mid 11 (by kernel_rfl) (by kernel_rfl) ?_
    simp only [List.take_succ_cons, List.take_zero, List.drop_succ_cons, List.drop_zero]
    repeat (go_big_quiet_step (fail))
    refine wpQuiet_nil ?_
    intro V
    have hV := V.has h6
    have zf := hV.free 0
    have zc := c0 V
    go_wp2_with fail
    rename_i hK9
    refine hK9 _ _ ?_
    obtain ⟨u6, hu⟩ : ∃ u, IntKind.u64.wrap (y4 + u3) = u := ⟨_, rfl⟩
    rw [hu]
    have h7 : Has (V.1.setCell ⟨vb, 0, none⟩ (.int .u64 u6)) vb T #[.int .u64 u6, .int .u64 u2, .int .u64 u5, .int .u64 u3] := by have := hV.set 0 (.int .u64 u6); simpa using this
    have g7 := Lib.hid ((g6.out.trans (Chg.of_below V.2)).set (b := vb) rfl 0 (.int .u64 u6))
    obtain ⟨w7, hw⟩ : ∃ W, W = V.1.setCell ⟨vb, 0, none⟩ (.int .u64 u6) := ⟨_, rfl⟩
    rw [← hw] at h7 g7 ⊢
    clear hw c0 c1 c2 c3 zf zc hV h6 g6 hK9
    clear hu
    go_wp2_with fail
    obtain ⟨y7, hy7⟩ := rot_c u2 17 (by decide)
    have HY7 := Lib.hid hy7
    clear hy7
    have c0 := fun V : Gr w7 => (V.has h7).cell 0
    have c1 := fun V : Gr w7 => (V.has h7).cell 1
    have c2 := fun V : Gr w7 => (V.has h7).cell 2
    have c3 := fun V : Gr w7 => (V.has h7).cell 3
    simp at c0 c1 c2 c3
    refine wp_region_grows_mid 13 (by kernel_rfl) (by kernel_rfl) ?_
    simp only [List.take_succ_cons, List.take_zero, List.drop_succ_cons, List.drop_zero]
    repeat (go_big_quiet_step (first | (go_at_call 206; exact grows_call _ (HY7.out _))))
    refine wpQuiet_nil ?_
    intro V
    have hV := V.has h7
    have zf := hV.free 1
    have zc := c1 V
    go_wp2_with fail
    rename_i hK9
    refine hK9 _ _ ?_
    obtain ⟨u7, hu⟩ : ∃ u, bits BinOp.xor IntKind.u64 y7 u5 = u := ⟨_, rfl⟩
    rw [hu]
    have h8 : Has (V.1.setCell ⟨vb, 1, none⟩ (.int .u64 u7)) vb T #[.int .u64 u6, .int .u64 u7, .int .u64 u5, .int .u64 u3] := by have := hV.set 1 (.int .u64 u7); simpa using this
    have g8 := Lib.hid ((g7.out.trans (Chg.of_below V.2)).set (b := vb) rfl 1 (.int .u64 u7))
    obtain ⟨w8, hw⟩ : ∃ W, W = V.1.setCell ⟨vb, 1, none⟩ (.int .u64 u7) := ⟨_, rfl⟩
    rw [← hw] at h8 g8 ⊢
    clear hw c0 c1 c2 c3 zf zc hV h7 g7 hK9
    clear hu
    clear HY7
    go_wp2_with fail
    obtain ⟨y8, hy8⟩ := rot_c u3 21 (by decide)
    have HY8 := Lib.hid hy8
    clear hy8
    have c0 := fun V : Gr w8 => (V.has h8).cell 0
    have c1 := fun V : Gr w8 => (V.has h8).cell 1
    have c2 := fun V : Gr w8 => (V.has h8).cell 2
    have c3 := fun V : Gr w8 => (V.has h8).cell 3
    simp at c0 c1 c2 c3
    refine wp_region_grows_mid 13 (by kernel_rfl) (by kernel_rfl) ?_
    simp only [List.take_succ_cons, List.take_zero, List.drop_succ_cons, List.drop_zero]
    repeat (go_big_quiet_step (first | (go_at_call 206; exact grows_call _ (HY8.out _))))
    refine wpQuiet_nil ?_
    intro V
    have hV := V.has h8
    have zf := hV.free 3
    have zc := c3 V
    go_wp2_with fail
    rename_i hK9
    refine hK9 _ _ ?_
    obtain ⟨u8, hu⟩ : ∃ u, bits BinOp.xor IntKind.u64 y8 u6 = u := ⟨_, rfl⟩
    rw [hu]
    have h9 : Has (V.1.setCell ⟨vb, 3, none⟩ (.int .u64 u8)) vb T #[.int .u64 u6, .int .u64 u7, .int .u64 u5, .int .u64 u8] := by have := hV.set 3 (.int .u64 u8); simpa using this
    have g9 := Lib.hid ((g8.out.trans (Chg.of_below V.2)).set (b := vb) rfl 3 (.int .u64 u8))
    obtain ⟨w9, hw⟩ : ∃ W, W = V.1.setCell ⟨vb, 3, none⟩ (.int .u64 u8) := ⟨_, rfl⟩
    rw [← hw] at h9 g9 ⊢
    clear hw c0 c1 c2 c3 zf zc hV h8 g8 hK9
    clear hu
    clear HY8
    go_wp2_with fail
    obtain ⟨y9, hy9⟩ := rot_c u5 32 (by decide)
    have HY9 := Lib.hid hy9
    clear hy9
    have c0 := fun V : Gr w9 => (V.has h9).cell 0
    have c1 := fun V : Gr w9 => (V.has h9).cell 1
    have c2 := fun V : Gr w9 => (V.has h9).cell 2
    have c3 := fun V : Gr w9 => (V.has h9).cell 3
    simp at c0 c1 c2 c3
    refine wp_region_grows_mid 8 (by kernel_rfl) (by kernel_rfl) ?_
    simp only [List.take_succ_cons, List.take_zero, List.drop_succ_cons, List.drop_zero]
    repeat (go_big_quiet_step (first | (go_at_call 206; exact grows_call _ (HY9.out _))))
    refine wpQuiet_nil ?_
    intro V
    have hV := V.has h9
    have zf := hV.free 2
    have zc := c2 V
    go_wp2_with fail
    refine wpQuiet_nil ?_
    rename_i hK9 z0 z1 z2 z3 z4 z5 z6 z7 z8 z9 z10 z11 z12 z13 z14 z15 z16 z17
    refine hK9 _ _ ?_
    have h10 : Has (V.1.setCell ⟨vb, 2, none⟩ (.int .u64 y9)) vb T #[.int .u64 u6, .int .u64 u7, .int .u64 y9, .int .u64 u8] := by have := hV.set 2 (.int .u64 y9); simpa using this
    have g10 := Lib.hid ((g9.out.trans (Chg.of_below V.2)).set (b := vb) rfl 2 (.int .u64 y9))
    obtain ⟨w10, hw⟩ : ∃ W, W = V.1.setCell ⟨vb, 2, none⟩ (.int .u64 y9) := ⟨_, rfl⟩
    rw [← hw] at h10 g10 ⊢
    clear hw c0 c1 c2 c3 zf zc hV h9 g9 hK9
    clear HY9
    go_wp2_with fail
    go_roundw
    case rel => exact ⟨j + 1, u6, u7, y9, u8, by omega, by go_num, h10, g10.out⟩
    case measure => simp [intOf]; omega
end Go.Proofs.YtngdebpaheejlaaGreatDoor
namespace Go.Proofs.YtngdebpaheejlaaGreatDoor
open Go.RowKit
set_option linter.unusedSimpArgs false
set_option linter.unusedVariables false
attribute [local go_sem] bs_app bs_size bs_bt bs_extract numB_len
/-- A text's bytes as a number, as sip.word makes it. -/
def wordI (l : List Nat) : Nat → Int
  | 0 => 0
  | j + 1 => bits BinOp.or IntKind.u64 (wordI l j) (IntKind.u64.wrap ((bt l j : Nat) * 2 ^ (8 * j)))
set_option maxRecDepth 100000 in
set_option maxHeartbeats 800000 in
theorem sword_c (l : List Nat) (hl : Byt l) (h8 : l.length ≤ 8) (w : World) : Calls Tryz.prog 182 #[.string (bs l)] w fun e w' => e = .returned (.int .u64 (wordI l l.length)) ∧ w = w' := by
  go_enter Tryz.func182, Tryz.ntmps182
  go_wp2_with fail
  go_loopw [2, 6] (fun v i wr => ∃ (j : Nat) (q : Int), j ≤ l.length ∧ Hid (wordI l j = q) ∧ v = .int .u64 q ∧ i = .int .i64 j ∧ w = wr) (fun _ i _ => l.length - (intOf i).toNat)
  case atStart => exact ⟨0, _, by omega, rfl, rfl, rfl, rfl⟩
  case round =>
    obtain ⟨j, q, hj, HQ, rfl, rfl, rfl⟩ := hrel
    have ha1 := bt_lt hl j
    by_cases h : j < l.length
    · have hi : (j : Int) < (l.length : Int) := by omega
      have HN : Hid (wordI l (j + 1) = bits BinOp.or IntKind.u64 q (IntKind.u64.wrap ((bt l j : Nat) * 2 ^ (8 * j)))) := by
        show wordI l (j + 1) = _
        rw [← HQ.out]; rfl
      obtain ⟨a, ha⟩ : ∃ a, bt l j = a := ⟨_, rfl⟩
      rw [ha] at HN
      go_wp2_with fail
      go_roundw
      case rel => exact ⟨j + 1, _, by omega, HN.out, rfl, by go_num, by trivial⟩
      case measure => simp [intOf]; omega
    · have hi : ¬ (j : Int) < (l.length : Int) := by omega
      have hjl : Hid (j = l.length) := by show j = _; omega
      go_wp2_with fail
      go_ret
      refine ⟨?_, by trivial⟩
      show Ending.returned (.int .u64 q) = _
      rw [← HQ.out, hjl.out]
theorem bytT {l : List Nat} (h : Byt l) (k : Nat) : Byt (l.take k) := fun x hx => h x (List.mem_of_mem_take hx)
theorem bytD {l : List Nat} (h : Byt l) (k : Nat) : Byt (l.drop k) := fun x hx => h x (List.mem_of_mem_drop hx)
theorem u64_nat (v : Int) (h0 : 0 ≤ v) (h1 : v ≤ 18446744073709551615) : ∃ z : Nat, z < 18446744073709551616 ∧ Ending.returned (.int .u64 v) = Ending.returned (.int .u64 z) :=
  ⟨v.toNat, by omega, by rw [Int.toNat_of_nonneg h0]⟩
def mix1 (x y : Int) : Int := IntKind.u64.wrap (IntKind.u64.wrap (x + 11400714819323198485) + IntKind.u64.wrap (11400714819323198485 * y))
def mix2 (s : Int) : Int := IntKind.u64.wrap (bits BinOp.xor IntKind.u64 s (s / 1073741824) * 13787848793156543929)
def mix3 (s : Int) : Int := IntKind.u64.wrap (bits BinOp.xor IntKind.u64 s (s / 134217728) * 10723151780598845931)
def mixV (x y : Int) : Int := bits BinOp.xor IntKind.u64 (mix3 (mix2 (mix1 x y))) (mix3 (mix2 (mix1 x y)) / 2147483648)
set_option maxRecDepth 100000 in
theorem mix_c (x y : Int) : ∃ z : Nat, z < 18446744073709551616 ∧ ∀ w, Calls Tryz.prog 207 #[.int .u64 x, .int .u64 y] w fun e w' => e = .returned (.int .u64 z) ∧ w = w' := by
  obtain ⟨z, hz, he⟩ := u64_nat (mixV x y) (bits_lo_u64 _ _ _) (bits_hi_u64 _ _ _)
  refine ⟨z, hz, fun w => ?_⟩
  rw [← he]
  clear hz he z
  go_enter Tryz.func207, Tryz.ntmps207
  go_wp2_with fail
  go_ret
  exact ⟨rfl, rfl⟩
set_option maxRecDepth 100000 in
set_option maxHeartbeats 800000 in
theorem sadd_c {T : TypeId} (vb : Nat) (p q r s m : Int) (w : World) (h : Has w vb T #[.int .u64 p, .int .u64 q, .int .u64 r, .int .u64 s]) :
    Calls Tryz.prog 183 #[.pointer (some ⟨vb, 0, none⟩), .int .u64 m] w fun e w' => e = .returned (.tuple #[]) ∧ ∃ p' q' r' s' : Int, Has w' vb T #[.int .u64 p', .int .u64 q', .int .u64 r', .int .u64 s'] ∧ Chg (fun b => b = vb) w w' := by
  have HR := Lib.hid (rounds_c (T := T) vb 2 (by decide))
  have c3 := h.cell 3
  have f3 := h.free 3
  simp at c3
  go_enter Tryz.func183, Tryz.ntmps183
  go_wp2_with fail
  go_region
  have h1 := (h.set 3 (.int .u64 (bits BinOp.xor IntKind.u64 s m))).drew
  simp at h1
  have g1 := Lib.hid ((Chg.refl (fun b => b = vb) w).set (b := vb) rfl 3 (.int .u64 (bits BinOp.xor IntKind.u64 s m))).drew
  go_wp2_with fail
  refine (HR.out _ _ _ _ _ h1).mono ?_
  rintro e w2 ⟨rfl, p2, q2, r2, s2, h2, g2⟩
  have c0 := h2.cell 0
  have f0 := h2.free 0
  simp at c0
  go_wp2_with fail
  go_region
  have h3 := (h2.set 0 (.int .u64 (bits BinOp.xor IntKind.u64 p2 m))).drew
  simp at h3
  have g3 := Lib.hid ((g1.out.trans g2).set (b := vb) rfl 0 (.int .u64 (bits BinOp.xor IntKind.u64 p2 m))).drew
  go_wp2_with fail
  refine bodyPost_end (v := .tuple #[]) (by simp [results, Tryz.f183, go_sem]) rfl ⟨rfl, _, _, _, _, h3, g3.out⟩
def strLen : Value → Nat
  | .string s => s.size
  | _ => 0
set_option maxRecDepth 100000 in
set_option maxHeartbeats 1600000 in
theorem hash_c (k l : List Nat) (hk : Byt k) (hl : Byt l) (hk16 : k.length = 16) (hl13 : l.length = 13) (w : World) : Calls Tryz.prog 135 #[.string (bs k), .string (bs l)] w fun e w' => (∃ n : Int, e = .returned (.tuple #[.int .u64 n, .bool true])) ∧ Below w.heap.size w w' := by
  have HW := Lib.hid (fun m hm h w => (sword_c m hm h w).mono fun e w' ⟨he, hw⟩ => (⟨he, hw ▸ Below.refl _ _⟩ : e = Ending.returned (.int .u64 (wordI m m.length)) ∧ Below w.heap.size w w'))
  have HK := Lib.hid hk
  have HL := Lib.hid hl
  have W1 := Lib.hid (HW.out ((k.take 8).drop 0) (bytD (bytT hk 8) 0) (by simp; omega))
  have W2 := Lib.hid (HW.out ((k.take 16).drop 8) (bytD (bytT hk 16) 8) (by simp; omega))
  simp only [List.drop_zero] at W1
  rw [show (k.take 8).length = 8 by simp; omega] at W1
  rw [show k.take 16 = k from List.take_of_length_le (by omega)] at W2
  rw [show (k.drop 8).length = 8 by simp; omega] at W2
  have kt : k.take 16 = k := List.take_of_length_le (by omega)
  clear hk
  go_enter Tryz.func135, Tryz.ntmps135
  go_wp2_with fail
  go_loopw [7, 8, 14] (fun _ _ i wr => ∃ (j : Nat) (p q r s : Int), j ≤ 4 ∧ i = .int .i64 j ∧ Has wr w.heap.size 331 #[.int .u64 p, .int .u64 q, .int .u64 r, .int .u64 s] ∧ Below w.heap.size w wr) (fun _ _ i _ => 4 - (intOf i).toNat)
  case atStart => exact ⟨0, _, _, _, _, by omega, rfl, Has.new _ _ _, (Below.refl _ _).alloc (Nat.le_refl _) _⟩
  case round =>
    obtain ⟨j, v0, v1, v2, v3, hj, rfl, h0, b0⟩ := hrel
    have g := Lib.hid b0
    have h := h0
    have hlt := h0.lt
    clear h0 b0
    by_cases hj4 : j = 4
    · subst hj4
      have hi : ¬ ((4 : Nat) : Int) < 4 := by decide
      go_wp2_with fail
      go_loopw [1] (fun v wr => ∃ (m : List Nat) (p q r s : Int), v = .string (bs m) ∧ Byt m ∧ m.length ≤ 13 ∧ Has wr w.heap.size 331 #[.int .u64 p, .int .u64 q, .int .u64 r, .int .u64 s] ∧ Below w.heap.size w wr) (fun v _ => strLen v)
      case atStart => exact ⟨l, _, _, _, _, rfl, HL.out, by omega, h, g.out⟩
      case round =>
        obtain ⟨m, p0, q0, r0, s0, rfl, hm, hm13, h0, b0⟩ := hrel
        have g0 := Lib.hid b0
        have HM := Lib.hid hm
        clear b0 h g
        by_cases hm8 : 8 ≤ m.length
        · have hi8 : 8 ≤ (m.length : Int) := by omega
          have HWm := Lib.hid (HW.out (m.take 8) (bytT hm 8) (by simp; omega))
          obtain ⟨z, hz⟩ : ∃ z, wordI (m.take 8) (m.take 8).length = z := ⟨_, rfl⟩
          rw [hz] at HWm
          clear hz
          have HAD := Lib.hid (fun p q r s x W h => sadd_c (T := 331) w.heap.size p q r s x W h)
          go_wp2_with fail
          refine (HWm.out _).mono ?_
          rintro e w1 ⟨rfl, b1⟩
          have h1 := h0.below b1
          have g1 := Lib.hid (g0.out.trans (b1.mono g0.out.size))
          go_wp2_with fail
          refine (HAD.out _ _ _ _ _ _ h1).mono ?_
          rintro e w2 ⟨rfl, p2, q2, r2, s2, h2, b2⟩
          have g2 := Lib.hid (g1.out.trans (b2.below (B := w.heap.size) (fun b e => Nat.le_of_eq e.symm) g1.out.size))
          have HD := Lib.hid (bytD hm 8)
          clear h0 g0 h1 g1 b1 b2
          go_wp2_with fail
          go_roundw
          case rel => exact ⟨m.drop 8, _, _, _, _, rfl, HD.out, by simp; omega, h2, g2.out⟩
          case measure => simp [strLen, bs_size]; omega
        · have hi8 : ¬ 8 ≤ (m.length : Int) := by omega
          have HWm := Lib.hid (HW.out m hm (by omega))
          obtain ⟨z, hz⟩ : ∃ z, wordI m m.length = z := ⟨_, rfl⟩
          rw [hz] at HWm
          clear hz
          have HAD := Lib.hid (fun p q r s x W h => sadd_c (T := 331) w.heap.size p q r s x W h)
          have HR := Lib.hid (rounds_c (T := 331) w.heap.size 4 (by decide))
          go_wp2_with fail
          refine (HWm.out _).mono ?_
          rintro e w1 ⟨rfl, b1⟩
          have h1 := h0.below b1
          have g1 := Lib.hid (g0.out.trans (b1.mono g0.out.size))
          clear h0 g0 b1
          clear HWm
          go_wp2_with fail
          refine (HAD.out _ _ _ _ _ _ h1).mono ?_
          rintro e w2 ⟨rfl, p2, q2, r2, s2, h2, b2⟩
          have g2 := Lib.hid (g1.out.trans (b2.below (B := w.heap.size) (fun b e => Nat.le_of_eq e.symm) g1.out.size))
          clear h1 g1 b2
          have c2 := h2.cell 2
          have f2 := h2.free 2
          simp at c2
          go_wp2_with fail
          have h3 := (h2.set 2 (.int .u64 (bits BinOp.xor IntKind.u64 r2 255)))
          simp at h3
          have g3 := Lib.hid (g2.out.setCell (p := ⟨w.heap.size, 2, none⟩) (Nat.le_refl _) (.int .u64 (bits BinOp.xor IntKind.u64 r2 255)))
          clear h2 g2 c2 f2
          obtain ⟨w3, hw⟩ : ∃ W, W = w2.setCell ⟨w.heap.size, 2, none⟩ (.int .u64 (bits BinOp.xor IntKind.u64 r2 255)) := ⟨_, rfl⟩
          rw [← hw] at h3 g3 ⊢
          clear hw
          obtain ⟨r3, hr⟩ : ∃ r, bits BinOp.xor IntKind.u64 r2 255 = r := ⟨_, rfl⟩
          rw [hr] at h3
          clear hr
          refine (HR.out _ _ _ _ _ h3).mono ?_
          rintro e w4 ⟨rfl, p4, q4, r4, s4, h4, b4⟩
          have g4 := Lib.hid (g3.out.trans (b4.below (B := w.heap.size) (fun b e => Nat.le_of_eq e.symm) g3.out.size))
          clear h3 g3 b4
          have c0 := h4.cell 0
          have c1 := h4.cell 1
          have c2 := h4.cell 2
          have c3 := h4.cell 3
          simp at c0 c1 c2 c3
          go_wp2_with fail
          go_ret2
          exact ⟨⟨_, rfl⟩, g4.out⟩
    obtain rfl | rfl | rfl | rfl : j = 0 ∨ j = 1 ∨ j = 2 ∨ j = 3 := by omega
    · have c0 := fun V : Gr wr => (V.has h).cell 0
      simp at c0
      go_wp2_with fail
      refine wp_region_grows_mid 11 (by kernel_rfl) (by kernel_rfl) ?_
      simp only [List.take_succ_cons, List.take_zero, List.drop_succ_cons, List.drop_zero]
      repeat (go_big_quiet_step (first | (go_at_call 182; exact grows_call _ (W1.out _))))
      refine wpQuiet_nil ?_
      intro V
      have hV := V.has h
      have zf := hV.free 0
      have zc := c0 V
      go_wp2_with fail
      refine wpQuiet_nil ?_
      rename_i hK9
      refine hK9 _ _ ?_
      have h2 : Has (V.1.setCell ⟨w.heap.size, 0, none⟩ (.int .u64 (bits BinOp.xor IntKind.u64 v0 (wordI (k.take 8) 8)))) w.heap.size 331 #[.int .u64 (bits BinOp.xor IntKind.u64 v0 (wordI (k.take 8) 8)), .int .u64 v1, .int .u64 v2, .int .u64 v3] := by have := hV.set 0 (.int .u64 (bits BinOp.xor IntKind.u64 v0 (wordI (k.take 8) 8))); simpa using this
      have g2 := Lib.hid ((g.out.trans (V.2.mono g.out.size)).setCell (p := ⟨w.heap.size, 0, none⟩) (Nat.le_refl _) (.int .u64 (bits BinOp.xor IntKind.u64 v0 (wordI (k.take 8) 8))))
      obtain ⟨w2, hw⟩ : ∃ W, W = V.1.setCell ⟨w.heap.size, 0, none⟩ (.int .u64 (bits BinOp.xor IntKind.u64 v0 (wordI (k.take 8) 8))) := ⟨_, rfl⟩
      rw [← hw] at h2 g2 ⊢
      clear hw c0 zf zc hV h g hK9
      go_wp2_with fail
      go_roundw
      case rel => exact ⟨0 + 1, _, _, _, _, by omega, by go_num, h2, g2.out⟩
      case measure => simp [intOf]
    · have c0 := fun V : Gr wr => (V.has h).cell 1
      simp at c0
      go_wp2_with fail
      refine wp_region_grows_mid 11 (by kernel_rfl) (by kernel_rfl) ?_
      simp only [List.take_succ_cons, List.take_zero, List.drop_succ_cons, List.drop_zero]
      repeat (go_big_quiet_step (first | (go_at_call 182; exact grows_call _ (W2.out _))))
      refine wpQuiet_nil ?_
      intro V
      have hV := V.has h
      have zf := hV.free 1
      have zc := c0 V
      go_wp2_with fail
      refine wpQuiet_nil ?_
      rename_i hK9
      refine hK9 _ _ ?_
      have h2 : Has (V.1.setCell ⟨w.heap.size, 1, none⟩ (.int .u64 (bits BinOp.xor IntKind.u64 v1 (wordI (k.drop 8) 8)))) w.heap.size 331 #[.int .u64 v0, .int .u64 (bits BinOp.xor IntKind.u64 v1 (wordI (k.drop 8) 8)), .int .u64 v2, .int .u64 v3] := by have := hV.set 1 (.int .u64 (bits BinOp.xor IntKind.u64 v1 (wordI (k.drop 8) 8))); simpa using this
      have g2 := Lib.hid ((g.out.trans (V.2.mono g.out.size)).setCell (p := ⟨w.heap.size, 1, none⟩) (Nat.le_refl _) (.int .u64 (bits BinOp.xor IntKind.u64 v1 (wordI (k.drop 8) 8))))
      obtain ⟨w2, hw⟩ : ∃ W, W = V.1.setCell ⟨w.heap.size, 1, none⟩ (.int .u64 (bits BinOp.xor IntKind.u64 v1 (wordI (k.drop 8) 8))) := ⟨_, rfl⟩
      rw [← hw] at h2 g2 ⊢
      clear hw c0 zf zc hV h g hK9
      go_wp2_with fail
      go_roundw
      case rel => exact ⟨1 + 1, _, _, _, _, by omega, by go_num, h2, g2.out⟩
      case measure => simp [intOf]
    · have c0 := fun V : Gr wr => (V.has h).cell 2
      simp at c0
      go_wp2_with fail
      refine wp_region_grows_mid 11 (by kernel_rfl) (by kernel_rfl) ?_
      simp only [List.take_succ_cons, List.take_zero, List.drop_succ_cons, List.drop_zero]
      repeat (go_big_quiet_step (first | (go_at_call 182; exact grows_call _ (W1.out _))))
      refine wpQuiet_nil ?_
      intro V
      have hV := V.has h
      have zf := hV.free 2
      have zc := c0 V
      go_wp2_with fail
      refine wpQuiet_nil ?_
      rename_i hK9
      refine hK9 _ _ ?_
      have h2 : Has (V.1.setCell ⟨w.heap.size, 2, none⟩ (.int .u64 (bits BinOp.xor IntKind.u64 v2 (wordI (k.take 8) 8)))) w.heap.size 331 #[.int .u64 v0, .int .u64 v1, .int .u64 (bits BinOp.xor IntKind.u64 v2 (wordI (k.take 8) 8)), .int .u64 v3] := by have := hV.set 2 (.int .u64 (bits BinOp.xor IntKind.u64 v2 (wordI (k.take 8) 8))); simpa using this
      have g2 := Lib.hid ((g.out.trans (V.2.mono g.out.size)).setCell (p := ⟨w.heap.size, 2, none⟩) (Nat.le_refl _) (.int .u64 (bits BinOp.xor IntKind.u64 v2 (wordI (k.take 8) 8))))
      obtain ⟨w2, hw⟩ : ∃ W, W = V.1.setCell ⟨w.heap.size, 2, none⟩ (.int .u64 (bits BinOp.xor IntKind.u64 v2 (wordI (k.take 8) 8))) := ⟨_, rfl⟩
      rw [← hw] at h2 g2 ⊢
      clear hw c0 zf zc hV h g hK9
      go_wp2_with fail
      go_roundw
      case rel => exact ⟨2 + 1, _, _, _, _, by omega, by go_num, h2, g2.out⟩
      case measure => simp [intOf]
    · have c0 := fun V : Gr wr => (V.has h).cell 3
      simp at c0
      go_wp2_with fail
      refine wp_region_grows_mid 11 (by kernel_rfl) (by kernel_rfl) ?_
      simp only [List.take_succ_cons, List.take_zero, List.drop_succ_cons, List.drop_zero]
      repeat (go_big_quiet_step (first | (go_at_call 182; exact grows_call _ (W2.out _))))
      refine wpQuiet_nil ?_
      intro V
      have hV := V.has h
      have zf := hV.free 3
      have zc := c0 V
      go_wp2_with fail
      refine wpQuiet_nil ?_
      rename_i hK9
      refine hK9 _ _ ?_
      have h2 : Has (V.1.setCell ⟨w.heap.size, 3, none⟩ (.int .u64 (bits BinOp.xor IntKind.u64 v3 (wordI (k.drop 8) 8)))) w.heap.size 331 #[.int .u64 v0, .int .u64 v1, .int .u64 v2, .int .u64 (bits BinOp.xor IntKind.u64 v3 (wordI (k.drop 8) 8))] := by have := hV.set 3 (.int .u64 (bits BinOp.xor IntKind.u64 v3 (wordI (k.drop 8) 8))); simpa using this
      have g2 := Lib.hid ((g.out.trans (V.2.mono g.out.size)).setCell (p := ⟨w.heap.size, 3, none⟩) (Nat.le_refl _) (.int .u64 (bits BinOp.xor IntKind.u64 v3 (wordI (k.drop 8) 8))))
      obtain ⟨w2, hw⟩ : ∃ W, W = V.1.setCell ⟨w.heap.size, 3, none⟩ (.int .u64 (bits BinOp.xor IntKind.u64 v3 (wordI (k.drop 8) 8))) := ⟨_, rfl⟩
      rw [← hw] at h2 g2 ⊢
      clear hw c0 zf zc hV h g hK9
      go_wp2_with fail
      go_roundw
      case rel => exact ⟨3 + 1, _, _, _, _, by omega, by go_num, h2, g2.out⟩
      case measure => simp [intOf]
set_option maxRecDepth 100000 in
set_option maxHeartbeats 800000 in
/-- anchor.draw: a number below. -/
theorem draw_c (k : Int) (b m : Nat) (hb : b < 65536) (hm : m < 65536) (h0 : 0 < m) : ∃ z : Nat, z < m ∧ ∀ w, Calls Tryz.prog 185 #[.int .u64 k, .int .i64 b, .int .i64 m] w fun e w' => e = .returned (.int .i64 z) ∧ w = w' := by
  obtain ⟨z, hz, HM0⟩ := mix_c k b
  have HM := Lib.hid HM0
  clear HM0
  have hq : z % m < m := Nat.mod_lt _ h0
  obtain ⟨y, hy⟩ : ∃ y, z % m = y := ⟨_, rfl⟩
  have hc : (z : Int) % (m : Int) = (y : Int) := by omega
  rw [hy] at hq
  refine ⟨y, hq, fun w => ?_⟩
  clear hy
  go_enter Tryz.func185, Tryz.ntmps185
  go_wp2_with fail
  refine (HM.out _).mono ?_
  rintro e w1 ⟨rfl, rfl⟩
  go_wp2_with fail
  go_ret
  exact ⟨rfl, rfl⟩
end Go.Proofs.YtngdebpaheejlaaGreatDoor
