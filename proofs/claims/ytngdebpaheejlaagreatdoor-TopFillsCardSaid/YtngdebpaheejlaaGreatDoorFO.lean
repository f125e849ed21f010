/- The flows: Open of a client that is new. -/
import Derived.Test.YtngdebpaheejlaaGreatDoorZn
import Derived.Test.YtngdebpaheejlaaGreatDoorZe
namespace Go.Proofs.YtngdebpaheejlaaGreatDoor
open Go.RowKit Go.Shelf
set_option linter.unusedSimpArgs false
set_option linter.unusedVariables false
theorem Chg.own {o : Nat → Nat} {w w' : World} (h : Below w.heap.size w w') : Chg (fun b => 1 ≤ o b ∧ o b ≤ 4) w w' := Chg.of_below h
set_option maxRecDepth 100000 in
set_option maxHeartbeats 6400000 in
theorem fopen17_c (o : Nat → Nat) (f pb wh mb t am bm k r i : Nat) (gA gB : Value → Option Value) (l : List Value) (cs cd cp dp : Nat) (h2 : cs < 4294967296) (h3 : cd < 4294967296) (h4 : cp < 65536) (h5 : dp < 65536) (sv bk ad : Int) (hkA : (keyOf Tryz.prog 97 (.agg #[.int .i64 17, .int .u32 (cs : Int), .int .u32 (cd : Int), .int .i64 (cp : Int), .int .i64 (dp : Int)])).isSome = true) (hkB : (keyOf Tryz.prog 97 (.agg #[.int .i64 17, .int .u32 200, .int .u32 ad, .int .i64 (2000 + (i : Int)), .int .i64 8080])).isSome = true) (hkv : (keyOf Tryz.prog 292 (.agg #[.int .i64 17, .int .u32 200, .int .u32 ad, .int .i64 8080])).isSome = true) (hnA : gA (.agg #[.int .i64 17, .int .u32 (cs : Int), .int .u32 (cd : Int), .int .i64 (cp : Int), .int .i64 (dp : Int)]) = none) (hnB : gB (.agg #[.int .i64 17, .int .u32 200, .int .u32 ad, .int .i64 (2000 + (i : Int)), .int .i64 8080]) = none) (hk1 : 1 ≤ k) (hk : k ≤ 30) (hr : r ≤ 40) (hik : i ≤ k) (hir : i ≤ r) (w : World) (h : Flw o w f pb wh mb t am bm k r 20 i i i (.agg #[.int .i64 17, .int .u32 200, .int .u32 ad, .int .i64 8080]) gA gB l) :
    Calls Tryz.prog 87 #[.pointer (some ⟨f, 0, none⟩), .agg #[.int .i64 17, .int .u32 (cs : Int), .int .u32 (cd : Int), .int .i64 (cp : Int), .int .i64 (dp : Int)], .int .i64 sv, .int .u32 200, .agg #[.int .i64 bk, .int .u32 ad, .int .i64 8080], .int .i64 0] w fun e w' => ∃ o', Ext (fun c => 1 ≤ c ∧ c ≤ 5) o o' w.heap.size ∧ Chg (fun b => 1 ≤ o b ∧ o b ≤ 4) w w' ∧
      ((i = r ∧ e = .returned (.tuple #[.int .i64 0, .int .i64 16]) ∧ Flw o' w' f pb wh mb t am bm k r 20 i i i (.agg #[.int .i64 17, .int .u32 200, .int .u32 ad, .int .i64 8080]) gA gB l) ∨
       (i < r ∧ i = k ∧ e = .returned (.tuple #[.int .i64 0, .int .i64 17]) ∧ Flw o' w' f pb wh mb t am bm k r 20 i i i (.agg #[.int .i64 17, .int .u32 200, .int .u32 ad, .int .i64 8080]) gA gB l) ∨
       (i < r ∧ i < k ∧ e = .returned (.tuple #[.int .i64 ((i : Int) + 1), .int .i64 0]) ∧ Flw o' w' f pb wh mb t am bm k r 20 (i + 1) (i + 1) (i + 1) (.agg #[.int .i64 17, .int .u32 200, .int .u32 ad, .int .i64 8080]) (setK gA (.agg #[.int .i64 17, .int .u32 (cs : Int), .int .u32 (cd : Int), .int .i64 (cp : Int), .int .i64 (dp : Int)]) (.int .i64 ((i : Int) + 1))) (setK gB (.agg #[.int .i64 17, .int .u32 200, .int .u32 ad, .int .i64 (2000 + (i : Int)), .int .i64 8080]) (.int .i64 ((i : Int) + 1))) (l ++ [.int .i64 17, .int .u32 (cs : Int), .int .u32 (cd : Int), .int .i64 (cp : Int), .int .i64 (dp : Int), .int .i64 17, .int .u32 200, .int .u32 ad, .int .i64 (2000 + (i : Int)), .int .i64 8080, .int .i64 17, .int .u32 (cs : Int), .int .u32 (cd : Int), .int .i64 (cp : Int), .int .i64 (dp : Int), .int .i64 17, .int .u32 200, .int .u32 ad, .int .i64 (2000 + (i : Int)), .int .i64 8080, .int .i64 sv, .int .i64 bk, .int .i64 8, .bool false, .bool true]))) := by
  have b1 : Below w.heap.size w ((w.alloc (.cells #[.int .i64 17, .int .u32 (cs : Int), .int .u32 (cd : Int), .int .i64 (cp : Int), .int .i64 (dp : Int)] 97)).alloc (.cells #[.int .i64 bk, .int .u32 ad, .int .i64 8080] 68)) := ((Below.refl _ _).alloc (Nat.le_refl _) _).alloc (by simp) _
  have E1 := Lib.hid ((own_ext o w.heap.size 5).mono (D := fun c => 1 ≤ c ∧ c ≤ 5) (fun c e => by omega))
  have hF := (h.re (o' := owner o w.heap.size 5) (fun b hb => own_lt hb)).below b1
  have hX : Has ((w.alloc (.cells #[.int .i64 17, .int .u32 (cs : Int), .int .u32 (cd : Int), .int .i64 (cp : Int), .int .i64 (dp : Int)] 97)).alloc (.cells #[.int .i64 bk, .int .u32 ad, .int .i64 8080] 68)) w.heap.size 97 #[.int .i64 17, .int .u32 (cs : Int), .int .u32 (cd : Int), .int .i64 (cp : Int), .int .i64 (dp : Int)] := (Has.new w #[.int .i64 17, .int .u32 (cs : Int), .int .u32 (cd : Int), .int .i64 (cp : Int), .int .i64 (dp : Int)] 97).alloc _
  have hY : Has ((w.alloc (.cells #[.int .i64 17, .int .u32 (cs : Int), .int .u32 (cd : Int), .int .i64 (cp : Int), .int .i64 (dp : Int)] 97)).alloc (.cells #[.int .i64 bk, .int .u32 ad, .int .i64 8080] 68)) (w.heap.size + 1) 68 #[.int .i64 bk, .int .u32 ad, .int .i64 8080] := has_made (by simp)
  obtain ⟨o1, ho1⟩ : ∃ O, O = owner o w.heap.size 5 := ⟨_, rfl⟩
  have HO1 : Hid (∀ b, w.heap.size ≤ b → o1 b = 5) := fun b hb => by rw [ho1]; exact own_back hb
  have HO2 : Hid (∀ b, b < w.heap.size → o1 b = o b) := fun b hb => by rw [ho1]; exact own_lt hb
  rw [← ho1] at hF E1
  clear h ho1
  go_enter Tryz.func87, Tryz.ntmps87
  go_wp2_with fail
  obtain ⟨w1, hw⟩ : ∃ W, W = (w.alloc (.cells #[.int .i64 17, .int .u32 (cs : Int), .int .u32 (cd : Int), .int .i64 (cp : Int), .int .i64 (dp : Int)] 97)).alloc (.cells #[.int .i64 bk, .int .u32 ad, .int .i64 8080] 68) := ⟨_, rfl⟩
  rw [← hw] at b1 hF hX hY ⊢
  obtain ⟨bx, hbx⟩ : ∃ b, b = w.heap.size := ⟨_, rfl⟩
  obtain ⟨by_, hby⟩ : ∃ b, b = w.heap.size + 1 := ⟨_, rfl⟩
  have LO : Hid (bx = w.heap.size ∧ by_ = w.heap.size + 1) := ⟨hbx, hby⟩
  rw [← hby] at hY ⊢
  rw [← hbx] at hX ⊢
  clear hw hbx hby
  refine (key_c 17 cs cd cp dp (by decide) h2 h3 h4 h5 w1).mono ?_
  rintro e w2 ⟨rfl, b2⟩
  have hF := hF.below b2
  have hX := hX.below b2
  have hY := hY.below b2
  have b2 := b1.trans (b2.mono b1.size)
  have x0 := (hX.cell 0).trans rfl
  go_wp2_with fail
  refine (fstep17_c 0 w2).mono ?_
  rintro e w3 ⟨rfl, b3⟩
  have hF := hF.below b3
  have hX := hX.below b3
  have hY := hY.below b3
  have b3 := b2.trans (b3.mono b2.size)
  have x0 := (hX.cell 0).trans rfl
  have x1 := (hX.cell 1).trans rfl
  have x2 := (hX.cell 2).trans rfl
  have x3 := (hX.cell 3).trans rfl
  have x4 := (hX.cell 4).trans rfl
  have HA := Lib.hid (fahead_c (r := r) _ _ _ _ _ hkA hnA hF)
  clear b1 b2
  go_wp2_with fail
  refine HA.out.mono ?_
  rintro e w4 ⟨rfl, b4⟩
  clear HA x0 x1 x2 x3 x4
  have hF := hF.below b4
  have hX := hX.below b4
  have hY := hY.below b4
  have b4 := b3.trans (b4.mono b3.size)
  clear b3
  go_wp2_with fail
  have x8 : ∀ V : Gr w4, V.1.cell? ⟨f, 8, none⟩ = some (.int .i64 (r : Int)) := fun V => ((V.has hF.head).cell 8).trans rfl
  have HL : Hid (∀ V : Gr w4, Calls Tryz.prog 10 #[.pointer (some ⟨f, 0, none⟩)] V.1 fun e w' => e = .returned (.int .i64 (i : Int)) ∧ Below V.1.heap.size V.1 w') := fun V => (flen_c (hF.below V.2)).mono fun e w' ⟨a, b⟩ => ⟨a, b ▸ Below.refl _ _⟩
  have HN : Hid (∀ V : Gr w4, Calls Tryz.prog 137 #[.pointer (some ⟨f, 0, none⟩)] V.1 fun e w' => e = .returned (.int .i64 0) ∧ Below V.1.heap.size V.1 w') := fun V => (fnow_c (hF.below V.2)).mono fun e w' ⟨a, b⟩ => ⟨a, b ▸ Below.refl _ _⟩
  have HF := Lib.hid hF
  have HX := Lib.hid hX
  have HY := Lib.hid hY
  have HB := Lib.hid b4
  clear hF hX hY b4
  by_cases hq : i = r
  · have ie : ((i : Int) == (r : Int)) = true := by simp [hq]
    refine wp_region_grows (by kernel_rfl) (by kernel_rfl) ?_
    repeat (go_big_quiet_step (first | (go_at_call 10; with_reducible refine grows_call _ (HL.out _)) | (go_at_call 137; with_reducible refine grows_call _ (HN.out _))))
    refine wpQuiet_nil ?_
    rintro _ ⟨V, rfl⟩
    have hB := HB.out.trans (V.2.mono HB.out.size)
    have hFV := HF.out.below V.2
    have HQ := Lib.hid hq
    clear hq x8 HL HN
    go_wp2_with fail
    go_ret2
    exact ⟨o1, E1.out, Chg.own hB, .inl ⟨HQ.out, rfl, hFV⟩⟩
  · have ie : ((i : Int) == (r : Int)) = false := by simp; omega
    refine wp_region_grows (by kernel_rfl) (by kernel_rfl) ?_
    repeat (go_big_quiet_step (first | (go_at_call 10; with_reducible refine grows_call _ (HL.out _)) | (go_at_call 137; with_reducible refine grows_call _ (HN.out _))))
    refine wpQuiet_nil ?_
    rintro _ ⟨V, rfl⟩
    have hB := HB.out.trans (V.2.mono HB.out.size)
    have hF := HF.out.below V.2
    have hX := V.has HX.out
    have hY := V.has HY.out
    have HQ : Hid (i < r) := by show i < r; omega
    clear hq x8 HL HN HF HX HY HB
    obtain ⟨w5, hw⟩ : ∃ W, W = V.1 := ⟨_, rfl⟩
    rw [← hw] at hB hF hX hY ⊢
    clear hw V
    have x0 := (hX.cell 0).trans rfl
    have x1 := (hX.cell 1).trans rfl
    have x2 := (hX.cell 2).trans rfl
    have x3 := (hX.cell 3).trans rfl
    have x4 := (hX.cell 4).trans rfl
    have y0 := (hY.cell 0).trans rfl
    go_wp2_with fail
    have hZ := Has.new w5 #[.int .i64 17, .int .u32 (cs : Int), .int .u32 (cd : Int), .int .i64 (cp : Int), .int .i64 (dp : Int), .int .i64 17, .int .u32 (cs : Int), .int .u32 (cd : Int), .int .i64 (cp : Int), .int .i64 (dp : Int), .int .i64 sv, .int .i64 bk, .int .i64 8, .bool false] 99
    have hyb := hY.lt
    have hbw0 := hB.size
    have hF := hF.below ((Below.refl _ _).alloc (Nat.le_refl _) (.cells #[.int .i64 17, .int .u32 (cs : Int), .int .u32 (cd : Int), .int .i64 (cp : Int), .int .i64 (dp : Int), .int .i64 17, .int .u32 (cs : Int), .int .u32 (cd : Int), .int .i64 (cp : Int), .int .i64 (dp : Int), .int .i64 sv, .int .i64 bk, .int .i64 8, .bool false] 99))
    have hY := hY.alloc (.cells #[.int .i64 17, .int .u32 (cs : Int), .int .u32 (cd : Int), .int .i64 (cp : Int), .int .i64 (dp : Int), .int .i64 17, .int .u32 (cs : Int), .int .u32 (cd : Int), .int .i64 (cp : Int), .int .i64 (dp : Int), .int .i64 sv, .int .i64 bk, .int .i64 8, .bool false] 99)
    have hB := hB.alloc hB.size (.cells #[.int .i64 17, .int .u32 (cs : Int), .int .u32 (cd : Int), .int .i64 (cp : Int), .int .i64 (dp : Int), .int .i64 17, .int .u32 (cs : Int), .int .u32 (cd : Int), .int .i64 (cp : Int), .int .i64 (dp : Int), .int .i64 sv, .int .i64 bk, .int .i64 8, .bool false] 99)
    clear x0 x1 x2 x3 x4 y0 hX
    obtain ⟨bz, hbz⟩ : ∃ b, b = w5.heap.size := ⟨_, rfl⟩
    rw [← hbz] at hyb hbw0
    obtain ⟨w6, hw⟩ : ∃ W, W = w5.alloc (.cells #[.int .i64 17, .int .u32 (cs : Int), .int .u32 (cd : Int), .int .i64 (cp : Int), .int .i64 (dp : Int), .int .i64 17, .int .u32 (cs : Int), .int .u32 (cd : Int), .int .i64 (cp : Int), .int .i64 (dp : Int), .int .i64 sv, .int .i64 bk, .int .i64 8, .bool false] 99) := ⟨_, rfl⟩
    rw [← hbz] at hZ ⊢
    rw [← hw] at hF hY hB hZ ⊢
    clear hw hbz
    have hzy : by_ ≠ bz := by omega
    have z6 := (hZ.cell 6).trans rfl
    have z7 := (hZ.cell 7).trans rfl
    have z9 := (hZ.cell 9).trans rfl
    have zf6 := hZ.free 6
    have zf7 := hZ.free 7
    have zf9 := hZ.free 9
    have KA : Hid (∀ W, Keep (fun c => c = by_) w6 W → W.cell? ⟨by_, 1, none⟩ = some (.int .u32 ad) ∧ W.cell? ⟨by_, 2, none⟩ = some (.int .i64 8080)) := fun W k => by
      have q := k _ _ _ rfl hY
      exact ⟨(q.cell 1).trans rfl, (q.cell 2).trans rfl⟩
    have K0 : Keep (fun c => c = by_) w6 w6 := fun _ _ _ _ h => h
    have K1 : Keep (fun c => c = by_) w6 ((w6).setCell ⟨bz, 6, none⟩ (.int .u32 200)) := fun c t ys hs hc => (K0 c t ys hs hc).setOther _ (by rw [show c = by_ from hs]; exact hzy) _
    have K2 : Keep (fun c => c = by_) w6 (((w6).setCell ⟨bz, 6, none⟩ (.int .u32 200)).setCell ⟨bz, 7, none⟩ (.int .u32 ad)) := fun c t ys hs hc => (K1 c t ys hs hc).setOther _ (by rw [show c = by_ from hs]; exact hzy) _
    have K3 : Keep (fun c => c = by_) w6 ((((w6).setCell ⟨bz, 6, none⟩ (.int .u32 200)).setCell ⟨bz, 7, none⟩ (.int .u32 ad)).setCell ⟨bz, 9, none⟩ (.int .i64 8080)) := fun c t ys hs hc => (K2 c t ys hs hc).setOther _ (by rw [show c = by_ from hs]; exact hzy) _
    have P0 : Hid (Keep (fun c => c = by_) w6 (w6).drew) := fun c t ys hs hc => K0 c t ys hs hc
    have P1 : Hid (Keep (fun c => c = by_) w6 ((w6).setCell ⟨bz, 6, none⟩ (.int .u32 200)).drew) := fun c t ys hs hc => K1 c t ys hs hc
    have P2 : Hid (Keep (fun c => c = by_) w6 (((w6).setCell ⟨bz, 6, none⟩ (.int .u32 200)).setCell ⟨bz, 7, none⟩ (.int .u32 ad)).drew) := fun c t ys hs hc => K2 c t ys hs hc
    have P3 : Hid (Keep (fun c => c = by_) w6 ((((w6).setCell ⟨bz, 6, none⟩ (.int .u32 200)).setCell ⟨bz, 7, none⟩ (.int .u32 ad)).setCell ⟨bz, 9, none⟩ (.int .i64 8080)).drew) := fun c t ys hs hc => K3 c t ys hs hc
    clear K0 K1 K2 K3
    go_region_held3 (fun W => W.cell? ⟨by_, 1, none⟩ = some (.int .u32 ad) ∧ W.cell? ⟨by_, 2, none⟩ = some (.int .i64 8080)) (first | with_reducible exact KA.out _ P0.out | with_reducible exact KA.out _ P1.out | with_reducible exact KA.out _ P2.out | with_reducible exact KA.out _ P3.out) (fail)
    all_goals
      have hZ7 : Has (((((w6).setCell ⟨bz, 6, none⟩ (.int .u32 200)).setCell ⟨bz, 7, none⟩ (.int .u32 ad)).setCell ⟨bz, 9, none⟩ (.int .i64 8080)).drew) bz 99 #[.int .i64 17, .int .u32 (cs : Int), .int .u32 (cd : Int), .int .i64 (cp : Int), .int .i64 (dp : Int), .int .i64 17, .int .u32 200, .int .u32 ad, .int .i64 (cp : Int), .int .i64 8080, .int .i64 sv, .int .i64 bk, .int .i64 8, .bool false] := by
        have := ((hZ.set 6 (.int .u32 200)).set 7 (.int .u32 ad)).set 9 (.int .i64 8080)
        simp only [List.setIfInBounds_toArray, List.set] at this
        exact this.drew
      have hB7 : Below w.heap.size w (((((w6).setCell ⟨bz, 6, none⟩ (.int .u32 200)).setCell ⟨bz, 7, none⟩ (.int .u32 ad)).setCell ⟨bz, 9, none⟩ (.int .i64 8080)).drew) := (((hB.setCell (p := ⟨bz, 6, none⟩) hbw0 _).setCell (p := ⟨bz, 7, none⟩) hbw0 _).setCell (p := ⟨bz, 9, none⟩) hbw0 _).drew
      have hF7 : Flw o1 (((((w6).setCell ⟨bz, 6, none⟩ (.int .u32 200)).setCell ⟨bz, 7, none⟩ (.int .u32 ad)).setCell ⟨bz, 9, none⟩ (.int .i64 8080)).drew) f pb wh mb t am bm k r 20 i i i (.agg #[.int .i64 17, .int .u32 200, .int .u32 ad, .int .i64 8080]) gA gB l := hF.keep (fun b _ h4 => by
        have hne : b ≠ bz := fun e => by have := HO1.out bz hbw0; rw [e] at h4; omega
        exact (Below.heap_setCell _ _ _ _ hne).trans ((Below.heap_setCell _ _ _ _ hne).trans (Below.heap_setCell _ _ _ _ hne)))
      clear KA P0 P1 P2 P3 z6 z7 z9 zf6 zf7 zf9 hF hB hZ hY
      generalize ((((w6).setCell ⟨bz, 6, none⟩ (.int .u32 200)).setCell ⟨bz, 7, none⟩ (.int .u32 ad)).setCell ⟨bz, 9, none⟩ (.int .i64 8080)).drew = w7 at hZ7 hB7 hF7 ⊢
      go_wp2_with fail
      have x5 : ∀ V : Gr w7, V.1.cell? ⟨f, 5, none⟩ = some (.pointer (some ⟨pb, 0, none⟩)) := fun V => ((V.has hF7.head).cell 5).trans rfl
      have z0 : ∀ V : Gr w7, V.1.cell? ⟨bz, 0, none⟩ = some (.int .i64 17) := fun V => ((V.has hZ7).cell 0).trans rfl
      have z1 : ∀ V : Gr w7, V.1.cell? ⟨bz, 1, none⟩ = some (.int .u32 (cs : Int)) := fun V => ((V.has hZ7).cell 1).trans rfl
      have z2 : ∀ V : Gr w7, V.1.cell? ⟨bz, 2, none⟩ = some (.int .u32 (cd : Int)) := fun V => ((V.has hZ7).cell 2).trans rfl
      have z3 : ∀ V : Gr w7, V.1.cell? ⟨bz, 3, none⟩ = some (.int .i64 (cp : Int)) := fun V => ((V.has hZ7).cell 3).trans rfl
      have z4 : ∀ V : Gr w7, V.1.cell? ⟨bz, 4, none⟩ = some (.int .i64 (dp : Int)) := fun V => ((V.has hZ7).cell 4).trans rfl
      have z5 : ∀ V : Gr w7, V.1.cell? ⟨bz, 5, none⟩ = some (.int .i64 17) := fun V => ((V.has hZ7).cell 5).trans rfl
      have z6 : ∀ V : Gr w7, V.1.cell? ⟨bz, 6, none⟩ = some (.int .u32 200) := fun V => ((V.has hZ7).cell 6).trans rfl
      have z7 : ∀ V : Gr w7, V.1.cell? ⟨bz, 7, none⟩ = some (.int .u32 ad) := fun V => ((V.has hZ7).cell 7).trans rfl
      have z8 : ∀ V : Gr w7, V.1.cell? ⟨bz, 8, none⟩ = some (.int .i64 (cp : Int)) := fun V => ((V.has hZ7).cell 8).trans rfl
      have z9 : ∀ V : Gr w7, V.1.cell? ⟨bz, 9, none⟩ = some (.int .i64 8080) := fun V => ((V.has hZ7).cell 9).trans rfl
      have z10 : ∀ V : Gr w7, V.1.cell? ⟨bz, 10, none⟩ = some (.int .i64 sv) := fun V => ((V.has hZ7).cell 10).trans rfl
      have z11 : ∀ V : Gr w7, V.1.cell? ⟨bz, 11, none⟩ = some (.int .i64 bk) := fun V => ((V.has hZ7).cell 11).trans rfl
      have z12 : ∀ V : Gr w7, V.1.cell? ⟨bz, 12, none⟩ = some (.int .i64 8) := fun V => ((V.has hZ7).cell 12).trans rfl
      have z13 : ∀ V : Gr w7, V.1.cell? ⟨bz, 13, none⟩ = some (.bool false) := fun V => ((V.has hZ7).cell 13).trans rfl
      have HK : Hid (∀ V : Gr w7, Calls Tryz.prog 139 #[.agg #[.int .i64 17, .int .u32 (cs : Int), .int .u32 (cd : Int), .int .i64 (cp : Int), .int .i64 (dp : Int), .int .i64 17, .int .u32 200, .int .u32 ad, .int .i64 (cp : Int), .int .i64 8080, .int .i64 sv, .int .i64 bk, .int .i64 8, .bool false]] V.1 fun e w' => e = .returned (.agg #[.int .i64 17, .int .u32 200, .int .u32 ad, .int .i64 8080]) ∧ Below V.1.heap.size V.1 w') := fun V => fkey_c _ _ _ _ _ _ _ _ _ _ _ _ _ _ V.1
      have HN : Hid (∀ V : Gr w7, Calls Tryz.prog 137 #[.pointer (some ⟨f, 0, none⟩)] V.1 fun e w' => e = .returned (.int .i64 0) ∧ Below V.1.heap.size V.1 w') := fun V => (fnow_c (hF7.below V.2)).mono fun e w' ⟨a, b⟩ => ⟨a, b ▸ Below.refl _ _⟩
      refine wp_region_grows_mid 8 (by kernel_rfl) (by kernel_rfl) ?_
      simp only [List.take_succ_cons, List.take_zero, List.drop_succ_cons, List.drop_zero]
      repeat (go_big_quiet_step (first | (go_at_call 139; with_reducible refine grows_call _ (HK.out _)) | (go_at_call 137; with_reducible refine grows_call _ (HN.out _))))
      refine wpQuiet_nil ?_
      intro V
      have hF8 := hF7.below V.2
      have hZ8 := V.has hZ7
      have hB8 := hB7.trans (V.2.mono hB7.size)
      clear x5 z0 z1 z2 z3 z4 z5 z6 z7 z8 z9 z10 z11 z12 z13 HK HN hF7 hZ7 hB7
      obtain ⟨w8, hw⟩ : ∃ W, W = V.1 := ⟨_, rfl⟩
      rw [← hw] at hF8 hZ8 hB8 ⊢
      clear hw V
      have HT := Lib.hid (ptake_c (fun b => o1 b = 2) pb k i _ _ _ _ hkv hk1 hik hk w8 hF8.tab (fun e => by have := hF8.zero; omega) hF8.prt)
      go_wp2_with fail
      refine HT.out.mono ?_
      clear HT
      rintro e w9 ⟨⟨hik1, rfl, hP9⟩ | ⟨hik1, rfl, hP9⟩, hC9⟩
      · have F9 := hF8.prt' hC9 hP9
        have C9 : Chg (fun b => 1 ≤ o b ∧ o b ≤ 4) w w9 := (Chg.own hB8).then hC9 (fun b hb e => by have := HO2.out b hb; omega)
        have E9 := Lib.hid (E1.out.trans ((own_ext o1 w8.heap.size 2).mono (fun c e => by omega)) hB8.size)
        have hZ9 : Has w9 bz 99 #[.int .i64 17, .int .u32 (cs : Int), .int .u32 (cd : Int), .int .i64 (cp : Int), .int .i64 (dp : Int), .int .i64 17, .int .u32 200, .int .u32 ad, .int .i64 (cp : Int), .int .i64 8080, .int .i64 sv, .int .i64 bk, .int .i64 8, .bool false] := hZ8.chg hC9 (fun e => by have := HO1.out bz hbw0; omega)
        have O2 : Hid (∀ b, b < w.heap.size → owner o1 w8.heap.size 2 b = o b) := fun b hb => (own_lt (Nat.lt_of_lt_of_le hb hB8.size)).trans (HO2.out b hb)
        have O5 : Hid (owner o1 w8.heap.size 2 bz = 5) := (own_lt hZ8.lt).trans (HO1.out bz hbw0)
        obtain ⟨o2, ho2⟩ : ∃ O, O = owner o1 w8.heap.size 2 := ⟨_, rfl⟩
        rw [← ho2] at F9 E9 O2 O5
        have hlt9 : bz < w9.heap.size := hZ9.lt
        have z8 := (hZ9.cell 8).trans rfl
        have zf8 := hZ9.free 8
        have hbw9 : w.heap.size ≤ w9.heap.size := C9.size
        clear ho2 hC9 hP9 hZ8 hF8 hB8 E1 HO1 HO2
        go_wp2_with fail
        repeat (go_big_quiet_step (fail))
        refine wpQuiet_nil ?_
        go_wp2_with fail
        have hZ10 : Has (w9.setCell ⟨bz, 8, none⟩ (.int .i64 (2000 + (i : Int)))) bz 99 #[.int .i64 17, .int .u32 (cs : Int), .int .u32 (cd : Int), .int .i64 (cp : Int), .int .i64 (dp : Int), .int .i64 17, .int .u32 200, .int .u32 ad, .int .i64 (2000 + (i : Int)), .int .i64 8080, .int .i64 sv, .int .i64 bk, .int .i64 8, .bool false] := by
          have := hZ9.set 8 (.int .i64 (2000 + (i : Int)))
          simp only [List.setIfInBounds_toArray, List.set] at this
          exact this
        have C10 : Chg (fun b => 1 ≤ o b ∧ o b ≤ 4) w (w9.setCell ⟨bz, 8, none⟩ (.int .i64 (2000 + (i : Int)))) := C9.setIn hbw0 _ _
        have F10 : Flw o2 (w9.setCell ⟨bz, 8, none⟩ (.int .i64 (2000 + (i : Int)))) f pb wh mb t am bm k r 20 (i + 1) i i (.agg #[.int .i64 17, .int .u32 200, .int .u32 ad, .int .i64 8080]) gA gB l := F9.keep (fun b _ h4 => by
          have hne : b ≠ bz := fun e => by have := O5.out; rw [e] at h4; omega
          exact Below.heap_setCell _ _ _ _ hne)
        clear z8 zf8 C9 F9 hZ9
        generalize w9.setCell ⟨bz, 8, none⟩ (.int .i64 (2000 + (i : Int))) = w10 at hZ10 C10 F10 ⊢
        have x7 : ∀ V : Gr w10, V.1.cell? ⟨f, 7, none⟩ = some (.pointer (some ⟨t, 0, none⟩)) := fun V => ((V.has F10.head).cell 7).trans rfl
        have z0 : ∀ V : Gr w10, V.1.cell? ⟨bz, 0, none⟩ = some (.int .i64 17) := fun V => ((V.has hZ10).cell 0).trans rfl
        have z1 : ∀ V : Gr w10, V.1.cell? ⟨bz, 1, none⟩ = some (.int .u32 (cs : Int)) := fun V => ((V.has hZ10).cell 1).trans rfl
        have z2 : ∀ V : Gr w10, V.1.cell? ⟨bz, 2, none⟩ = some (.int .u32 (cd : Int)) := fun V => ((V.has hZ10).cell 2).trans rfl
        have z3 : ∀ V : Gr w10, V.1.cell? ⟨bz, 3, none⟩ = some (.int .i64 (cp : Int)) := fun V => ((V.has hZ10).cell 3).trans rfl
        have z4 : ∀ V : Gr w10, V.1.cell? ⟨bz, 4, none⟩ = some (.int .i64 (dp : Int)) := fun V => ((V.has hZ10).cell 4).trans rfl
        have z5 : ∀ V : Gr w10, V.1.cell? ⟨bz, 5, none⟩ = some (.int .i64 17) := fun V => ((V.has hZ10).cell 5).trans rfl
        have z6 : ∀ V : Gr w10, V.1.cell? ⟨bz, 6, none⟩ = some (.int .u32 200) := fun V => ((V.has hZ10).cell 6).trans rfl
        have z7 : ∀ V : Gr w10, V.1.cell? ⟨bz, 7, none⟩ = some (.int .u32 ad) := fun V => ((V.has hZ10).cell 7).trans rfl
        have z8 : ∀ V : Gr w10, V.1.cell? ⟨bz, 8, none⟩ = some (.int .i64 (2000 + (i : Int))) := fun V => ((V.has hZ10).cell 8).trans rfl
        have z9 : ∀ V : Gr w10, V.1.cell? ⟨bz, 9, none⟩ = some (.int .i64 8080) := fun V => ((V.has hZ10).cell 9).trans rfl
        have z10 : ∀ V : Gr w10, V.1.cell? ⟨bz, 10, none⟩ = some (.int .i64 sv) := fun V => ((V.has hZ10).cell 10).trans rfl
        have z11 : ∀ V : Gr w10, V.1.cell? ⟨bz, 11, none⟩ = some (.int .i64 bk) := fun V => ((V.has hZ10).cell 11).trans rfl
        have z12 : ∀ V : Gr w10, V.1.cell? ⟨bz, 12, none⟩ = some (.int .i64 8) := fun V => ((V.has hZ10).cell 12).trans rfl
        have z13 : ∀ V : Gr w10, V.1.cell? ⟨bz, 13, none⟩ = some (.bool false) := fun V => ((V.has hZ10).cell 13).trans rfl
        refine wp_region_grows_mid 9 (by kernel_rfl) (by kernel_rfl) ?_
        simp only [List.take_succ_cons, List.take_zero, List.drop_succ_cons, List.drop_zero]
        repeat (go_big_quiet_step (fail))
        refine wpQuiet_nil ?_
        intro V
        have hF11 := F10.below V.2
        have hZ11 := V.has hZ10
        have C11 := C10.trans (Chg.of_below V.2)
        clear x7 z0 z1 z2 z3 z4 z5 z6 z7 z8 z9 z10 z11 z12 z13 F10 hZ10 C10
        obtain ⟨w11, hw⟩ : ∃ W, W = V.1 := ⟨_, rfl⟩
        rw [← hw] at hF11 hZ11 C11 ⊢
        clear hw V
        have HT := Lib.hid (twput_c (fun b => o2 b = 4) t am bm r i gA gB l 17 (cs : Int) (cd : Int) (cp : Int) (dp : Int) 17 200 ad (2000 + (i : Int)) 8080 sv bk 8 false hkA hkB hnA hnB HQ.out (by omega) w11 hF11.tw)
        go_wp2_with fail
        refine HT.out.mono ?_
        clear HT
        rintro e w12 ⟨rfl, hT12, hC12⟩
        have F12 := hF11.tw' hC12 hT12
        have C12 : Chg (fun b => 1 ≤ o b ∧ o b ≤ 4) w w12 := C11.then hC12 (fun b hb e => by have := O2.out b hb; omega)
        have E12 := Lib.hid (E9.out.trans ((own_ext o2 w11.heap.size 4).mono (fun c e => by omega)) C11.size)
        have hZ12 : Has w12 bz 99 #[.int .i64 17, .int .u32 (cs : Int), .int .u32 (cd : Int), .int .i64 (cp : Int), .int .i64 (dp : Int), .int .i64 17, .int .u32 200, .int .u32 ad, .int .i64 (2000 + (i : Int)), .int .i64 8080, .int .i64 sv, .int .i64 bk, .int .i64 8, .bool false] := hZ11.chg hC12 (fun e => by have := O5.out; omega)
        have O3 : Hid (∀ b, b < w.heap.size → owner o2 w11.heap.size 4 b = o b) := fun b hb => (own_lt (Nat.lt_of_lt_of_le hb C11.size)).trans (O2.out b hb)
        obtain ⟨o3, ho3⟩ : ∃ O, O = owner o2 w11.heap.size 4 := ⟨_, rfl⟩
        rw [← ho3] at F12 E12 O3
        clear ho3 hT12 hC12 hF11 C11 hZ11 O2 O5 E9
        go_wp2_with fail
        repeat (go_big_quiet_step (fail))
        refine wpQuiet_nil ?_
        have z0 := (hZ12.cell 0).trans rfl
        have z1 := (hZ12.cell 1).trans rfl
        have z2 := (hZ12.cell 2).trans rfl
        have z3 := (hZ12.cell 3).trans rfl
        have z4 := (hZ12.cell 4).trans rfl
        have z5 := (hZ12.cell 5).trans rfl
        have z6 := (hZ12.cell 6).trans rfl
        have z7 := (hZ12.cell 7).trans rfl
        have z8 := (hZ12.cell 8).trans rfl
        have z9 := (hZ12.cell 9).trans rfl
        have z10 := (hZ12.cell 10).trans rfl
        have z11 := (hZ12.cell 11).trans rfl
        have z12 := (hZ12.cell 12).trans rfl
        have z13 := (hZ12.cell 13).trans rfl
        have HM := Lib.hid (farm20_c (fun b => o3 b = 3) f pb wh mb t r i (by omega) 17 (cs : Int) (cd : Int) (cp : Int) (dp : Int) 17 200 ad (2000 + (i : Int)) 8080 sv bk false w12 F12.head F12.whl)
        go_wp2_with fail
        refine HM.out.mono ?_
        clear HM z0 z1 z2 z3 z4 z5 z6 z7 z8 z9 z10 z11 z12 z13
        rintro e w13 ⟨rfl, hW13, hC13⟩
        have F13 := Lib.hid (F12.whl' hC13 hW13)
        have C13 : Hid (Chg (fun b => 1 ≤ o b ∧ o b ≤ 4) w w13) := C12.then hC13 (fun b hb e => by have := O3.out b hb; omega)
        have E13 := Lib.hid (E12.out.trans ((own_ext o3 w12.heap.size 3).mono (fun c e => by omega)) C12.size)
        have HIK := Lib.hid hik1
        clear hW13 hC13 F12 C12 hZ12 hik1
        go_wp2_with fail
        go_ret2
        exact ⟨_, E13.out, C13.out, .inr (.inr ⟨HQ.out, HIK.out, rfl, F13.out⟩)⟩
      · have F9 := Lib.hid (hF8.prt' hC9 hP9)
        have C9 : Hid (Chg (fun b => 1 ≤ o b ∧ o b ≤ 4) w w9) := (Chg.own hB8).then hC9 (fun b hb e => by have := HO2.out b hb; omega)
        have E9 := Lib.hid (E1.out.trans ((own_ext o1 w8.heap.size 2).mono (fun c e => by omega)) hB8.size)
        have HIK := Lib.hid hik1
        clear hC9 hP9 hZ8 hF8 hB8 hik1
        go_wp2_with fail
        repeat (go_big_quiet_step (fail))
        refine wpQuiet_nil ?_
        go_wp2_with fail
        go_ret2
        exact ⟨_, E9.out, C9.out, .inr (.inl ⟨HQ.out, HIK.out, rfl, F9.out⟩)⟩
set_option maxRecDepth 100000 in
set_option maxHeartbeats 6400000 in
theorem fopen6_c (o : Nat → Nat) (f pb wh mb t am bm k r i : Nat) (gA gB : Value → Option Value) (l : List Value) (cs cd cp dp : Nat) (h2 : cs < 4294967296) (h3 : cd < 4294967296) (h4 : cp < 65536) (h5 : dp < 65536) (sv bk ad : Int) (hkA : (keyOf Tryz.prog 97 (.agg #[.int .i64 6, .int .u32 (cs : Int), .int .u32 (cd : Int), .int .i64 (cp : Int), .int .i64 (dp : Int)])).isSome = true) (hkB : (keyOf Tryz.prog 97 (.agg #[.int .i64 6, .int .u32 200, .int .u32 ad, .int .i64 (2000 + (i : Int)), .int .i64 8080])).isSome = true) (hkv : (keyOf Tryz.prog 292 (.agg #[.int .i64 6, .int .u32 200, .int .u32 ad, .int .i64 8080])).isSome = true) (hnA : gA (.agg #[.int .i64 6, .int .u32 (cs : Int), .int .u32 (cd : Int), .int .i64 (cp : Int), .int .i64 (dp : Int)]) = none) (hnB : gB (.agg #[.int .i64 6, .int .u32 200, .int .u32 ad, .int .i64 (2000 + (i : Int)), .int .i64 8080]) = none) (hk1 : 1 ≤ k) (hk : k ≤ 30) (hr : r ≤ 40) (hik : i ≤ k) (hir : i ≤ r) (w : World) (h : Flw o w f pb wh mb t am bm k r 5 i i i (.agg #[.int .i64 6, .int .u32 200, .int .u32 ad, .int .i64 8080]) gA gB l) :
    Calls Tryz.prog 87 #[.pointer (some ⟨f, 0, none⟩), .agg #[.int .i64 6, .int .u32 (cs : Int), .int .u32 (cd : Int), .int .i64 (cp : Int), .int .i64 (dp : Int)], .int .i64 sv, .int .u32 200, .agg #[.int .i64 bk, .int .u32 ad, .int .i64 8080], .int .i64 2] w fun e w' => ∃ o', Ext (fun c => 1 ≤ c ∧ c ≤ 5) o o' w.heap.size ∧ Chg (fun b => 1 ≤ o b ∧ o b ≤ 4) w w' ∧
      ((i = r ∧ e = .returned (.tuple #[.int .i64 0, .int .i64 16]) ∧ Flw o' w' f pb wh mb t am bm k r 5 i i i (.agg #[.int .i64 6, .int .u32 200, .int .u32 ad, .int .i64 8080]) gA gB l) ∨
       (i < r ∧ i = k ∧ e = .returned (.tuple #[.int .i64 0, .int .i64 17]) ∧ Flw o' w' f pb wh mb t am bm k r 5 i i i (.agg #[.int .i64 6, .int .u32 200, .int .u32 ad, .int .i64 8080]) gA gB l) ∨
       (i < r ∧ i < k ∧ e = .returned (.tuple #[.int .i64 ((i : Int) + 1), .int .i64 0]) ∧ Flw o' w' f pb wh mb t am bm k r 5 (i + 1) (i + 1) (i + 1) (.agg #[.int .i64 6, .int .u32 200, .int .u32 ad, .int .i64 8080]) (setK gA (.agg #[.int .i64 6, .int .u32 (cs : Int), .int .u32 (cd : Int), .int .i64 (cp : Int), .int .i64 (dp : Int)]) (.int .i64 ((i : Int) + 1))) (setK gB (.agg #[.int .i64 6, .int .u32 200, .int .u32 ad, .int .i64 (2000 + (i : Int)), .int .i64 8080]) (.int .i64 ((i : Int) + 1))) (l ++ [.int .i64 6, .int .u32 (cs : Int), .int .u32 (cd : Int), .int .i64 (cp : Int), .int .i64 (dp : Int), .int .i64 6, .int .u32 200, .int .u32 ad, .int .i64 (2000 + (i : Int)), .int .i64 8080, .int .i64 6, .int .u32 (cs : Int), .int .u32 (cd : Int), .int .i64 (cp : Int), .int .i64 (dp : Int), .int .i64 6, .int .u32 200, .int .u32 ad, .int .i64 (2000 + (i : Int)), .int .i64 8080, .int .i64 sv, .int .i64 bk, .int .i64 1, .bool false, .bool true]))) := by
  have b1 : Below w.heap.size w ((w.alloc (.cells #[.int .i64 6, .int .u32 (cs : Int), .int .u32 (cd : Int), .int .i64 (cp : Int), .int .i64 (dp : Int)] 97)).alloc (.cells #[.int .i64 bk, .int .u32 ad, .int .i64 8080] 68)) := ((Below.refl _ _).alloc (Nat.le_refl _) _).alloc (by simp) _
  have E1 := Lib.hid ((own_ext o w.heap.size 5).mono (D := fun c => 1 ≤ c ∧ c ≤ 5) (fun c e => by omega))
  have hF := (h.re (o' := owner o w.heap.size 5) (fun b hb => own_lt hb)).below b1
  have hX : Has ((w.alloc (.cells #[.int .i64 6, .int .u32 (cs : Int), .int .u32 (cd : Int), .int .i64 (cp : Int), .int .i64 (dp : Int)] 97)).alloc (.cells #[.int .i64 bk, .int .u32 ad, .int .i64 8080] 68)) w.heap.size 97 #[.int .i64 6, .int .u32 (cs : Int), .int .u32 (cd : Int), .int .i64 (cp : Int), .int .i64 (dp : Int)] := (Has.new w #[.int .i64 6, .int .u32 (cs : Int), .int .u32 (cd : Int), .int .i64 (cp : Int), .int .i64 (dp : Int)] 97).alloc _
  have hY : Has ((w.alloc (.cells #[.int .i64 6, .int .u32 (cs : Int), .int .u32 (cd : Int), .int .i64 (cp : Int), .int .i64 (dp : Int)] 97)).alloc (.cells #[.int .i64 bk, .int .u32 ad, .int .i64 8080] 68)) (w.heap.size + 1) 68 #[.int .i64 bk, .int .u32 ad, .int .i64 8080] := has_made (by simp)
  obtain ⟨o1, ho1⟩ : ∃ O, O = owner o w.heap.size 5 := ⟨_, rfl⟩
  have HO1 : Hid (∀ b, w.heap.size ≤ b → o1 b = 5) := fun b hb => by rw [ho1]; exact own_back hb
  have HO2 : Hid (∀ b, b < w.heap.size → o1 b = o b) := fun b hb => by rw [ho1]; exact own_lt hb
  rw [← ho1] at hF E1
  clear h ho1
  go_enter Tryz.func87, Tryz.ntmps87
  go_wp2_with fail
  obtain ⟨w1, hw⟩ : ∃ W, W = (w.alloc (.cells #[.int .i64 6, .int .u32 (cs : Int), .int .u32 (cd : Int), .int .i64 (cp : Int), .int .i64 (dp : Int)] 97)).alloc (.cells #[.int .i64 bk, .int .u32 ad, .int .i64 8080] 68) := ⟨_, rfl⟩
  rw [← hw] at b1 hF hX hY ⊢
  obtain ⟨bx, hbx⟩ : ∃ b, b = w.heap.size := ⟨_, rfl⟩
  obtain ⟨by_, hby⟩ : ∃ b, b = w.heap.size + 1 := ⟨_, rfl⟩
  have LO : Hid (bx = w.heap.size ∧ by_ = w.heap.size + 1) := ⟨hbx, hby⟩
  rw [← hby] at hY ⊢
  rw [← hbx] at hX ⊢
  clear hw hbx hby
  refine (key_c 6 cs cd cp dp (by decide) h2 h3 h4 h5 w1).mono ?_
  rintro e w2 ⟨rfl, b2⟩
  have hF := hF.below b2
  have hX := hX.below b2
  have hY := hY.below b2
  have b2 := b1.trans (b2.mono b1.size)
  have x0 := (hX.cell 0).trans rfl
  go_wp2_with fail
  refine (fstep6_c  w2).mono ?_
  rintro e w3 ⟨rfl, b3⟩
  have hF := hF.below b3
  have hX := hX.below b3
  have hY := hY.below b3
  have b3 := b2.trans (b3.mono b2.size)
  have x0 := (hX.cell 0).trans rfl
  have x1 := (hX.cell 1).trans rfl
  have x2 := (hX.cell 2).trans rfl
  have x3 := (hX.cell 3).trans rfl
  have x4 := (hX.cell 4).trans rfl
  have HA := Lib.hid (fahead_c (r := r) _ _ _ _ _ hkA hnA hF)
  clear b1 b2
  go_wp2_with fail
  refine HA.out.mono ?_
  rintro e w4 ⟨rfl, b4⟩
  clear HA x0 x1 x2 x3 x4
  have hF := hF.below b4
  have hX := hX.below b4
  have hY := hY.below b4
  have b4 := b3.trans (b4.mono b3.size)
  clear b3
  go_wp2_with fail
  have x8 : ∀ V : Gr w4, V.1.cell? ⟨f, 8, none⟩ = some (.int .i64 (r : Int)) := fun V => ((V.has hF.head).cell 8).trans rfl
  have HL : Hid (∀ V : Gr w4, Calls Tryz.prog 10 #[.pointer (some ⟨f, 0, none⟩)] V.1 fun e w' => e = .returned (.int .i64 (i : Int)) ∧ Below V.1.heap.size V.1 w') := fun V => (flen_c (hF.below V.2)).mono fun e w' ⟨a, b⟩ => ⟨a, b ▸ Below.refl _ _⟩
  have HN : Hid (∀ V : Gr w4, Calls Tryz.prog 137 #[.pointer (some ⟨f, 0, none⟩)] V.1 fun e w' => e = .returned (.int .i64 0) ∧ Below V.1.heap.size V.1 w') := fun V => (fnow_c (hF.below V.2)).mono fun e w' ⟨a, b⟩ => ⟨a, b ▸ Below.refl _ _⟩
  have HF := Lib.hid hF
  have HX := Lib.hid hX
  have HY := Lib.hid hY
  have HB := Lib.hid b4
  clear hF hX hY b4
  by_cases hq : i = r
  · have ie : ((i : Int) == (r : Int)) = true := by simp [hq]
    refine wp_region_grows (by kernel_rfl) (by kernel_rfl) ?_
    repeat (go_big_quiet_step (first | (go_at_call 10; with_reducible refine grows_call _ (HL.out _)) | (go_at_call 137; with_reducible refine grows_call _ (HN.out _))))
    refine wpQuiet_nil ?_
    rintro _ ⟨V, rfl⟩
    have hB := HB.out.trans (V.2.mono HB.out.size)
    have hFV := HF.out.below V.2
    have HQ := Lib.hid hq
    clear hq x8 HL HN
    go_wp2_with fail
    go_ret2
    exact ⟨o1, E1.out, Chg.own hB, .inl ⟨HQ.out, rfl, hFV⟩⟩
  · have ie : ((i : Int) == (r : Int)) = false := by simp; omega
    refine wp_region_grows (by kernel_rfl) (by kernel_rfl) ?_
    repeat (go_big_quiet_step (first | (go_at_call 10; with_reducible refine grows_call _ (HL.out _)) | (go_at_call 137; with_reducible refine grows_call _ (HN.out _))))
    refine wpQuiet_nil ?_
    rintro _ ⟨V, rfl⟩
    have hB := HB.out.trans (V.2.mono HB.out.size)
    have hF := HF.out.below V.2
    have hX := V.has HX.out
    have hY := V.has HY.out
    have HQ : Hid (i < r) := by show i < r; omega
    clear hq x8 HL HN HF HX HY HB
    obtain ⟨w5, hw⟩ : ∃ W, W = V.1 := ⟨_, rfl⟩
    rw [← hw] at hB hF hX hY ⊢
    clear hw V
    have x0 := (hX.cell 0).trans rfl
    have x1 := (hX.cell 1).trans rfl
    have x2 := (hX.cell 2).trans rfl
    have x3 := (hX.cell 3).trans rfl
    have x4 := (hX.cell 4).trans rfl
    have y0 := (hY.cell 0).trans rfl
    go_wp2_with fail
    have hZ := Has.new w5 #[.int .i64 6, .int .u32 (cs : Int), .int .u32 (cd : Int), .int .i64 (cp : Int), .int .i64 (dp : Int), .int .i64 6, .int .u32 (cs : Int), .int .u32 (cd : Int), .int .i64 (cp : Int), .int .i64 (dp : Int), .int .i64 sv, .int .i64 bk, .int .i64 1, .bool false] 99
    have hyb := hY.lt
    have hbw0 := hB.size
    have hF := hF.below ((Below.refl _ _).alloc (Nat.le_refl _) (.cells #[.int .i64 6, .int .u32 (cs : Int), .int .u32 (cd : Int), .int .i64 (cp : Int), .int .i64 (dp : Int), .int .i64 6, .int .u32 (cs : Int), .int .u32 (cd : Int), .int .i64 (cp : Int), .int .i64 (dp : Int), .int .i64 sv, .int .i64 bk, .int .i64 1, .bool false] 99))
    have hY := hY.alloc (.cells #[.int .i64 6, .int .u32 (cs : Int), .int .u32 (cd : Int), .int .i64 (cp : Int), .int .i64 (dp : Int), .int .i64 6, .int .u32 (cs : Int), .int .u32 (cd : Int), .int .i64 (cp : Int), .int .i64 (dp : Int), .int .i64 sv, .int .i64 bk, .int .i64 1, .bool false] 99)
    have hB := hB.alloc hB.size (.cells #[.int .i64 6, .int .u32 (cs : Int), .int .u32 (cd : Int), .int .i64 (cp : Int), .int .i64 (dp : Int), .int .i64 6, .int .u32 (cs : Int), .int .u32 (cd : Int), .int .i64 (cp : Int), .int .i64 (dp : Int), .int .i64 sv, .int .i64 bk, .int .i64 1, .bool false] 99)
    clear x0 x1 x2 x3 x4 y0 hX
    obtain ⟨bz, hbz⟩ : ∃ b, b = w5.heap.size := ⟨_, rfl⟩
    rw [← hbz] at hyb hbw0
    obtain ⟨w6, hw⟩ : ∃ W, W = w5.alloc (.cells #[.int .i64 6, .int .u32 (cs : Int), .int .u32 (cd : Int), .int .i64 (cp : Int), .int .i64 (dp : Int), .int .i64 6, .int .u32 (cs : Int), .int .u32 (cd : Int), .int .i64 (cp : Int), .int .i64 (dp : Int), .int .i64 sv, .int .i64 bk, .int .i64 1, .bool false] 99) := ⟨_, rfl⟩
    rw [← hbz] at hZ ⊢
    rw [← hw] at hF hY hB hZ ⊢
    clear hw hbz
    have hzy : by_ ≠ bz := by omega
    have z6 := (hZ.cell 6).trans rfl
    have z7 := (hZ.cell 7).trans rfl
    have z9 := (hZ.cell 9).trans rfl
    have zf6 := hZ.free 6
    have zf7 := hZ.free 7
    have zf9 := hZ.free 9
    have KA : Hid (∀ W, Keep (fun c => c = by_) w6 W → W.cell? ⟨by_, 1, none⟩ = some (.int .u32 ad) ∧ W.cell? ⟨by_, 2, none⟩ = some (.int .i64 8080)) := fun W k => by
      have q := k _ _ _ rfl hY
      exact ⟨(q.cell 1).trans rfl, (q.cell 2).trans rfl⟩
    have K0 : Keep (fun c => c = by_) w6 w6 := fun _ _ _ _ h => h
    have K1 : Keep (fun c => c = by_) w6 ((w6).setCell ⟨bz, 6, none⟩ (.int .u32 200)) := fun c t ys hs hc => (K0 c t ys hs hc).setOther _ (by rw [show c = by_ from hs]; exact hzy) _
    have K2 : Keep (fun c => c = by_) w6 (((w6).setCell ⟨bz, 6, none⟩ (.int .u32 200)).setCell ⟨bz, 7, none⟩ (.int .u32 ad)) := fun c t ys hs hc => (K1 c t ys hs hc).setOther _ (by rw [show c = by_ from hs]; exact hzy) _
    have K3 : Keep (fun c => c = by_) w6 ((((w6).setCell ⟨bz, 6, none⟩ (.int .u32 200)).setCell ⟨bz, 7, none⟩ (.int .u32 ad)).setCell ⟨bz, 9, none⟩ (.int .i64 8080)) := fun c t ys hs hc => (K2 c t ys hs hc).setOther _ (by rw [show c = by_ from hs]; exact hzy) _
    have P0 : Hid (Keep (fun c => c = by_) w6 (w6).drew) := fun c t ys hs hc => K0 c t ys hs hc
    have P1 : Hid (Keep (fun c => c = by_) w6 ((w6).setCell ⟨bz, 6, none⟩ (.int .u32 200)).drew) := fun c t ys hs hc => K1 c t ys hs hc
    have P2 : Hid (Keep (fun c => c = by_) w6 (((w6).setCell ⟨bz, 6, none⟩ (.int .u32 200)).setCell ⟨bz, 7, none⟩ (.int .u32 ad)).drew) := fun c t ys hs hc => K2 c t ys hs hc
    have P3 : Hid (Keep (fun c => c = by_) w6 ((((w6).setCell ⟨bz, 6, none⟩ (.int .u32 200)).setCell ⟨bz, 7, none⟩ (.int .u32 ad)).setCell ⟨bz, 9, none⟩ (.int .i64 8080)).drew) := fun c t ys hs hc => K3 c t ys hs hc
    clear K0 K1 K2 K3
    go_region_held3 (fun W => W.cell? ⟨by_, 1, none⟩ = some (.int .u32 ad) ∧ W.cell? ⟨by_, 2, none⟩ = some (.int .i64 8080)) (first | with_reducible exact KA.out _ P0.out | with_reducible exact KA.out _ P1.out | with_reducible exact KA.out _ P2.out | with_reducible exact KA.out _ P3.out) (fail)
    all_goals
      have hZ7 : Has (((((w6).setCell ⟨bz, 6, none⟩ (.int .u32 200)).setCell ⟨bz, 7, none⟩ (.int .u32 ad)).setCell ⟨bz, 9, none⟩ (.int .i64 8080)).drew) bz 99 #[.int .i64 6, .int .u32 (cs : Int), .int .u32 (cd : Int), .int .i64 (cp : Int), .int .i64 (dp : Int), .int .i64 6, .int .u32 200, .int .u32 ad, .int .i64 (cp : Int), .int .i64 8080, .int .i64 sv, .int .i64 bk, .int .i64 1, .bool false] := by
        have := ((hZ.set 6 (.int .u32 200)).set 7 (.int .u32 ad)).set 9 (.int .i64 8080)
        simp only [List.setIfInBounds_toArray, List.set] at this
        exact this.drew
      have hB7 : Below w.heap.size w (((((w6).setCell ⟨bz, 6, none⟩ (.int .u32 200)).setCell ⟨bz, 7, none⟩ (.int .u32 ad)).setCell ⟨bz, 9, none⟩ (.int .i64 8080)).drew) := (((hB.setCell (p := ⟨bz, 6, none⟩) hbw0 _).setCell (p := ⟨bz, 7, none⟩) hbw0 _).setCell (p := ⟨bz, 9, none⟩) hbw0 _).drew
      have hF7 : Flw o1 (((((w6).setCell ⟨bz, 6, none⟩ (.int .u32 200)).setCell ⟨bz, 7, none⟩ (.int .u32 ad)).setCell ⟨bz, 9, none⟩ (.int .i64 8080)).drew) f pb wh mb t am bm k r 5 i i i (.agg #[.int .i64 6, .int .u32 200, .int .u32 ad, .int .i64 8080]) gA gB l := hF.keep (fun b _ h4 => by
        have hne : b ≠ bz := fun e => by have := HO1.out bz hbw0; rw [e] at h4; omega
        exact (Below.heap_setCell _ _ _ _ hne).trans ((Below.heap_setCell _ _ _ _ hne).trans (Below.heap_setCell _ _ _ _ hne)))
      clear KA P0 P1 P2 P3 z6 z7 z9 zf6 zf7 zf9 hF hB hZ hY
      generalize ((((w6).setCell ⟨bz, 6, none⟩ (.int .u32 200)).setCell ⟨bz, 7, none⟩ (.int .u32 ad)).setCell ⟨bz, 9, none⟩ (.int .i64 8080)).drew = w7 at hZ7 hB7 hF7 ⊢
      go_wp2_with fail
      have x5 : ∀ V : Gr w7, V.1.cell? ⟨f, 5, none⟩ = some (.pointer (some ⟨pb, 0, none⟩)) := fun V => ((V.has hF7.head).cell 5).trans rfl
      have z0 : ∀ V : Gr w7, V.1.cell? ⟨bz, 0, none⟩ = some (.int .i64 6) := fun V => ((V.has hZ7).cell 0).trans rfl
      have z1 : ∀ V : Gr w7, V.1.cell? ⟨bz, 1, none⟩ = some (.int .u32 (cs : Int)) := fun V => ((V.has hZ7).cell 1).trans rfl
      have z2 : ∀ V : Gr w7, V.1.cell? ⟨bz, 2, none⟩ = some (.int .u32 (cd : Int)) := fun V => ((V.has hZ7).cell 2).trans rfl
      have z3 : ∀ V : Gr w7, V.1.cell? ⟨bz, 3, none⟩ = some (.int .i64 (cp : Int)) := fun V => ((V.has hZ7).cell 3).trans rfl
      have z4 : ∀ V : Gr w7, V.1.cell? ⟨bz, 4, none⟩ = some (.int .i64 (dp : Int)) := fun V => ((V.has hZ7).cell 4).trans rfl
      have z5 : ∀ V : Gr w7, V.1.cell? ⟨bz, 5, none⟩ = some (.int .i64 6) := fun V => ((V.has hZ7).cell 5).trans rfl
      have z6 : ∀ V : Gr w7, V.1.cell? ⟨bz, 6, none⟩ = some (.int .u32 200) := fun V => ((V.has hZ7).cell 6).trans rfl
      have z7 : ∀ V : Gr w7, V.1.cell? ⟨bz, 7, none⟩ = some (.int .u32 ad) := fun V => ((V.has hZ7).cell 7).trans rfl
      have z8 : ∀ V : Gr w7, V.1.cell? ⟨bz, 8, none⟩ = some (.int .i64 (cp : Int)) := fun V => ((V.has hZ7).cell 8).trans rfl
      have z9 : ∀ V : Gr w7, V.1.cell? ⟨bz, 9, none⟩ = some (.int .i64 8080) := fun V => ((V.has hZ7).cell 9).trans rfl
      have z10 : ∀ V : Gr w7, V.1.cell? ⟨bz, 10, none⟩ = some (.int .i64 sv) := fun V => ((V.has hZ7).cell 10).trans rfl
      have z11 : ∀ V : Gr w7, V.1.cell? ⟨bz, 11, none⟩ = some (.int .i64 bk) := fun V => ((V.has hZ7).cell 11).trans rfl
      have z12 : ∀ V : Gr w7, V.1.cell? ⟨bz, 12, none⟩ = some (.int .i64 1) := fun V => ((V.has hZ7).cell 12).trans rfl
      have z13 : ∀ V : Gr w7, V.1.cell? ⟨bz, 13, none⟩ = some (.bool false) := fun V => ((V.has hZ7).cell 13).trans rfl
      have HK : Hid (∀ V : Gr w7, Calls Tryz.prog 139 #[.agg #[.int .i64 6, .int .u32 (cs : Int), .int .u32 (cd : Int), .int .i64 (cp : Int), .int .i64 (dp : Int), .int .i64 6, .int .u32 200, .int .u32 ad, .int .i64 (cp : Int), .int .i64 8080, .int .i64 sv, .int .i64 bk, .int .i64 1, .bool false]] V.1 fun e w' => e = .returned (.agg #[.int .i64 6, .int .u32 200, .int .u32 ad, .int .i64 8080]) ∧ Below V.1.heap.size V.1 w') := fun V => fkey_c _ _ _ _ _ _ _ _ _ _ _ _ _ _ V.1
      have HN : Hid (∀ V : Gr w7, Calls Tryz.prog 137 #[.pointer (some ⟨f, 0, none⟩)] V.1 fun e w' => e = .returned (.int .i64 0) ∧ Below V.1.heap.size V.1 w') := fun V => (fnow_c (hF7.below V.2)).mono fun e w' ⟨a, b⟩ => ⟨a, b ▸ Below.refl _ _⟩
      refine wp_region_grows_mid 8 (by kernel_rfl) (by kernel_rfl) ?_
      simp only [List.take_succ_cons, List.take_zero, List.drop_succ_cons, List.drop_zero]
      repeat (go_big_quiet_step (first | (go_at_call 139; with_reducible refine grows_call _ (HK.out _)) | (go_at_call 137; with_reducible refine grows_call _ (HN.out _))))
      refine wpQuiet_nil ?_
      intro V
      have hF8 := hF7.below V.2
      have hZ8 := V.has hZ7
      have hB8 := hB7.trans (V.2.mono hB7.size)
      clear x5 z0 z1 z2 z3 z4 z5 z6 z7 z8 z9 z10 z11 z12 z13 HK HN hF7 hZ7 hB7
      obtain ⟨w8, hw⟩ : ∃ W, W = V.1 := ⟨_, rfl⟩
      rw [← hw] at hF8 hZ8 hB8 ⊢
      clear hw V
      have HT := Lib.hid (ptake_c (fun b => o1 b = 2) pb k i _ _ _ _ hkv hk1 hik hk w8 hF8.tab (fun e => by have := hF8.zero; omega) hF8.prt)
      go_wp2_with fail
      refine HT.out.mono ?_
      clear HT
      rintro e w9 ⟨⟨hik1, rfl, hP9⟩ | ⟨hik1, rfl, hP9⟩, hC9⟩
      · have F9 := hF8.prt' hC9 hP9
        have C9 : Chg (fun b => 1 ≤ o b ∧ o b ≤ 4) w w9 := (Chg.own hB8).then hC9 (fun b hb e => by have := HO2.out b hb; omega)
        have E9 := Lib.hid (E1.out.trans ((own_ext o1 w8.heap.size 2).mono (fun c e => by omega)) hB8.size)
        have hZ9 : Has w9 bz 99 #[.int .i64 6, .int .u32 (cs : Int), .int .u32 (cd : Int), .int .i64 (cp : Int), .int .i64 (dp : Int), .int .i64 6, .int .u32 200, .int .u32 ad, .int .i64 (cp : Int), .int .i64 8080, .int .i64 sv, .int .i64 bk, .int .i64 1, .bool false] := hZ8.chg hC9 (fun e => by have := HO1.out bz hbw0; omega)
        have O2 : Hid (∀ b, b < w.heap.size → owner o1 w8.heap.size 2 b = o b) := fun b hb => (own_lt (Nat.lt_of_lt_of_le hb hB8.size)).trans (HO2.out b hb)
        have O5 : Hid (owner o1 w8.heap.size 2 bz = 5) := (own_lt hZ8.lt).trans (HO1.out bz hbw0)
        obtain ⟨o2, ho2⟩ : ∃ O, O = owner o1 w8.heap.size 2 := ⟨_, rfl⟩
        rw [← ho2] at F9 E9 O2 O5
        have hlt9 : bz < w9.heap.size := hZ9.lt
        have z8 := (hZ9.cell 8).trans rfl
        have zf8 := hZ9.free 8
        have hbw9 : w.heap.size ≤ w9.heap.size := C9.size
        clear ho2 hC9 hP9 hZ8 hF8 hB8 E1 HO1 HO2
        go_wp2_with fail
        repeat (go_big_quiet_step (fail))
        refine wpQuiet_nil ?_
        go_wp2_with fail
        have hZ10 : Has (w9.setCell ⟨bz, 8, none⟩ (.int .i64 (2000 + (i : Int)))) bz 99 #[.int .i64 6, .int .u32 (cs : Int), .int .u32 (cd : Int), .int .i64 (cp : Int), .int .i64 (dp : Int), .int .i64 6, .int .u32 200, .int .u32 ad, .int .i64 (2000 + (i : Int)), .int .i64 8080, .int .i64 sv, .int .i64 bk, .int .i64 1, .bool false] := by
          have := hZ9.set 8 (.int .i64 (2000 + (i : Int)))
          simp only [List.setIfInBounds_toArray, List.set] at this
          exact this
        have C10 : Chg (fun b => 1 ≤ o b ∧ o b ≤ 4) w (w9.setCell ⟨bz, 8, none⟩ (.int .i64 (2000 + (i : Int)))) := C9.setIn hbw0 _ _
        have F10 : Flw o2 (w9.setCell ⟨bz, 8, none⟩ (.int .i64 (2000 + (i : Int)))) f pb wh mb t am bm k r 5 (i + 1) i i (.agg #[.int .i64 6, .int .u32 200, .int .u32 ad, .int .i64 8080]) gA gB l := F9.keep (fun b _ h4 => by
          have hne : b ≠ bz := fun e => by have := O5.out; rw [e] at h4; omega
          exact Below.heap_setCell _ _ _ _ hne)
        clear z8 zf8 C9 F9 hZ9
        generalize w9.setCell ⟨bz, 8, none⟩ (.int .i64 (2000 + (i : Int))) = w10 at hZ10 C10 F10 ⊢
        have x7 : ∀ V : Gr w10, V.1.cell? ⟨f, 7, none⟩ = some (.pointer (some ⟨t, 0, none⟩)) := fun V => ((V.has F10.head).cell 7).trans rfl
        have z0 : ∀ V : Gr w10, V.1.cell? ⟨bz, 0, none⟩ = some (.int .i64 6) := fun V => ((V.has hZ10).cell 0).trans rfl
        have z1 : ∀ V : Gr w10, V.1.cell? ⟨bz, 1, none⟩ = some (.int .u32 (cs : Int)) := fun V => ((V.has hZ10).cell 1).trans rfl
        have z2 : ∀ V : Gr w10, V.1.cell? ⟨bz, 2, none⟩ = some (.int .u32 (cd : Int)) := fun V => ((V.has hZ10).cell 2).trans rfl
        have z3 : ∀ V : Gr w10, V.1.cell? ⟨bz, 3, none⟩ = some (.int .i64 (cp : Int)) := fun V => ((V.has hZ10).cell 3).trans rfl
        have z4 : ∀ V : Gr w10, V.1.cell? ⟨bz, 4, none⟩ = some (.int .i64 (dp : Int)) := fun V => ((V.has hZ10).cell 4).trans rfl
        have z5 : ∀ V : Gr w10, V.1.cell? ⟨bz, 5, none⟩ = some (.int .i64 6) := fun V => ((V.has hZ10).cell 5).trans rfl
        have z6 : ∀ V : Gr w10, V.1.cell? ⟨bz, 6, none⟩ = some (.int .u32 200) := fun V => ((V.has hZ10).cell 6).trans rfl
        have z7 : ∀ V : Gr w10, V.1.cell? ⟨bz, 7, none⟩ = some (.int .u32 ad) := fun V => ((V.has hZ10).cell 7).trans rfl
        have z8 : ∀ V : Gr w10, V.1.cell? ⟨bz, 8, none⟩ = some (.int .i64 (2000 + (i : Int))) := fun V => ((V.has hZ10).cell 8).trans rfl
        have z9 : ∀ V : Gr w10, V.1.cell? ⟨bz, 9, none⟩ = some (.int .i64 8080) := fun V => ((V.has hZ10).cell 9).trans rfl
        have z10 : ∀ V : Gr w10, V.1.cell? ⟨bz, 10, none⟩ = some (.int .i64 sv) := fun V => ((V.has hZ10).cell 10).trans rfl
        have z11 : ∀ V : Gr w10, V.1.cell? ⟨bz, 11, none⟩ = some (.int .i64 bk) := fun V => ((V.has hZ10).cell 11).trans rfl
        have z12 : ∀ V : Gr w10, V.1.cell? ⟨bz, 12, none⟩ = some (.int .i64 1) := fun V => ((V.has hZ10).cell 12).trans rfl
        have z13 : ∀ V : Gr w10, V.1.cell? ⟨bz, 13, none⟩ = some (.bool false) := fun V => ((V.has hZ10).cell 13).trans rfl
        refine wp_region_grows_mid 9 (by kernel_rfl) (by kernel_rfl) ?_
        simp only [List.take_succ_cons, List.take_zero, List.drop_succ_cons, List.drop_zero]
        repeat (go_big_quiet_step (fail))
        refine wpQuiet_nil ?_
        intro V
        have hF11 := F10.below V.2
        have hZ11 := V.has hZ10
        have C11 := C10.trans (Chg.of_below V.2)
        clear x7 z0 z1 z2 z3 z4 z5 z6 z7 z8 z9 z10 z11 z12 z13 F10 hZ10 C10
        obtain ⟨w11, hw⟩ : ∃ W, W = V.1 := ⟨_, rfl⟩
        rw [← hw] at hF11 hZ11 C11 ⊢
        clear hw V
        have HT := Lib.hid (twput_c (fun b => o2 b = 4) t am bm r i gA gB l 6 (cs : Int) (cd : Int) (cp : Int) (dp : Int) 6 200 ad (2000 + (i : Int)) 8080 sv bk 1 false hkA hkB hnA hnB HQ.out (by omega) w11 hF11.tw)
        go_wp2_with fail
        refine HT.out.mono ?_
        clear HT
        rintro e w12 ⟨rfl, hT12, hC12⟩
        have F12 := hF11.tw' hC12 hT12
        have C12 : Chg (fun b => 1 ≤ o b ∧ o b ≤ 4) w w12 := C11.then hC12 (fun b hb e => by have := O2.out b hb; omega)
        have E12 := Lib.hid (E9.out.trans ((own_ext o2 w11.heap.size 4).mono (fun c e => by omega)) C11.size)
        have hZ12 : Has w12 bz 99 #[.int .i64 6, .int .u32 (cs : Int), .int .u32 (cd : Int), .int .i64 (cp : Int), .int .i64 (dp : Int), .int .i64 6, .int .u32 200, .int .u32 ad, .int .i64 (2000 + (i : Int)), .int .i64 8080, .int .i64 sv, .int .i64 bk, .int .i64 1, .bool false] := hZ11.chg hC12 (fun e => by have := O5.out; omega)
        have O3 : Hid (∀ b, b < w.heap.size → owner o2 w11.heap.size 4 b = o b) := fun b hb => (own_lt (Nat.lt_of_lt_of_le hb C11.size)).trans (O2.out b hb)
        obtain ⟨o3, ho3⟩ : ∃ O, O = owner o2 w11.heap.size 4 := ⟨_, rfl⟩
        rw [← ho3] at F12 E12 O3
        clear ho3 hT12 hC12 hF11 C11 hZ11 O2 O5 E9
        go_wp2_with fail
        repeat (go_big_quiet_step (fail))
        refine wpQuiet_nil ?_
        have z0 := (hZ12.cell 0).trans rfl
        have z1 := (hZ12.cell 1).trans rfl
        have z2 := (hZ12.cell 2).trans rfl
        have z3 := (hZ12.cell 3).trans rfl
        have z4 := (hZ12.cell 4).trans rfl
        have z5 := (hZ12.cell 5).trans rfl
        have z6 := (hZ12.cell 6).trans rfl
        have z7 := (hZ12.cell 7).trans rfl
        have z8 := (hZ12.cell 8).trans rfl
        have z9 := (hZ12.cell 9).trans rfl
        have z10 := (hZ12.cell 10).trans rfl
        have z11 := (hZ12.cell 11).trans rfl
        have z12 := (hZ12.cell 12).trans rfl
        have z13 := (hZ12.cell 13).trans rfl
        have HM := Lib.hid (farm5_c (fun b => o3 b = 3) f pb wh mb t r i (by omega) 6 (cs : Int) (cd : Int) (cp : Int) (dp : Int) 6 200 ad (2000 + (i : Int)) 8080 sv bk false w12 F12.head F12.whl)
        go_wp2_with fail
        refine HM.out.mono ?_
        clear HM z0 z1 z2 z3 z4 z5 z6 z7 z8 z9 z10 z11 z12 z13
        rintro e w13 ⟨rfl, hW13, hC13⟩
        have F13 := Lib.hid (F12.whl' hC13 hW13)
        have C13 : Hid (Chg (fun b => 1 ≤ o b ∧ o b ≤ 4) w w13) := C12.then hC13 (fun b hb e => by have := O3.out b hb; omega)
        have E13 := Lib.hid (E12.out.trans ((own_ext o3 w12.heap.size 3).mono (fun c e => by omega)) C12.size)
        have HIK := Lib.hid hik1
        clear hW13 hC13 F12 C12 hZ12 hik1
        go_wp2_with fail
        go_ret2
        exact ⟨_, E13.out, C13.out, .inr (.inr ⟨HQ.out, HIK.out, rfl, F13.out⟩)⟩
      · have F9 := Lib.hid (hF8.prt' hC9 hP9)
        have C9 : Hid (Chg (fun b => 1 ≤ o b ∧ o b ≤ 4) w w9) := (Chg.own hB8).then hC9 (fun b hb e => by have := HO2.out b hb; omega)
        have E9 := Lib.hid (E1.out.trans ((own_ext o1 w8.heap.size 2).mono (fun c e => by omega)) hB8.size)
        have HIK := Lib.hid hik1
        clear hC9 hP9 hZ8 hF8 hB8 hik1
        go_wp2_with fail
        repeat (go_big_quiet_step (fail))
        refine wpQuiet_nil ?_
        go_wp2_with fail
        go_ret2
        exact ⟨_, E9.out, C9.out, .inr (.inl ⟨HQ.out, HIK.out, rfl, F9.out⟩)⟩
end Go.Proofs.YtngdebpaheejlaaGreatDoor
