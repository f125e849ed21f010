/- The top's answers. -/
import Derived.Test.YtngdebpaheejlaaGreatDoorTQ
namespace Go.Proofs.YtngdebpaheejlaaGreatDoor
open Go.RowKit Go.Shelf
set_option linter.unusedSimpArgs false
set_option linter.unusedVariables false
set_option maxRecDepth 100000 in
set_option maxHeartbeats 6400000 in
theorem answers_c (w : World) (hT : CU.Tab w) : Calls Tryz.prog 4 #[] w fun e w' => e = .returned (.bool true) ∧ Below w.heap.size w w' := by
  have HB : Hid (Calls Tryz.prog 5 #[.int .i64 3, .int .i64 2] w fun e w' => ∃ wb, e = .returned (.tuple #[.pointer (some ⟨wb, 0, none⟩), .bool true]) ∧ Begun 3 2 5 wb w w') := begins_c 3 2 5 (.inl rfl) (by decide) (by decide) (by decide) (by decide) w hT
  obtain ⟨fx, hfx⟩ : ∃ x, x = bs fl := ⟨_, rfl⟩
  have HFr : Hid (∀ W, Calls Tryz.prog 8 #[.agg #[.int .u8 0, .int .u32 10, .int .u32 100, .int .u16 1, .int .u16 80, .int .u8 2, .int .u8 64, .string ⟨#[]⟩, .bool false, .int .u32 0, .int .u32 0]] W fun e w' => e = .returned (.string fx) ∧ Below W.heap.size W w') := fun W => by
    rw [hfx]
    exact frame_t 10 100 1 80 2 64 (by decide) (by decide) (by decide) (by decide) (by decide) (by decide) W
  have LX : Hid (fx.size = 40) := by
    show fx.size = 40
    rw [hfx, bs_size, fl_len]
  have HFX := Lib.hid hfx
  clear hfx
  go_enter Tryz.func4, Tryz.ntmps4
  go_wp2_with fail
  refine HB.out.mono ?_
  clear HB
  rintro e w1 ⟨wb, rfl, b, f, pb, wh, mh, t, am, bm, sv, sm, pm, hm, cn, cm, xb, tb, lb, o, oz, hS, b1⟩
  have HP : Hid (∀ W, GG w1 W → Calls Tryz.prog 7 #[.pointer (some ⟨b, 0, none⟩), .string fx] W fun e W' => ∃ (ad : Nat) (fy : ByteArray) (o' : Nat → Nat), fy.size = 40 ∧ e = .returned (.agg #[.int .i64 2, .int .u32 (ad : Int), .string fy, .int .i64 0]) ∧ Gs b f sv sm pm hm cn cm 3 2 wb xb (Tn 4) (F6 f pb wh mh t am bm 3 2 1) o' 1 w W' ∧ (∀ c, w1.heap.size ≤ c → c < W.heap.size → o' c = 31) ∧ Chg (fun c => c ≠ wb ∧ c < w1.heap.size) W W') := fun W g => by
    rw [HFX.out]
    refine (ts_in (xb := xb) (w0 := w) (o := o) (hi := 0) ⟨oz, hS.bal, hS.flw, hS.ow, hS.hw, b1⟩ (by decide) W g).mono ?_
    rintro e W' ⟨ad, l', o', h1, h2, h3, h4, h5⟩
    exact ⟨ad, bs l', o', by rw [bs_size, h1, fl_len], h2, h3, h4, h5⟩
  have hX := Has.new w1 #[.int .u8 0, .int .u32 10, .int .u32 100, .int .u16 1, .int .u16 80, .int .u8 2, .int .u8 64, .string ⟨#[]⟩, .bool false, .int .u32 0, .int .u32 0] 36
  have G12 : GG w1 (w1.alloc (.cells #[.int .u8 0, .int .u32 10, .int .u32 100, .int .u16 1, .int .u16 80, .int .u8 2, .int .u8 64, .string ⟨#[]⟩, .bool false, .int .u32 0, .int .u32 0] 36)) := (GG.refl w1).alloc _
  have hW := Has.below hS.hw G12
  have hbw := hS.hw.lt
  have n12 : w1.heap.size ≤ (w1.alloc (.cells #[.int .u8 0, .int .u32 10, .int .u32 100, .int .u16 1, .int .u16 80, .int .u8 2, .int .u8 64, .string ⟨#[]⟩, .bool false, .int .u32 0, .int .u32 0] 36)).heap.size := G12.size
  clear hS oz
  go_wp2_with fail
  obtain ⟨w2, hw⟩ : ∃ W, W = w1.alloc (.cells #[.int .u8 0, .int .u32 10, .int .u32 100, .int .u16 1, .int .u16 80, .int .u8 2, .int .u8 64, .string ⟨#[]⟩, .bool false, .int .u32 0, .int .u32 0] 36) := ⟨_, rfl⟩
  obtain ⟨mk, hmk⟩ : ∃ x, x = w1.heap.size := ⟨_, rfl⟩
  obtain ⟨n1, hn1⟩ : ∃ x, x = w1.heap.size := ⟨_, rfl⟩
  have hmn : Hid (n1 ≤ mk) := by show n1 ≤ mk; omega
  rw [← hw] at hX G12 hW n12 ⊢
  rw [← hmk] at hX ⊢
  rw [← hn1] at n12 HP hbw
  have N12 := Lib.hid n12
  have HBW := Lib.hid hbw
  clear hw hmk hn1 n12 hbw
  have KX : Hid (∀ W, Chg (fun c => c ≠ wb ∧ c < n1) w2 W → Has W wb 31 #[.pointer (some ⟨b, 0, none⟩), .pointer (some ⟨xb, 0, none⟩), .slice none 0 0, .slice none 0 0] ∧ Has W mk 36 #[.int .u8 0, .int .u32 10, .int .u32 100, .int .u16 1, .int .u16 80, .int .u8 2, .int .u8 64, .string ⟨#[]⟩, .bool false, .int .u32 0, .int .u32 0]) := fun W hC => ⟨hW.chg hC (fun q => q.1 rfl), hX.chg hC (fun q => absurd q.2 (by have := hmn.out; omega))⟩
  have KA : Hid (∀ W, Chg (fun c => c ≠ wb ∧ c < n1) w2 W → W.cell? ⟨wb, 0, none⟩ = some (.pointer (some ⟨b, 0, none⟩)) ∧ W.cell? ⟨mk, 0, none⟩ = some (.int .u8 0) ∧ W.cell? ⟨mk, 1, none⟩ = some (.int .u32 10) ∧ W.cell? ⟨mk, 2, none⟩ = some (.int .u32 100) ∧ W.cell? ⟨mk, 3, none⟩ = some (.int .u16 1) ∧ W.cell? ⟨mk, 4, none⟩ = some (.int .u16 80) ∧ W.cell? ⟨mk, 5, none⟩ = some (.int .u8 2) ∧ W.cell? ⟨mk, 6, none⟩ = some (.int .u8 64) ∧ W.cell? ⟨mk, 7, none⟩ = some (.string ⟨#[]⟩) ∧ W.cell? ⟨mk, 8, none⟩ = some (.bool false) ∧ W.cell? ⟨mk, 9, none⟩ = some (.int .u32 0) ∧ W.cell? ⟨mk, 10, none⟩ = some (.int .u32 0)) := fun W hC => by
    obtain ⟨h1, h2⟩ := KX.out W hC
    exact ⟨(h1.cell 0).trans rfl, (h2.cell 0).trans rfl, (h2.cell 1).trans rfl, (h2.cell 2).trans rfl, (h2.cell 3).trans rfl, (h2.cell 4).trans rfl, (h2.cell 5).trans rfl, (h2.cell 6).trans rfl, (h2.cell 7).trans rfl, (h2.cell 8).trans rfl, (h2.cell 9).trans rfl, (h2.cell 10).trans rfl⟩
  go_region_held3 (fun W => W.cell? ⟨wb, 0, none⟩ = some (.pointer (some ⟨b, 0, none⟩)) ∧ W.cell? ⟨mk, 0, none⟩ = some (.int .u8 0) ∧ W.cell? ⟨mk, 1, none⟩ = some (.int .u32 10) ∧ W.cell? ⟨mk, 2, none⟩ = some (.int .u32 100) ∧ W.cell? ⟨mk, 3, none⟩ = some (.int .u16 1) ∧ W.cell? ⟨mk, 4, none⟩ = some (.int .u16 80) ∧ W.cell? ⟨mk, 5, none⟩ = some (.int .u8 2) ∧ W.cell? ⟨mk, 6, none⟩ = some (.int .u8 64) ∧ W.cell? ⟨mk, 7, none⟩ = some (.string ⟨#[]⟩) ∧ W.cell? ⟨mk, 8, none⟩ = some (.bool false) ∧ W.cell? ⟨mk, 9, none⟩ = some (.int .u32 0) ∧ W.cell? ⟨mk, 10, none⟩ = some (.int .u32 0)) (first | exact KA.out _ (by repeat' (first | with_reducible exact Chg.refl _ _ | with_reducible refine Chg.alloc ?_ _ | with_reducible refine Chg.drew ?_ | with_reducible refine Chg.trans ?_ hCN | with_reducible refine Chg.trans ?_ (Chg.of_below bM) | refine Chg.setNew ?_ (by first | exact Nat.le_refl _ | exact hbM) _ _))) ((first | (go_at_call 8; refine (HFr.out _).mono ?_; rintro _ wM ⟨rfl, bM⟩; have hbM : w2.heap.size ≤ wM.heap.size := (show GG w2 wM from by repeat' (first | with_reducible exact GG.refl _ | with_reducible refine GG.alloc ?_ _ | with_reducible refine GG.drew ?_ | with_reducible refine GG.step ?_ bM)).size) | (go_at_call 7; refine (HP.out _ (by repeat' (first | with_reducible exact G12 | with_reducible refine GG.alloc ?_ _ | with_reducible refine GG.drew ?_ | with_reducible refine GG.step ?_ bM))).mono ?_; rintro _ wN ⟨ad, fy, o', LY, rfl, hG, h31, hCN⟩; (try ((first | (have YO := fed_new (wb := wb) (Z := #[.int .i64 0, .int .u32 0, .string ⟨#[]⟩, .int .i64 0]) (t := 38) (by first | exact N12.out | exact Nat.le_trans N12.out hbM) h31 hCN) | (have YO := fed_new2 (wb := wb) (Z := #[.int .i64 0, .int .u32 0, .string ⟨#[]⟩, .int .i64 0]) (t := 38) (by first | exact N12.out | exact Nat.le_trans N12.out hbM) bM h31 hCN) | (have YO := fed_new3 (wb := wb) (Z := #[.int .i64 0, .int .u32 0, .string ⟨#[]⟩, .int .i64 0]) (t := 38) (by first | exact N12.out | exact Nat.le_trans N12.out hbM) bM h31 hCN)); obtain ⟨Y8, O8⟩ := YO; have y80 := (Y8.cell 0).trans rfl; have yf0 := Y8.free 0; have y81 := (Y8.cell 1).trans rfl; have yf1 := Y8.free 1; have y82 := (Y8.cell 2).trans rfl; have yf2 := Y8.free 2; have y83 := (Y8.cell 3).trans rfl; have yf3 := Y8.free 3; have Y8 := Lib.hid Y8; have O8 := Lib.hid O8)))))
  all_goals
    have FIN : Hid (∀ o9 W, Gs b f sv sm pm hm cn cm 3 2 wb xb (Tn 4) (F6 f pb wh mh t am bm 3 2 1) o9 1 w W → Gs b f sv sm pm hm cn cm 3 2 wb xb (Tn 4) (F6 f pb wh mh t am bm 3 2 1) o9 1 w W) := fun _ _ h => h
    first
      | (have Z8 : Has (wN.alloc (.cells #[.int .i64 2, .int .u32 (ad : Int), .string fy, .int .i64 0] 38)) wN.heap.size 38 #[.int .i64 2, .int .u32 (ad : Int), .string fy, .int .i64 0] := Has.new _ _ _
         have M9 := (KX.out (wN.alloc (.cells #[.int .i64 2, .int .u32 (ad : Int), .string fy, .int .i64 0] 38)) (by repeat' (first | with_reducible exact Chg.refl _ _ | with_reducible refine Chg.alloc ?_ _ | with_reducible refine Chg.drew ?_ | with_reducible refine Chg.trans ?_ hCN | with_reducible refine Chg.trans ?_ (Chg.of_below bM) | refine Chg.setNew ?_ (by first | exact Nat.le_refl _ | exact hbM) _ _))).2
         have G9 := hG.grow kf6 (W' := wN.alloc (.cells #[.int .i64 2, .int .u32 (ad : Int), .string fy, .int .i64 0] 38)) ((GG.refl _).alloc _)
         obtain ⟨w3, hw3⟩ : ∃ x, x = wN.alloc (.cells #[.int .i64 2, .int .u32 (ad : Int), .string fy, .int .i64 0] 38) := ⟨_, rfl⟩
         rw [← hw3]
         rw [← hw3] at M9 Z8 G9
         obtain ⟨b8, hb8⟩ : ∃ x, x = wN.heap.size := ⟨_, rfl⟩
         rw [← hb8]
         rw [← hb8] at Z8
         clear hb8 hw3)
      | (have Z8 := Y8.out.fill (.int .i64 2) (.int .u32 (ad : Int)) (.string fy) (.int .i64 0)
         have G9 := hG.fill kf6 O8.out (by have := N12.out; have := HBW.out; have := hbM; omega) (.int .i64 2) (.int .u32 (ad : Int)) (.string fy) (.int .i64 0)
         clear y80 y81 y82 y83 yf0 yf1 yf2 yf3 O8 Y8
         first | (have Q8 : Has _ w2.heap.size 38 #[.int .i64 2, .int .u32 (ad : Int), .string fy, .int .i64 0] := Z8; clear Q8; have M9 := (KX.out ((((wN.setCell ⟨w2.heap.size, 0, none⟩ (.int .i64 2)).setCell ⟨w2.heap.size, 1, none⟩ (.int .u32 (ad : Int))).setCell ⟨w2.heap.size, 2, none⟩ (.string fy)).setCell ⟨w2.heap.size, 3, none⟩ (.int .i64 0)) (by repeat' (first | with_reducible exact Chg.refl _ _ | with_reducible refine Chg.alloc ?_ _ | with_reducible refine Chg.drew ?_ | with_reducible refine Chg.trans ?_ hCN | with_reducible refine Chg.trans ?_ (Chg.of_below bM) | refine Chg.setNew ?_ (by first | exact Nat.le_refl _ | exact hbM) _ _))).2; obtain ⟨b8, hb8⟩ : ∃ x, x = w2.heap.size := ⟨_, rfl⟩; rw [← hb8]; rw [← hb8] at Z8 G9 M9; clear hb8; obtain ⟨w3, hw3⟩ : ∃ x, x = (((wN.setCell ⟨b8, 0, none⟩ (.int .i64 2)).setCell ⟨b8, 1, none⟩ (.int .u32 (ad : Int))).setCell ⟨b8, 2, none⟩ (.string fy)).setCell ⟨b8, 3, none⟩ (.int .i64 0) := ⟨_, rfl⟩; rw [← hw3]; rw [← hw3] at Z8 G9 M9; clear hw3) | (have Q8 : Has _ wM.heap.size 38 #[.int .i64 2, .int .u32 (ad : Int), .string fy, .int .i64 0] := Z8; clear Q8; have M9 := (KX.out ((((wN.setCell ⟨wM.heap.size, 0, none⟩ (.int .i64 2)).setCell ⟨wM.heap.size, 1, none⟩ (.int .u32 (ad : Int))).setCell ⟨wM.heap.size, 2, none⟩ (.string fy)).setCell ⟨wM.heap.size, 3, none⟩ (.int .i64 0)) (by repeat' (first | with_reducible exact Chg.refl _ _ | with_reducible refine Chg.alloc ?_ _ | with_reducible refine Chg.drew ?_ | with_reducible refine Chg.trans ?_ hCN | with_reducible refine Chg.trans ?_ (Chg.of_below bM) | refine Chg.setNew ?_ (by first | exact Nat.le_refl _ | exact hbM) _ _))).2; obtain ⟨b8, hb8⟩ : ∃ x, x = wM.heap.size := ⟨_, rfl⟩; rw [← hb8]; rw [← hb8] at Z8 G9 M9; clear hb8; obtain ⟨w3, hw3⟩ : ∃ x, x = (((wN.setCell ⟨b8, 0, none⟩ (.int .i64 2)).setCell ⟨b8, 1, none⟩ (.int .u32 (ad : Int))).setCell ⟨b8, 2, none⟩ (.string fy)).setCell ⟨b8, 3, none⟩ (.int .i64 0) := ⟨_, rfl⟩; rw [← hw3]; rw [← hw3] at Z8 G9 M9; clear hw3))
    obtain ⟨o9, HG⟩ : ∃ o9, Hid (Gs b f sv sm pm hm cn cm 3 2 wb xb (Tn 4) (F6 f pb wh mh t am bm 3 2 1) o9 1 w w3) := ⟨_, G9⟩
    have ly := LY
    have lx := LX.out
    clear KA KX HP hG h31 hCN bM hbM G9 LY FIN hX hW
    have wc : ∀ V : Gr w3, V.1.cell? ⟨wb, 0, none⟩ = some (.pointer (some ⟨b, 0, none⟩)) := fun V => ((V.has HG.out.hw).cell 0).trans rfl
    have z0 : ∀ V : Gr w3, V.1.cell? ⟨b8, 0, none⟩ = some (.int .i64 2) := fun V => ((V.has Z8).cell 0).trans rfl
    have z1 : ∀ V : Gr w3, V.1.cell? ⟨b8, 1, none⟩ = some (.int .u32 (ad : Int)) := fun V => ((V.has Z8).cell 1).trans rfl
    have z2 : ∀ V : Gr w3, V.1.cell? ⟨b8, 2, none⟩ = some (.string fy) := fun V => ((V.has Z8).cell 2).trans rfl
    have z3 : ∀ V : Gr w3, V.1.cell? ⟨b8, 3, none⟩ = some (.int .i64 0) := fun V => ((V.has Z8).cell 3).trans rfl
    have m0 : ∀ V : Gr w3, V.1.cell? ⟨mk, 0, none⟩ = some (.int .u8 0) := fun V => ((V.has M9).cell 0).trans rfl
    have m1 : ∀ V : Gr w3, V.1.cell? ⟨mk, 1, none⟩ = some (.int .u32 10) := fun V => ((V.has M9).cell 1).trans rfl
    have m2 : ∀ V : Gr w3, V.1.cell? ⟨mk, 2, none⟩ = some (.int .u32 100) := fun V => ((V.has M9).cell 2).trans rfl
    have m3 : ∀ V : Gr w3, V.1.cell? ⟨mk, 3, none⟩ = some (.int .u16 1) := fun V => ((V.has M9).cell 3).trans rfl
    have m4 : ∀ V : Gr w3, V.1.cell? ⟨mk, 4, none⟩ = some (.int .u16 80) := fun V => ((V.has M9).cell 4).trans rfl
    have m5 : ∀ V : Gr w3, V.1.cell? ⟨mk, 5, none⟩ = some (.int .u8 2) := fun V => ((V.has M9).cell 5).trans rfl
    have m6 : ∀ V : Gr w3, V.1.cell? ⟨mk, 6, none⟩ = some (.int .u8 64) := fun V => ((V.has M9).cell 6).trans rfl
    have m7 : ∀ V : Gr w3, V.1.cell? ⟨mk, 7, none⟩ = some (.string ⟨#[]⟩) := fun V => ((V.has M9).cell 7).trans rfl
    have m8 : ∀ V : Gr w3, V.1.cell? ⟨mk, 8, none⟩ = some (.bool false) := fun V => ((V.has M9).cell 8).trans rfl
    have m9 : ∀ V : Gr w3, V.1.cell? ⟨mk, 9, none⟩ = some (.int .u32 0) := fun V => ((V.has M9).cell 9).trans rfl
    have m10 : ∀ V : Gr w3, V.1.cell? ⟨mk, 10, none⟩ = some (.int .u32 0) := fun V => ((V.has M9).cell 10).trans rfl
    have H9 : Hid (∀ V : Gr w3, Calls Tryz.prog 9 #[.pointer (some ⟨b, 0, none⟩)] V.1 fun e w' => e = .returned (.pointer (some ⟨f, 0, none⟩)) ∧ Below V.1.heap.size V.1 w') := fun V => (bflows_c (HG.out.bal.below V.2)).mono fun e w' ⟨a, q⟩ => ⟨a, q ▸ Below.refl _ _⟩
    have H10 : Hid (∀ V : Gr w3, Calls Tryz.prog 10 #[.pointer (some ⟨f, 0, none⟩)] V.1 fun e w' => e = .returned (.int .i64 1) ∧ Below V.1.heap.size V.1 w') := fun V => by
      obtain ⟨kv, gA, gB, l, hF⟩ := HG.out.flw
      exact (flen_c (hF.below V.2)).mono fun e w' ⟨a, q⟩ => ⟨a, q ▸ Below.refl _ _⟩
    go_wp2_with fail
    refine wp_region_grows (by kernel_rfl) (by kernel_rfl) ?_
    repeat (go_big_quiet_step (first | (go_at_call 8; with_reducible refine grows_call _ (HFr.out _)) | (go_at_call 9; with_reducible refine grows_call _ (H9.out _)) | (go_at_call 10; with_reducible refine grows_call _ (H10.out _))))
    refine wpQuiet_nil ?_
    rintro _ ⟨V, rfl⟩
    have FB : Hid (Below w.heap.size w V.1) := HG.out.bel.trans (Below.mono V.2 HG.out.bel.size)
    generalize V.1 = w4 at FB ⊢
    go_wp2_with fail
    go_ret
    exact ⟨rfl, FB.out⟩
end Go.Proofs.YtngdebpaheejlaaGreatDoor
