/- The walk of TopFills. -/
import Derived.Test.YtngdebpaheejlaaGreatDoorTA
namespace Go.Proofs.YtngdebpaheejlaaGreatDoor
open Go.RowKit Go.Shelf
set_option linter.unusedSimpArgs false
set_option linter.unusedVariables false
theorem wf8 {n : Int} (h : (Lit.int .u8 n).wf = true) : 0 ≤ n ∧ n ≤ 255 := by
  have hmin : IntKind.u8.min = 0 := rfl
  have hmax : IntKind.u8.max = 255 := rfl
  simp only [Lit.wf, Bool.and_eq_true, decide_eq_true_eq] at h
  omega
set_option maxRecDepth 100000 in
set_option maxHeartbeats 6400000 in
theorem topFills_c (a0 a1 a2 : Int) (h0 : 0 ≤ a0) (h0' : a0 ≤ 255) (h1 : 0 ≤ a1) (h1' : a1 ≤ 255) (h2 : 0 ≤ a2) (h2' : a2 ≤ 255) (w : World) (hT : CU.Tab w) (hz : 0 < w.heap.size) : Calls Tryz.prog 3 #[.int .u8 a0, .int .u8 a1, .int .u8 a2] w fun e w' => e = .returned (.bool true) ∧ Below w.heap.size w w' := by
  obtain ⟨q0, hq0⟩ : ∃ q : Nat, a0 % 40 = (q : Int) := ⟨(a0 % 40).toNat, by omega⟩
  obtain ⟨r, hr⟩ : ∃ r : Nat, r = 1 + q0 := ⟨_, rfl⟩
  have hqr : 1 + (q0 : Int) = (r : Int) := by omega
  have r1 : 1 ≤ r := by omega
  have r2 : r ≤ 40 := by omega
  obtain ⟨q1, hq1⟩ : ∃ q : Nat, a1 % 30 = (q : Int) := ⟨(a1 % 30).toNat, by omega⟩
  obtain ⟨k, hk⟩ : ∃ k : Nat, k = 1 + q1 := ⟨_, rfl⟩
  have hqk : 1 + (q1 : Int) = (k : Int) := by omega
  have k1 : 1 ≤ k := by omega
  have k2 : k ≤ 30 := by omega
  have q40 : q0 < 40 := by omega
  have q30 : q1 < 30 := by omega
  clear hr hk
  obtain ⟨mn, hmn⟩ : ∃ m : Nat, m = if k < r then k else r := ⟨_, rfl⟩
  have hmi : (if k < r then (k : Int) else (r : Int)) = (mn : Int) := by rw [hmn]; split <;> rfl
  have hmI : (if (k : Int) < (r : Int) then (k : Int) else (r : Int)) = (mn : Int) := by rw [← hmi]; simp
  have HM : Hid (1 ≤ mn ∧ mn ≤ r ∧ mn ≤ k ∧ (mn = r ∨ (mn = k ∧ k < r))) := by
    show _ ∧ _
    rw [hmn]
    split <;> omega
  have hm1 := HM.out.1
  have hm2 := HM.out.2.1
  have hm3 := HM.out.2.2.1
  clear hmn
  obtain ⟨p, hp⟩ : ∃ p : Nat, a2 % (mn : Int) = (p : Int) := ⟨(a2 % (mn : Int)).toNat, by have := Int.emod_nonneg a2 (show (mn : Int) ≠ 0 by omega); omega⟩
  have hpn : p < mn := by have := Int.emod_lt_of_pos a2 (show (0 : Int) < (mn : Int) by omega); omega
  obtain ⟨wn, hwn⟩ : ∃ m : Nat, m = 1 + p := ⟨_, rfl⟩
  have hpw : 1 + (p : Int) = (wn : Int) := by omega
  have hwm : wn ≤ mn := by omega
  have n0 : ¬ mn = 0 := by omega
  have nI : ¬ (mn : Int) = 0 := by omega
  clear hwn
  have HA := Lib.hid (answers_c w hT)
  have HTZ : Hid (CU.Tab w ∧ 0 < w.heap.size) := ⟨hT, hz⟩
  clear hT hz
  go_enter Tryz.func3, Tryz.ntmps3
  go_wp2_with fail
  refine HA.out.mono ?_
  clear HA
  rintro e w1 ⟨rfl, b1⟩
  have hT1 : CU.Tab w1 := Tab_keep HTZ.out.1 (Below.block b1 0 HTZ.out.2)
  have HB : Hid (Calls Tryz.prog 5 #[.int .i64 (r : Int), .int .i64 (k : Int)] w1 fun e w' => ∃ wb, e = .returned (.tuple #[.pointer (some ⟨wb, 0, none⟩), .bool true]) ∧ Begun r k 20 wb w1 w') := begins_c r k 20 (.inr rfl) r1 r2 k1 k2 w1 hT1
  have B1 := Lib.hid b1
  clear b1 hT1
  go_wp2_with fail
  refine HB.out.mono ?_
  clear HB
  rintro e w2 ⟨wb, rfl, b, f, pb, wh, mh, t, am, bm, sv, sm, pm, hm, cn, cm, xb, tb, lb, o, oz, hS, b2⟩
  have HD := Lib.hid (bdrain_c o b f sv sm pm hm cn cm r k 4 0 2 (Tn 4) (by decide) (by decide) (by decide) rfl w2 hS.bal)
  have wc := (hS.hw.cell 0).trans rfl
  have HS := Lib.hid hS
  have OZ := Lib.hid oz
  have B2 := Lib.hid b2
  clear hS oz b2
  go_wp2_with fail
  refine HD.out.mono ?_
  clear HD wc
  rintro e w3 ⟨o3, rfl, hE, hB3, hC⟩
  have hS3 := HS.out.stepB (by decide) hB3 hE.1 hC
  have z3 : ∀ c, c < w1.heap.size → o3 c = 0 := fun c hc => (hE.1 c (Nat.lt_of_lt_of_le hc B2.out.size)).trans (OZ.out c hc)
  have G3 : Hid (Gs b f sv sm pm hm cn cm r k wb xb T3 (F17 f pb wh mh t am bm r k (0)) o3 (0) w1 w3) := ⟨z3, hS3.bal, ⟨_, _, _, hS3.flw _, fun _ _ => rfl, rfl, fun _ _ _ _ => rfl⟩, hS3.ow, hS3.hw, B2.out.trans ⟨hC.os, hC.tape, hC.output, hC.size, fun c hc => hC.block c (Nat.lt_of_lt_of_le hc B2.out.size) (fun q => by have := OZ.out c hc; omega)⟩⟩
  clear hS3 z3 hE hB3 hC HS OZ B2 HTZ
  go_wp2_with fail
  rw [hp]
  go_loopw [13] (fun i wr => ∃ j : Nat, j ≤ wn ∧ i = .int .i64 (j : Int) ∧ Hid (∃ o, Gs b f sv sm pm hm cn cm r k wb xb T3 (F17 f pb wh mh t am bm r k (j)) o (j) w1 wr)) (fun i _ => wn - (intOf i).toNat)
  case atStart => exact ⟨0, by omega, by first | rfl | simp, o3, G3.out⟩
  case round =>
    obtain ⟨j, hj, rfl, HS⟩ := hrel
    obtain ⟨o, hG0⟩ := HS.out
    have HG := Lib.hid hG0
    clear HS hG0 G3
    by_cases q : j < wn
    · have qi : (j : Int) < (wn : Int) := by omega
      have HP : Hid (∀ W, GG wr W → Calls Tryz.prog 7 #[.pointer (some ⟨b, 0, none⟩), .string (bs (fu 10 j))] W fun e W' => ∃ (ad : Nat) (fy : ByteArray) (o' : Nat → Nat), e = .returned (.agg #[.int .i64 2, .int .u32 (ad : Int), .string fy, .int .i64 0]) ∧ Gs b f sv sm pm hm cn cm r k wb xb T3 (F17 f pb wh mh t am bm r k (j + 1)) o' (j + 1) w1 W' ∧ (∀ c, wr.heap.size ≤ c → c < W.heap.size → o' c = 31) ∧ Chg (fun c => c ≠ wb ∧ c < wr.heap.size) W W') := fun W g => (fs_in HG.out (by omega) k1 k2 r2 (by omega) (by omega) W g).mono fun e W' ⟨ad, l', o', h⟩ => ⟨ad, bs l', o', h⟩
      have HFr : Hid (∀ W, Calls Tryz.prog 8 #[.agg #[.int .u8 1, .int .u32 10, .int .u32 100, .int .u16 (j : Int), .int .u16 53, .int .u8 0, .int .u8 9, .string ⟨#[]⟩, .bool false, .int .u32 0, .int .u32 0]] W fun e w' => e = .returned (.string (bs (fu 10 j))) ∧ Below W.heap.size W w') := fun W => frame_u 10 100 j 53 9 (by decide) (by decide) (by omega) (by decide) (by decide) W
      obtain ⟨fx, hfx⟩ : ∃ x, x = bs (fu 10 j) := ⟨_, rfl⟩
      rw [← hfx] at HP HFr
      clear hfx
      have hX := Has.new wr #[.int .u8 1, .int .u32 10, .int .u32 100, .int .u16 (j : Int), .int .u16 53, .int .u8 0, .int .u8 9, .string ⟨#[]⟩, .bool false, .int .u32 0, .int .u32 0] 36
      have G12 : GG wr (wr.alloc (.cells #[.int .u8 1, .int .u32 10, .int .u32 100, .int .u16 (j : Int), .int .u16 53, .int .u8 0, .int .u8 9, .string ⟨#[]⟩, .bool false, .int .u32 0, .int .u32 0] 36)) := (GG.refl wr).alloc _
      have hW := Has.below HG.out.hw G12
      have hbw := HG.out.hw.lt
      have n12 : wr.heap.size ≤ (wr.alloc (.cells #[.int .u8 1, .int .u32 10, .int .u32 100, .int .u16 (j : Int), .int .u16 53, .int .u8 0, .int .u8 9, .string ⟨#[]⟩, .bool false, .int .u32 0, .int .u32 0] 36)).heap.size := G12.size
      go_wp2_with fail
      obtain ⟨w2, hw⟩ : ∃ W, W = wr.alloc (.cells #[.int .u8 1, .int .u32 10, .int .u32 100, .int .u16 (j : Int), .int .u16 53, .int .u8 0, .int .u8 9, .string ⟨#[]⟩, .bool false, .int .u32 0, .int .u32 0] 36) := ⟨_, rfl⟩
      obtain ⟨mk, hmk⟩ : ∃ x, x = wr.heap.size := ⟨_, rfl⟩
      obtain ⟨n1, hn1⟩ : ∃ x, x = wr.heap.size := ⟨_, rfl⟩
      have hmn : Hid (n1 ≤ mk) := by show n1 ≤ mk; omega
      rw [← hw] at hX G12 hW n12 ⊢
      rw [← hmk] at hX ⊢
      rw [← hn1] at n12 HP hbw
      have N12 := Lib.hid n12
      have HBW := Lib.hid hbw
      clear hw hmk hn1 n12 hbw
      have KX : Hid (∀ W, Chg (fun c => c ≠ wb ∧ c < n1) w2 W → Has W wb 31 #[.pointer (some ⟨b, 0, none⟩), .pointer (some ⟨xb, 0, none⟩), .slice none 0 0, .slice none 0 0] ∧ Has W mk 36 #[.int .u8 1, .int .u32 10, .int .u32 100, .int .u16 (j : Int), .int .u16 53, .int .u8 0, .int .u8 9, .string ⟨#[]⟩, .bool false, .int .u32 0, .int .u32 0]) := fun W hC => ⟨hW.chg hC (fun q => q.1 rfl), hX.chg hC (fun q => absurd q.2 (by have := hmn.out; omega))⟩
      have KA : Hid (∀ W, Chg (fun c => c ≠ wb ∧ c < n1) w2 W → W.cell? ⟨wb, 0, none⟩ = some (.pointer (some ⟨b, 0, none⟩)) ∧ W.cell? ⟨mk, 0, none⟩ = some (.int .u8 1) ∧ W.cell? ⟨mk, 1, none⟩ = some (.int .u32 10) ∧ W.cell? ⟨mk, 2, none⟩ = some (.int .u32 100) ∧ W.cell? ⟨mk, 3, none⟩ = some (.int .u16 (j : Int)) ∧ W.cell? ⟨mk, 4, none⟩ = some (.int .u16 53) ∧ W.cell? ⟨mk, 5, none⟩ = some (.int .u8 0) ∧ W.cell? ⟨mk, 6, none⟩ = some (.int .u8 9) ∧ W.cell? ⟨mk, 7, none⟩ = some (.string ⟨#[]⟩) ∧ W.cell? ⟨mk, 8, none⟩ = some (.bool false) ∧ W.cell? ⟨mk, 9, none⟩ = some (.int .u32 0) ∧ W.cell? ⟨mk, 10, none⟩ = some (.int .u32 0)) := fun W hC => by
        obtain ⟨h1, h2⟩ := KX.out W hC
        exact ⟨(h1.cell 0).trans rfl, (h2.cell 0).trans rfl, (h2.cell 1).trans rfl, (h2.cell 2).trans rfl, (h2.cell 3).trans rfl, (h2.cell 4).trans rfl, (h2.cell 5).trans rfl, (h2.cell 6).trans rfl, (h2.cell 7).trans rfl, (h2.cell 8).trans rfl, (h2.cell 9).trans rfl, (h2.cell 10).trans rfl⟩
      go_region_held3 (fun W => W.cell? ⟨wb, 0, none⟩ = some (.pointer (some ⟨b, 0, none⟩)) ∧ W.cell? ⟨mk, 0, none⟩ = some (.int .u8 1) ∧ W.cell? ⟨mk, 1, none⟩ = some (.int .u32 10) ∧ W.cell? ⟨mk, 2, none⟩ = some (.int .u32 100) ∧ W.cell? ⟨mk, 3, none⟩ = some (.int .u16 (j : Int)) ∧ W.cell? ⟨mk, 4, none⟩ = some (.int .u16 53) ∧ W.cell? ⟨mk, 5, none⟩ = some (.int .u8 0) ∧ W.cell? ⟨mk, 6, none⟩ = some (.int .u8 9) ∧ W.cell? ⟨mk, 7, none⟩ = some (.string ⟨#[]⟩) ∧ W.cell? ⟨mk, 8, none⟩ = some (.bool false) ∧ W.cell? ⟨mk, 9, none⟩ = some (.int .u32 0) ∧ W.cell? ⟨mk, 10, none⟩ = some (.int .u32 0)) (first | exact KA.out _ (by repeat' (first | with_reducible exact Chg.refl _ _ | with_reducible refine Chg.alloc ?_ _ | with_reducible refine Chg.drew ?_ | with_reducible refine Chg.trans ?_ hCN | with_reducible refine Chg.trans ?_ (Chg.of_below bM) | refine Chg.setNew ?_ (by first | exact Nat.le_refl _ | exact hbM) _ _))) ((first | (go_at_call 8; refine (HFr.out _).mono ?_; rintro _ wM ⟨rfl, bM⟩; have hbM : w2.heap.size ≤ wM.heap.size := (show GG w2 wM from by repeat' (first | with_reducible exact GG.refl _ | with_reducible refine GG.alloc ?_ _ | with_reducible refine GG.drew ?_ | with_reducible refine GG.step ?_ bM)).size) | (go_at_call 7; refine (HP.out _ (by repeat' (first | with_reducible exact G12 | with_reducible refine GG.alloc ?_ _ | with_reducible refine GG.drew ?_ | with_reducible refine GG.step ?_ bM))).mono ?_; rintro _ wN ⟨ad, fy, o', rfl, hG, h31, hCN⟩; (try ((first | (have YO := fed_new (wb := wb) (Z := #[.int .i64 0, .int .u32 0, .string ⟨#[]⟩, .int .i64 0]) (t := 38) (by first | exact N12.out | exact Nat.le_trans N12.out hbM) h31 hCN) | (have YO := fed_new2 (wb := wb) (Z := #[.int .i64 0, .int .u32 0, .string ⟨#[]⟩, .int .i64 0]) (t := 38) (by first | exact N12.out | exact Nat.le_trans N12.out hbM) bM h31 hCN) | (have YO := fed_new3 (wb := wb) (Z := #[.int .i64 0, .int .u32 0, .string ⟨#[]⟩, .int .i64 0]) (t := 38) (by first | exact N12.out | exact Nat.le_trans N12.out hbM) bM h31 hCN)); obtain ⟨Y8, O8⟩ := YO; have y80 := (Y8.cell 0).trans rfl; have yf0 := Y8.free 0; have y81 := (Y8.cell 1).trans rfl; have yf1 := Y8.free 1; have y82 := (Y8.cell 2).trans rfl; have yf2 := Y8.free 2; have y83 := (Y8.cell 3).trans rfl; have yf3 := Y8.free 3; have Y8 := Lib.hid Y8; have O8 := Lib.hid O8)))))
      all_goals
        first
          | (have Z8 : Has (wN.alloc (.cells #[.int .i64 2, .int .u32 (ad : Int), .string fy, .int .i64 0] 38)) wN.heap.size 38 #[.int .i64 2, .int .u32 (ad : Int), .string fy, .int .i64 0] := Has.new _ _ _
             have G9 := hG.grow kf17 (W' := wN.alloc (.cells #[.int .i64 2, .int .u32 (ad : Int), .string fy, .int .i64 0] 38)) ((GG.refl _).alloc _)
             obtain ⟨w3, hw3⟩ : ∃ x, x = wN.alloc (.cells #[.int .i64 2, .int .u32 (ad : Int), .string fy, .int .i64 0] 38) := ⟨_, rfl⟩
             rw [← hw3]
             rw [← hw3] at Z8 G9
             obtain ⟨b8, hb8⟩ : ∃ x, x = wN.heap.size := ⟨_, rfl⟩
             rw [← hb8]
             rw [← hb8] at Z8
             clear hb8 hw3)
          | (have Z8 := Y8.out.fill (.int .i64 2) (.int .u32 (ad : Int)) (.string fy) (.int .i64 0)
             have G9 := hG.fill kf17 O8.out (by have := N12.out; have := HBW.out; have := hbM; omega) (.int .i64 2) (.int .u32 (ad : Int)) (.string fy) (.int .i64 0)
             clear y80 y81 y82 y83 yf0 yf1 yf2 yf3 O8 Y8
             first | (have Q8 : Has _ w2.heap.size 38 #[.int .i64 2, .int .u32 (ad : Int), .string fy, .int .i64 0] := Z8; clear Q8; obtain ⟨b8, hb8⟩ : ∃ x, x = w2.heap.size := ⟨_, rfl⟩; rw [← hb8]; rw [← hb8] at Z8 G9; clear hb8; obtain ⟨w3, hw3⟩ : ∃ x, x = (((wN.setCell ⟨b8, 0, none⟩ (.int .i64 2)).setCell ⟨b8, 1, none⟩ (.int .u32 (ad : Int))).setCell ⟨b8, 2, none⟩ (.string fy)).setCell ⟨b8, 3, none⟩ (.int .i64 0) := ⟨_, rfl⟩; rw [← hw3]; rw [← hw3] at Z8 G9; clear hw3) | (have Q8 : Has _ wM.heap.size 38 #[.int .i64 2, .int .u32 (ad : Int), .string fy, .int .i64 0] := Z8; clear Q8; obtain ⟨b8, hb8⟩ : ∃ x, x = wM.heap.size := ⟨_, rfl⟩; rw [← hb8]; rw [← hb8] at Z8 G9; clear hb8; obtain ⟨w3, hw3⟩ : ∃ x, x = (((wN.setCell ⟨b8, 0, none⟩ (.int .i64 2)).setCell ⟨b8, 1, none⟩ (.int .u32 (ad : Int))).setCell ⟨b8, 2, none⟩ (.string fy)).setCell ⟨b8, 3, none⟩ (.int .i64 0) := ⟨_, rfl⟩; rw [← hw3]; rw [← hw3] at Z8 G9; clear hw3))
        obtain ⟨o9, HG9⟩ : ∃ o9, Hid (Gs b f sv sm pm hm cn cm r k wb xb T3 (F17 f pb wh mh t am bm r k (j + 1)) o9 (j + 1) w1 w3) := ⟨_, G9⟩
        clear KA KX HP hG h31 hCN bM hbM G9 hX hW HFr G12 N12 HBW hmn
        have wc := (HG9.out.hw.cell 0).trans rfl
        have z3 := (Z8.cell 3).trans rfl
        have H9 : Hid (Calls Tryz.prog 9 #[.pointer (some ⟨b, 0, none⟩)] w3 fun e w' => e = .returned (.pointer (some ⟨f, 0, none⟩)) ∧ w' = w3) := bflows_c HG9.out.bal
        have H10 : Hid (Calls Tryz.prog 10 #[.pointer (some ⟨f, 0, none⟩)] w3 fun e w' => e = .returned (.int .i64 ((j : Int) + 1)) ∧ w' = w3) := by
          obtain ⟨gA, gB, l, hF, _⟩ := HG9.out.flw
          exact flen_c hF
        go_wp2_with fail
        refine H9.out.mono ?_
        rintro e w4 ⟨rfl, rfl⟩
        go_wp2_with fail
        refine H10.out.mono ?_
        rintro e w4 ⟨rfl, rfl⟩
        clear H9 H10 wc z3
        go_wp2_with fail
        go_roundw
        case rel => exact ⟨j + 1, by omega, by first | rfl | simp, o9, HG9.out⟩
        case measure => simp [intOf]; omega
    · have qi : ¬ (j : Int) < (wn : Int) := by omega
      obtain rfl : j = wn := by omega
      have G4 := HG
      clear HG
      go_wp2_with fail
      go_loopw [16] (fun i wr => ∃ j2 : Nat, j2 ≤ mn ∧ i = .int .i64 (j2 : Int) ∧ Hid (∃ o, Gs b f sv sm pm hm cn cm r k wb xb T3 (F17 f pb wh mh t am bm r k (j2)) o (j2) w1 wr)) (fun i _ => mn - (intOf i).toNat)
      case atStart => exact ⟨j, by omega, by first | rfl | simp, o, G4.out⟩
      case round =>
        obtain ⟨j2, hj2, rfl, HS⟩ := hrel
        obtain ⟨o, hG0⟩ := HS.out
        have HG := Lib.hid hG0
        clear HS hG0 G4
        by_cases q2 : j2 < mn
        · have qi2 : (j2 : Int) < (mn : Int) := by omega
          have HP : Hid (∀ W, GG wr W → Calls Tryz.prog 7 #[.pointer (some ⟨b, 0, none⟩), .string (bs (fu 10 j2))] W fun e W' => ∃ (ad : Nat) (fy : ByteArray) (o' : Nat → Nat), e = .returned (.agg #[.int .i64 2, .int .u32 (ad : Int), .string fy, .int .i64 0]) ∧ Gs b f sv sm pm hm cn cm r k wb xb T3 (F17 f pb wh mh t am bm r k (j2 + 1)) o' (j2 + 1) w1 W' ∧ (∀ c, wr.heap.size ≤ c → c < W.heap.size → o' c = 31) ∧ Chg (fun c => c ≠ wb ∧ c < wr.heap.size) W W') := fun W g => (fs_in HG.out (by omega) k1 k2 r2 (by omega) (by omega) W g).mono fun e W' ⟨ad, l', o', h⟩ => ⟨ad, bs l', o', h⟩
          have HFr : Hid (∀ W, Calls Tryz.prog 8 #[.agg #[.int .u8 1, .int .u32 10, .int .u32 100, .int .u16 (j2 : Int), .int .u16 53, .int .u8 0, .int .u8 9, .string ⟨#[]⟩, .bool false, .int .u32 0, .int .u32 0]] W fun e w' => e = .returned (.string (bs (fu 10 j2))) ∧ Below W.heap.size W w') := fun W => frame_u 10 100 j2 53 9 (by decide) (by decide) (by omega) (by decide) (by decide) W
          obtain ⟨fx, hfx⟩ : ∃ x, x = bs (fu 10 j2) := ⟨_, rfl⟩
          rw [← hfx] at HP HFr
          clear hfx
          have hX := Has.new wr #[.int .u8 1, .int .u32 10, .int .u32 100, .int .u16 (j2 : Int), .int .u16 53, .int .u8 0, .int .u8 9, .string ⟨#[]⟩, .bool false, .int .u32 0, .int .u32 0] 36
          have G12 : GG wr (wr.alloc (.cells #[.int .u8 1, .int .u32 10, .int .u32 100, .int .u16 (j2 : Int), .int .u16 53, .int .u8 0, .int .u8 9, .string ⟨#[]⟩, .bool false, .int .u32 0, .int .u32 0] 36)) := (GG.refl wr).alloc _
          have hW := Has.below HG.out.hw G12
          have hbw := HG.out.hw.lt
          have n12 : wr.heap.size ≤ (wr.alloc (.cells #[.int .u8 1, .int .u32 10, .int .u32 100, .int .u16 (j2 : Int), .int .u16 53, .int .u8 0, .int .u8 9, .string ⟨#[]⟩, .bool false, .int .u32 0, .int .u32 0] 36)).heap.size := G12.size
          go_wp2_with fail
          obtain ⟨w2, hw⟩ : ∃ W, W = wr.alloc (.cells #[.int .u8 1, .int .u32 10, .int .u32 100, .int .u16 (j2 : Int), .int .u16 53, .int .u8 0, .int .u8 9, .string ⟨#[]⟩, .bool false, .int .u32 0, .int .u32 0] 36) := ⟨_, rfl⟩
          obtain ⟨mk, hmk⟩ : ∃ x, x = wr.heap.size := ⟨_, rfl⟩
          obtain ⟨n1, hn1⟩ : ∃ x, x = wr.heap.size := ⟨_, rfl⟩
          have hmn : Hid (n1 ≤ mk) := by show n1 ≤ mk; omega
          rw [← hw] at hX G12 hW n12 ⊢
          rw [← hmk] at hX ⊢
          rw [← hn1] at n12 HP hbw
          have N12 := Lib.hid n12
          have HBW := Lib.hid hbw
          clear hw hmk hn1 n12 hbw
          have wc : ∀ V : Gr w2, V.1.cell? ⟨wb, 0, none⟩ = some (.pointer (some ⟨b, 0, none⟩)) := fun V => ((V.has hW).cell 0).trans rfl
          have m0 : ∀ V : Gr w2, V.1.cell? ⟨mk, 0, none⟩ = some (.int .u8 1) := fun V => ((V.has hX).cell 0).trans rfl
          have m1 : ∀ V : Gr w2, V.1.cell? ⟨mk, 1, none⟩ = some (.int .u32 10) := fun V => ((V.has hX).cell 1).trans rfl
          have m2 : ∀ V : Gr w2, V.1.cell? ⟨mk, 2, none⟩ = some (.int .u32 100) := fun V => ((V.has hX).cell 2).trans rfl
          have m3 : ∀ V : Gr w2, V.1.cell? ⟨mk, 3, none⟩ = some (.int .u16 (j2 : Int)) := fun V => ((V.has hX).cell 3).trans rfl
          have m4 : ∀ V : Gr w2, V.1.cell? ⟨mk, 4, none⟩ = some (.int .u16 53) := fun V => ((V.has hX).cell 4).trans rfl
          have m5 : ∀ V : Gr w2, V.1.cell? ⟨mk, 5, none⟩ = some (.int .u8 0) := fun V => ((V.has hX).cell 5).trans rfl
          have m6 : ∀ V : Gr w2, V.1.cell? ⟨mk, 6, none⟩ = some (.int .u8 9) := fun V => ((V.has hX).cell 6).trans rfl
          have m7 : ∀ V : Gr w2, V.1.cell? ⟨mk, 7, none⟩ = some (.string ⟨#[]⟩) := fun V => ((V.has hX).cell 7).trans rfl
          have m8 : ∀ V : Gr w2, V.1.cell? ⟨mk, 8, none⟩ = some (.bool false) := fun V => ((V.has hX).cell 8).trans rfl
          have m9 : ∀ V : Gr w2, V.1.cell? ⟨mk, 9, none⟩ = some (.int .u32 0) := fun V => ((V.has hX).cell 9).trans rfl
          have m10 : ∀ V : Gr w2, V.1.cell? ⟨mk, 10, none⟩ = some (.int .u32 0) := fun V => ((V.has hX).cell 10).trans rfl
          refine wp_region_grows_tail 6 (by kernel_rfl) (by kernel_rfl) ?_
          simp only [List.take_succ_cons, List.take_zero, List.drop_succ_cons, List.drop_zero]
          repeat (go_big_quiet_step (first | (go_at_call 8; with_reducible refine grows_call _ (HFr.out _))))
          refine wpQuiet_nil ?_
          rintro _ ⟨V, rfl⟩
          have HP2 := Lib.hid (HP.out V.1 (G12.step V.2))
          generalize V.1 = w3 at HP2 ⊢
          clear wc m0 m1 m2 m3 m4 m5 m6 m7 m8 m9 m10 HP HFr hX hW G12 N12 HBW hmn V
          go_wp2_with fail
          refine HP2.out.mono ?_
          clear HP2
          rintro e w4 ⟨ad, fy, o4, rfl, hG4, _, _⟩
          have HG4 := Lib.hid hG4
          clear hG4
          go_wp2_with fail
          go_roundw
          case rel => exact ⟨j2 + 1, by omega, by first | rfl | simp, o4, HG4.out⟩
          case measure => simp [intOf]; omega
        · have qi2 : ¬ (j2 : Int) < (mn : Int) := by omega
          obtain rfl : j2 = mn := by omega
          obtain ⟨cd, hcd⟩ : ∃ cd : Int, Hid ((r ≤ k ∧ j2 = r ∧ cd = 16) ∨ (k < r ∧ j2 = k ∧ cd = 17)) := by
            have := HM.out
            rcases Nat.lt_or_ge k r with q3 | q3
            · exact ⟨17, .inr ⟨q3, by omega, rfl⟩⟩
            · exact ⟨16, .inl ⟨q3, by omega, rfl⟩⟩
          have HP : Hid (∀ W, GG wr W → Calls Tryz.prog 7 #[.pointer (some ⟨b, 0, none⟩), .string (bs (fu 11 1))] W fun e W' => ∃ (o' : Nat → Nat), e = .returned (.agg #[.int .i64 0, .int .u32 0, .string ⟨#[]⟩, .int .i64 cd]) ∧ Gs b f sv sm pm hm cn cm r k wb xb T3 (F17 f pb wh mh t am bm r k (j2)) o' (j2 + 1) w1 W' ∧ (∀ c, wr.heap.size ≤ c → c < W.heap.size → o' c = 31) ∧ Chg (fun c => c ≠ wb ∧ c < wr.heap.size) W W') := fun W g => fs_out HG.out (by omega) k1 k2 r2 (by omega) (by omega) cd (by have := hcd.out; omega) W g
          have HFr : Hid (∀ W, Calls Tryz.prog 8 #[.agg #[.int .u8 1, .int .u32 11, .int .u32 100, .int .u16 1, .int .u16 53, .int .u8 0, .int .u8 9, .string ⟨#[]⟩, .bool false, .int .u32 0, .int .u32 0]] W fun e w' => e = .returned (.string (bs (fu 11 1))) ∧ Below W.heap.size W w') := fun W => frame_u 11 100 1 53 9 (by decide) (by decide) (by decide) (by decide) (by decide) W
          obtain ⟨fx, hfx⟩ : ∃ x, x = bs (fu 11 1) := ⟨_, rfl⟩
          rw [← hfx] at HP HFr
          clear hfx
          have hX := Has.new wr #[.int .u8 1, .int .u32 11, .int .u32 100, .int .u16 1, .int .u16 53, .int .u8 0, .int .u8 9, .string ⟨#[]⟩, .bool false, .int .u32 0, .int .u32 0] 36
          have G12 : GG wr (wr.alloc (.cells #[.int .u8 1, .int .u32 11, .int .u32 100, .int .u16 1, .int .u16 53, .int .u8 0, .int .u8 9, .string ⟨#[]⟩, .bool false, .int .u32 0, .int .u32 0] 36)) := (GG.refl wr).alloc _
          have hW := Has.below HG.out.hw G12
          have hbw := HG.out.hw.lt
          have n12 : wr.heap.size ≤ (wr.alloc (.cells #[.int .u8 1, .int .u32 11, .int .u32 100, .int .u16 1, .int .u16 53, .int .u8 0, .int .u8 9, .string ⟨#[]⟩, .bool false, .int .u32 0, .int .u32 0] 36)).heap.size := G12.size
          go_wp2_with fail
          obtain ⟨w2, hw⟩ : ∃ W, W = wr.alloc (.cells #[.int .u8 1, .int .u32 11, .int .u32 100, .int .u16 1, .int .u16 53, .int .u8 0, .int .u8 9, .string ⟨#[]⟩, .bool false, .int .u32 0, .int .u32 0] 36) := ⟨_, rfl⟩
          obtain ⟨mk, hmk⟩ : ∃ x, x = wr.heap.size := ⟨_, rfl⟩
          obtain ⟨n1, hn1⟩ : ∃ x, x = wr.heap.size := ⟨_, rfl⟩
          have hmn : Hid (n1 ≤ mk) := by show n1 ≤ mk; omega
          rw [← hw] at hX G12 hW n12 ⊢
          rw [← hmk] at hX ⊢
          rw [← hn1] at n12 HP hbw
          have N12 := Lib.hid n12
          have HBW := Lib.hid hbw
          clear hw hmk hn1 n12 hbw
          have KX : Hid (∀ W, Chg (fun c => c ≠ wb ∧ c < n1) w2 W → Has W wb 31 #[.pointer (some ⟨b, 0, none⟩), .pointer (some ⟨xb, 0, none⟩), .slice none 0 0, .slice none 0 0] ∧ Has W mk 36 #[.int .u8 1, .int .u32 11, .int .u32 100, .int .u16 1, .int .u16 53, .int .u8 0, .int .u8 9, .string ⟨#[]⟩, .bool false, .int .u32 0, .int .u32 0]) := fun W hC => ⟨hW.chg hC (fun q => q.1 rfl), hX.chg hC (fun q => absurd q.2 (by have := hmn.out; omega))⟩
          have KA : Hid (∀ W, Chg (fun c => c ≠ wb ∧ c < n1) w2 W → W.cell? ⟨wb, 0, none⟩ = some (.pointer (some ⟨b, 0, none⟩)) ∧ W.cell? ⟨mk, 0, none⟩ = some (.int .u8 1) ∧ W.cell? ⟨mk, 1, none⟩ = some (.int .u32 11) ∧ W.cell? ⟨mk, 2, none⟩ = some (.int .u32 100) ∧ W.cell? ⟨mk, 3, none⟩ = some (.int .u16 1) ∧ W.cell? ⟨mk, 4, none⟩ = some (.int .u16 53) ∧ W.cell? ⟨mk, 5, none⟩ = some (.int .u8 0) ∧ W.cell? ⟨mk, 6, none⟩ = some (.int .u8 9) ∧ W.cell? ⟨mk, 7, none⟩ = some (.string ⟨#[]⟩) ∧ W.cell? ⟨mk, 8, none⟩ = some (.bool false) ∧ W.cell? ⟨mk, 9, none⟩ = some (.int .u32 0) ∧ W.cell? ⟨mk, 10, none⟩ = some (.int .u32 0)) := fun W hC => by
            obtain ⟨h1, h2⟩ := KX.out W hC
            exact ⟨(h1.cell 0).trans rfl, (h2.cell 0).trans rfl, (h2.cell 1).trans rfl, (h2.cell 2).trans rfl, (h2.cell 3).trans rfl, (h2.cell 4).trans rfl, (h2.cell 5).trans rfl, (h2.cell 6).trans rfl, (h2.cell 7).trans rfl, (h2.cell 8).trans rfl, (h2.cell 9).trans rfl, (h2.cell 10).trans rfl⟩
          go_region_held3 (fun W => W.cell? ⟨wb, 0, none⟩ = some (.pointer (some ⟨b, 0, none⟩)) ∧ W.cell? ⟨mk, 0, none⟩ = some (.int .u8 1) ∧ W.cell? ⟨mk, 1, none⟩ = some (.int .u32 11) ∧ W.cell? ⟨mk, 2, none⟩ = some (.int .u32 100) ∧ W.cell? ⟨mk, 3, none⟩ = some (.int .u16 1) ∧ W.cell? ⟨mk, 4, none⟩ = some (.int .u16 53) ∧ W.cell? ⟨mk, 5, none⟩ = some (.int .u8 0) ∧ W.cell? ⟨mk, 6, none⟩ = some (.int .u8 9) ∧ W.cell? ⟨mk, 7, none⟩ = some (.string ⟨#[]⟩) ∧ W.cell? ⟨mk, 8, none⟩ = some (.bool false) ∧ W.cell? ⟨mk, 9, none⟩ = some (.int .u32 0) ∧ W.cell? ⟨mk, 10, none⟩ = some (.int .u32 0)) (first | exact KA.out _ (by repeat' (first | with_reducible exact Chg.refl _ _ | with_reducible refine Chg.alloc ?_ _ | with_reducible refine Chg.drew ?_ | with_reducible refine Chg.trans ?_ hCN | with_reducible refine Chg.trans ?_ (Chg.of_below bM) | refine Chg.setNew ?_ (by first | exact Nat.le_refl _ | exact hbM) _ _))) ((first | (go_at_call 8; refine (HFr.out _).mono ?_; rintro _ wM ⟨rfl, bM⟩; have hbM : w2.heap.size ≤ wM.heap.size := (show GG w2 wM from by repeat' (first | with_reducible exact GG.refl _ | with_reducible refine GG.alloc ?_ _ | with_reducible refine GG.drew ?_ | with_reducible refine GG.step ?_ bM)).size) | (go_at_call 7; refine (HP.out _ (by repeat' (first | with_reducible exact G12 | with_reducible refine GG.alloc ?_ _ | with_reducible refine GG.drew ?_ | with_reducible refine GG.step ?_ bM))).mono ?_; rintro _ wN ⟨o', rfl, hG, h31, hCN⟩; (try ((first | (have YO := fed_new (wb := wb) (Z := #[.int .i64 0, .int .u32 0, .string ⟨#[]⟩, .int .i64 0]) (t := 38) (by first | exact N12.out | exact Nat.le_trans N12.out hbM) h31 hCN) | (have YO := fed_new2 (wb := wb) (Z := #[.int .i64 0, .int .u32 0, .string ⟨#[]⟩, .int .i64 0]) (t := 38) (by first | exact N12.out | exact Nat.le_trans N12.out hbM) bM h31 hCN) | (have YO := fed_new3 (wb := wb) (Z := #[.int .i64 0, .int .u32 0, .string ⟨#[]⟩, .int .i64 0]) (t := 38) (by first | exact N12.out | exact Nat.le_trans N12.out hbM) bM h31 hCN)); obtain ⟨Y8, O8⟩ := YO; have y80 := (Y8.cell 0).trans rfl; have yf0 := Y8.free 0; have y81 := (Y8.cell 1).trans rfl; have yf1 := Y8.free 1; have y82 := (Y8.cell 2).trans rfl; have yf2 := Y8.free 2; have y83 := (Y8.cell 3).trans rfl; have yf3 := Y8.free 3; have Y8 := Lib.hid Y8; have O8 := Lib.hid O8)))))
          all_goals
            first
              | (have Z8 : Has (wN.alloc (.cells #[.int .i64 0, .int .u32 0, .string ⟨#[]⟩, .int .i64 cd] 38)) wN.heap.size 38 #[.int .i64 0, .int .u32 0, .string ⟨#[]⟩, .int .i64 cd] := Has.new _ _ _
                 have G9 := hG.grow kf17 (W' := wN.alloc (.cells #[.int .i64 0, .int .u32 0, .string ⟨#[]⟩, .int .i64 cd] 38)) ((GG.refl _).alloc _)
                 obtain ⟨w3, hw3⟩ : ∃ x, x = wN.alloc (.cells #[.int .i64 0, .int .u32 0, .string ⟨#[]⟩, .int .i64 cd] 38) := ⟨_, rfl⟩
                 rw [← hw3]
                 rw [← hw3] at Z8 G9
                 obtain ⟨b8, hb8⟩ : ∃ x, x = wN.heap.size := ⟨_, rfl⟩
                 rw [← hb8]
                 rw [← hb8] at Z8
                 clear hb8 hw3)
              | (have Z8 := Y8.out.fill (.int .i64 0) (.int .u32 0) (.string ⟨#[]⟩) (.int .i64 cd)
                 have G9 := hG.fill kf17 O8.out (by have := N12.out; have := HBW.out; have := hbM; omega) (.int .i64 0) (.int .u32 0) (.string ⟨#[]⟩) (.int .i64 cd)
                 clear y80 y81 y82 y83 yf0 yf1 yf2 yf3 O8 Y8
                 first | (have Q8 : Has _ w2.heap.size 38 #[.int .i64 0, .int .u32 0, .string ⟨#[]⟩, .int .i64 cd] := Z8; clear Q8; obtain ⟨b8, hb8⟩ : ∃ x, x = w2.heap.size := ⟨_, rfl⟩; rw [← hb8]; rw [← hb8] at Z8 G9; clear hb8; obtain ⟨w3, hw3⟩ : ∃ x, x = (((wN.setCell ⟨b8, 0, none⟩ (.int .i64 0)).setCell ⟨b8, 1, none⟩ (.int .u32 0)).setCell ⟨b8, 2, none⟩ (.string ⟨#[]⟩)).setCell ⟨b8, 3, none⟩ (.int .i64 cd) := ⟨_, rfl⟩; rw [← hw3]; rw [← hw3] at Z8 G9; clear hw3) | (have Q8 : Has _ wM.heap.size 38 #[.int .i64 0, .int .u32 0, .string ⟨#[]⟩, .int .i64 cd] := Z8; clear Q8; obtain ⟨b8, hb8⟩ : ∃ x, x = wM.heap.size := ⟨_, rfl⟩; rw [← hb8]; rw [← hb8] at Z8 G9; clear hb8; obtain ⟨w3, hw3⟩ : ∃ x, x = (((wN.setCell ⟨b8, 0, none⟩ (.int .i64 0)).setCell ⟨b8, 1, none⟩ (.int .u32 0)).setCell ⟨b8, 2, none⟩ (.string ⟨#[]⟩)).setCell ⟨b8, 3, none⟩ (.int .i64 cd) := ⟨_, rfl⟩; rw [← hw3]; rw [← hw3] at Z8 G9; clear hw3))
            obtain ⟨o9, HG9⟩ : ∃ o9, Hid (Gs b f sv sm pm hm cn cm r k wb xb T3 (F17 f pb wh mh t am bm r k (j2)) o9 (j2 + 1) w1 w3) := ⟨_, G9⟩
            clear KA KX HP hG h31 hCN bM hbM G9 hX hW HFr G12 N12 HBW hmn
            have wc := (HG9.out.hw.cell 0).trans rfl
            have z3 := (Z8.cell 3).trans rfl
            have H9 : Hid (Calls Tryz.prog 9 #[.pointer (some ⟨b, 0, none⟩)] w3 fun e w' => e = .returned (.pointer (some ⟨f, 0, none⟩)) ∧ w' = w3) := bflows_c HG9.out.bal
            have H10 : Hid (Calls Tryz.prog 10 #[.pointer (some ⟨f, 0, none⟩)] w3 fun e w' => e = .returned (.int .i64 ((j2 : Int))) ∧ w' = w3) := by
              obtain ⟨gA, gB, l, hF, _⟩ := HG9.out.flw
              exact flen_c hF
            have FB : Hid (Below w.heap.size w w3) := B1.out.trans (Below.mono HG9.out.bel B1.out.size)
            rcases hcd.out with ⟨hrk, _, rfl⟩ | ⟨hrk, _, rfl⟩
            · have hri : (r : Int) ≤ (k : Int) := by omega
              go_wp2_with fail
              refine H9.out.mono ?_
              rintro e w4 ⟨rfl, rfl⟩
              go_wp2_with fail
              refine H10.out.mono ?_
              rintro e w4 ⟨rfl, rfl⟩
              go_wp2_with fail
              go_ret
              exact ⟨rfl, FB.out⟩
            · have hri : ¬ (r : Int) ≤ (k : Int) := by omega
              have hrn : ¬ r ≤ k := by omega
              go_wp2_with fail
              refine H9.out.mono ?_
              rintro e w4 ⟨rfl, rfl⟩
              go_wp2_with fail
              refine H10.out.mono ?_
              rintro e w4 ⟨rfl, rfl⟩
              go_wp2_with fail
              go_ret
              exact ⟨rfl, FB.out⟩
theorem topFills_w (a0 : Int) (h0 : (Lit.int .u8 a0).wf = true) (a1 : Int) (h1 : (Lit.int .u8 a1).wf = true) (a2 : Int) (h2 : (Lit.int .u8 a2).wf = true) (w : World) (hT : CU.Tab w) (hz : 0 < w.heap.size) : Calls Tryz.prog 3 #[.int .u8 a0, .int .u8 a1, .int .u8 a2] w fun e w' => e = .returned (.bool true) ∧ Below w.heap.size w w' :=
  topFills_c a0 a1 a2 (wf8 h0).1 (wf8 h0).2 (wf8 h1).1 (wf8 h1).2 (wf8 h2).1 (wf8 h2).2 w hT hz
end Go.Proofs.YtngdebpaheejlaaGreatDoor
