/- The walk of CursorPlays. -/
import Derived.Test.YtlhbldbbjjlohaaDoorS
import Derived.Test.YtlhbldbbjjlohaaDoorPairs
import Derived.Deep.RegionHeld3
import Derived.Deep.DeepCutAuto
namespace Go.Proofs.YtlhbldbbjjlohaaDoor
open Go.RowKit
set_option linter.unusedSimpArgs false
set_option linter.unusedVariables false
open V2 (Only)

set_option maxRecDepth 100000 in
set_option maxHeartbeats 3200000 in
theorem plays_c (n0 : Int) (hlo : -9223372036854775808 ≤ n0) (hhi : n0 ≤ 9223372036854775807) (a : Option Addr) (len cap : Nat) (A B : Nat → Int) (w : World) (hin : IsPairs .i64 .i64 w a len A B) (hT : Tab w) (hz : 0 < w.heap.size) :
    Calls Tryd.prog 3 #[.int .i64 n0, .slice a len cap] w fun e w' => e = .returned (.bool true) ∧ Below w.heap.size w w' := by
  have HT := Lib.hid hT
  have HI := Lib.hid hin
  clear hT hin
  go_enter Tryd.func3, Tryd.ntmps3
  go_wp2_with fail
  refine (examples_c _ HT.out hz).mono ?_
  rintro e w1 ⟨rfl, hb1⟩
  have HT1 := Lib.hid (HT.out.below hb1 hz)
  go_upto_region 4 with fail
  go_cut [25] (fun s25 wx => ∃ b : Bool, s25 = .bool b ∧ (b = true ↔ (300 < n0 ∧ n0 ≤ 65536)) ∧ wx = w1)
  case first =>
    by_cases h1 : 300 < n0
    · by_cases h2 : n0 ≤ 65536
      · go_wp2_with fail
        go_meet
        case rel => exact ⟨_, rfl, by simp; omega, rfl⟩
      · go_wp2_with fail
        go_meet
        case rel => exact ⟨_, rfl, by simp; omega, rfl⟩
    · go_wp2_with fail
      go_meet
      case rel => exact ⟨_, rfl, by simp; omega, rfl⟩
  case rest =>
  obtain ⟨b, rfl, hb, rfl⟩ := hcut
  go_upto_if 25 with fail
  go_cut [0] (fun s0 wx => ∃ N : Int, s0 = .int .i64 N ∧ (N ≤ 300 ∨ 65536 < N) ∧ wx = wc)
  case first =>
    cases b
    · go_wp2_with fail
      go_meet
      case rel => exact ⟨_, rfl, by simp at hb; omega, rfl⟩
    · have h0 : 0 ≤ n0 := by have := hb.1 rfl; omega
      go_wp2_with fail
      go_meet
      case rel => exact ⟨_, rfl, by omega, rfl⟩
  case rest =>
    obtain ⟨N, rfl, hN, rfl⟩ := hcut
    by_cases hbad : N < 1 ∨ 65536 < N
    · go_wp2_with fail
      refine (new_bad N hbad _).mono ?_
      rintro e w' ⟨rfl, rfl⟩
      go_wp2_with fail
      refine (rnew_bad N hbad _).mono ?_
      rintro e w' ⟨rfl, rfl⟩
      go_wp2
      go_ret
      exact ⟨rfl, hb1⟩
    · obtain ⟨n, rfl⟩ : ∃ n : Nat, N = (n : Int) := ⟨N.toNat, by omega⟩
      have hn1 : 1 ≤ n := by omega
      have hn2 : n ≤ 300 := by omega
      clear hN hbad
      go_wp2_with fail
      refine (new_s w _ n (by omega) (by omega) HT1.out hb1 hz).mono ?_
      rintro e w2 ⟨rfl, S2⟩
      go_wp2_with fail
      refine (rnew_c n (by omega) (by omega) _).mono ?_
      rintro e w3 ⟨rfl, R3, hb3⟩
      have hlt1 := S2.cur.head.lt
      have hle1 := S2.bel.size
      have P3 : PS w w3 (wc.heap.size + 1) wc.heap.size (w2.heap.size + 1) w2.heap.size n 0 0 (fun _ => false) (fun _ => false) :=
        ⟨S2.grow hb3, R3, by omega, by omega, by omega, by omega, by omega, by omega⟩
      clear S2 R3 hb3 HT1 HT hb1
      go_wp2_with fail
      go_loopw [9] (fun i wr => ∃ (j a1 : Nat) (U : Nat → Bool), j ≤ 100 ∧ i = .int .i64 j ∧ PS w wr (wc.heap.size + 1) wc.heap.size (w2.heap.size + 1) w2.heap.size n a1 a1 U U) (fun i _ => 100 - (intOf i).toNat)
      case atStart => exact ⟨0, 0, _, by omega, rfl, P3⟩
      case round =>
        obtain ⟨j, a1, U, hj, rfl, P4⟩ := hrel
        clear P3
        by_cases hlt : j < len
        · by_cases h100 : j < 100
          · rcases HI.out with h0 | ⟨b, off, rfl, hbl, hm, hc⟩
            · omega
            obtain ⟨hc0, hc1, hw0, hw1⟩ := hc j hlt
            have hj1 : (j : Int) < (len : Int) := by omega
            have hj2 : (j : Int) < 100 := by omega
            obtain ⟨k0, k1⟩ := wf_i64 hw0
            obtain ⟨i0, i1⟩ := wf_i64 hw1
            have g0 := (P4.st.bel.cell (p := ⟨b, off + j * 2, none⟩) hbl).trans hc0
            have g1 := (P4.st.bel.cell (p := ⟨b, off + (j * 2 + 1), none⟩) hbl).trans hc1
            rw [show off + (j * 2 + 1) = off + j * 2 + 1 from by omega] at g1
            generalize A j = K at g0 k0 k1
            generalize B j = I at g1 i0 i1
            clear hc hc0 hc1 hw0 hw1 HI
            go_upto_if 69 with fail
            go_cut [11] (fun s11 wx => ∃ kk : Int, 0 ≤ kk ∧ kk ≤ 9223372036854775807 ∧ s11 = .int .i64 kk ∧ wx = wr.alloc (.cells #[.int .i64 K, .int .i64 I] 31))
            case first =>
              by_cases hK : K < 0
              · go_wp2_with fail
                go_meet
                case rel => exact ⟨_, by omega, by omega, rfl, rfl⟩
              · go_wp2_with fail
                go_meet
                case rel => exact ⟨_, by omega, by omega, rfl, rfl⟩
            case rest =>
            obtain ⟨kk, kk0, kk1, rfl, rfl⟩ := hcut
            have P5 := P4.grow ((Below.refl wr.heap.size wr).alloc (Nat.le_refl _) (.cells #[.int .i64 K, .int .i64 I] 31))
            have L4 := P4.lts
            obtain ⟨r, hr⟩ : ∃ r, r = kk % 6 := ⟨_, rfl⟩
            have hr2 : kk % 6 = r := hr.symm
            clear P4 g0 g1 hr
            have PD := P5.grow (Below.drew (Below.refl _ _))
            have NE : Hid (wr.heap.size ≠ wc.heap.size + 1 ∧ wr.heap.size ≠ wc.heap.size ∧ wr.heap.size ≠ w2.heap.size + 1 ∧ wr.heap.size ≠ w2.heap.size) := by
              refine ⟨?_, ?_, ?_, ?_⟩ <;> omega
            have HSW : Hid (∀ W : World, W.heap[wr.heap.size]? = (wr.alloc (.cells #[.int .i64 K, .int .i64 I] 31)).heap[wr.heap.size]? → W.cell? ⟨wr.heap.size, 1, none⟩ = some (.int .i64 I)) :=
              fun W e => (show Has W wr.heap.size 31 #[.int .i64 K, .int .i64 I] from e.trans (Has.new _ _ _)).cell 1
            clear L4
            by_cases e3 : r = 3
            · subst e3
              have hn0 : ¬ n = 0 := by omega
              go_wp2_with fail
              go_region_held3 (fun W => W.cell? ⟨wr.heap.size, 1, none⟩ = some (.int .i64 I))
                (first | exact HSW.out _ rfl | exact HSW.out _ (OA.2.2 _ NE.out.1 NE.out.2.1) | exact HSW.out _ (OB.2.2 _ NE.out.2.2.1 NE.out.2.2.2) | exact HSW.out _ ((OE.2.2 _ NE.out.2.2.1 NE.out.2.2.2).trans (OA.2.2 _ NE.out.1 NE.out.2.1)) | exact HSW.out _ ((OC.2.2 _ NE.out.1 NE.out.2.1).trans (OB.2.2 _ NE.out.2.2.1 NE.out.2.2.2)))
                (first
                  | (go_at_call 10; first | (refine (freeL _ PD).mono ?_; rintro e wA ⟨rfl, PA, OA⟩) | (refine (freeL _ PB).mono ?_; rintro e wC ⟨rfl, PC, OC⟩))
                  | (go_at_call 11; first | (refine (freeR _ PD).mono ?_; rintro e wB ⟨rfl, PB, OB⟩) | (refine (freeR _ PA).mono ?_; rintro e wE ⟨rfl, PE, OE⟩)))
              all_goals
                rename_i hx
                first | (have PZ := PE; clear PE PA OA OE) | (have PZ := PC; clear PC PB OB OC)
                clear hx HSW PD P5
                go_wp2_with fail
                refine (lenL PZ).mono ?_
                rintro e w' ⟨rfl, rfl⟩
                go_wp2_with fail
                refine (lenR PZ).mono ?_
                rintro e w' ⟨rfl, rfl⟩
                go_wp2
                go_roundw
                case rel => exact ⟨j + 1, _, _, by omega, by go_num, PZ⟩
                case measure => simp [intOf]; omega
            by_cases e4 : r = 4
            · subst e4
              go_wp2_with fail
              go_region_held3 (fun W => W.cell? ⟨wr.heap.size, 1, none⟩ = some (.int .i64 I))
                (first | exact HSW.out _ rfl | exact HSW.out _ (OA.2.2 _ NE.out.1 NE.out.2.1) | exact HSW.out _ (OB.2.2 _ NE.out.2.2.1 NE.out.2.2.2) | exact HSW.out _ ((OE.2.2 _ NE.out.2.2.1 NE.out.2.2.2).trans (OA.2.2 _ NE.out.1 NE.out.2.1)) | exact HSW.out _ ((OC.2.2 _ NE.out.1 NE.out.2.1).trans (OB.2.2 _ NE.out.2.2.1 NE.out.2.2.2)))
                (first
                  | (go_at_call 10; first | (refine (freeL _ PD).mono ?_; rintro e wA ⟨rfl, PA, OA⟩) | (refine (freeL _ PB).mono ?_; rintro e wC ⟨rfl, PC, OC⟩))
                  | (go_at_call 11; first | (refine (freeR _ PD).mono ?_; rintro e wB ⟨rfl, PB, OB⟩) | (refine (freeR _ PA).mono ?_; rintro e wE ⟨rfl, PE, OE⟩)))
              all_goals
                rename_i hx
                first | (have PZ := PE; clear PE PA OA OE) | (have PZ := PC; clear PC PB OB OC)
                clear hx HSW PD P5
                go_wp2_with fail
                refine (lenL PZ).mono ?_
                rintro e w' ⟨rfl, rfl⟩
                go_wp2_with fail
                refine (lenR PZ).mono ?_
                rintro e w' ⟨rfl, rfl⟩
                go_wp2
                go_roundw
                case rel => exact ⟨j + 1, _, _, by omega, by go_num, PZ⟩
                case measure => simp [intOf]; omega
            by_cases e5 : r = 5
            · subst e5
              go_wp2_with fail
              go_region_held3 (fun W => W.cell? ⟨wr.heap.size, 1, none⟩ = some (.int .i64 I))
                (first | exact HSW.out _ rfl)
                (first
                  | (go_at_call 12; refine (usedL _ PD).mono ?_; rintro e wA ⟨rfl, rfl⟩)
                  | (go_at_call 13; refine (hasR _ PD).mono ?_; rintro e wB ⟨rfl, rfl⟩))
              all_goals
                rename_i hx
                have PZ := PD
                clear hx HSW PD P5
                go_wp2_with fail
                refine (lenL PZ).mono ?_
                rintro e w' ⟨rfl, rfl⟩
                go_wp2_with fail
                refine (lenR PZ).mono ?_
                rintro e w' ⟨rfl, rfl⟩
                go_wp2
                go_roundw
                case rel => exact ⟨j + 1, _, _, by omega, by go_num, PZ⟩
                case measure => simp [intOf]; omega
            have f3 : (r == 3) = false := by simp [e3]
            have f4 : (r == 4) = false := by simp [e4]
            have f5 : (r == 5) = false := by simp [e5]
            clear e3 e4 e5 HSW PD
            by_cases hf : ∀ k, k < n → U k = true
            · have HF := Lib.hid hf
              clear hf
              go_wp2_with fail
              refine (takeFullL P5 HF.out).mono ?_
              rintro e wA ⟨rfl, PA⟩
              go_wp2_with fail
              refine (takeFullR PA HF.out).mono ?_
              rintro e w' ⟨rfl, rfl⟩
              have PZ := PA
              clear P5 PA
              go_wp2_with fail
              refine (lenL PZ).mono ?_
              rintro e w' ⟨rfl, rfl⟩
              go_wp2_with fail
              refine (lenR PZ).mono ?_
              rintro e w' ⟨rfl, rfl⟩
              go_wp2
              go_roundw
              case rel => exact ⟨j + 1, _, _, by omega, by go_num, PZ⟩
              case measure => simp [intOf]; omega
            · have HF := Lib.hid hf
              clear hf
              go_wp2_with fail
              refine (takeNextL P5 HF.out).mono ?_
              rintro e wA ⟨x, hx, rfl, PA⟩
              have HX := Lib.hid hx
              clear hx
              go_wp2_with fail
              refine (takeNextR x PA HX.out).mono ?_
              rintro e wB ⟨rfl, PZ⟩
              clear P5 PA
              go_wp2_with fail
              refine (lenL PZ).mono ?_
              rintro e w' ⟨rfl, rfl⟩
              go_wp2_with fail
              refine (lenR PZ).mono ?_
              rintro e w' ⟨rfl, rfl⟩
              go_wp2
              go_roundw
              case rel => exact ⟨j + 1, _, _, by omega, by go_num, PZ⟩
              case measure => simp [intOf]; omega
          · go_wp2
            go_ret
            exact ⟨rfl, P4.st.bel⟩
        · go_wp2
          go_ret
          exact ⟨rfl, P4.st.bel⟩
theorem plays_w (n : Int) (hn : (Lit.int .i64 n).wf = true) (a : Option Addr) (len cap : Nat) {w : World} (hin : ∃ A B, IsPairs .i64 .i64 w a len A B) (hT : Tab w) (hz : 0 < w.heap.size) :
    Calls Tryd.prog 3 #[.int .i64 n, .slice a len cap] w fun e w' => e = .returned (.bool true) ∧ Below w.heap.size w w' := by
  obtain ⟨A, B, hin⟩ := hin
  obtain ⟨h0, h1⟩ := wf_i64 hn
  exact plays_c n h0 h1 a len cap A B w hin hT hz
end Go.Proofs.YtlhbldbbjjlohaaDoor
