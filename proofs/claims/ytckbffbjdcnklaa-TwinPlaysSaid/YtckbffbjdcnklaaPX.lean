/- TwinPlays: the law's walk. -/
import Derived.Test.YtckbffbjdcnklaaPH
import Derived.Deep.DeepCutAuto
import Derived.BigFrameIn
namespace Go.Proofs.Ytckbffbjdcnklaa
open Go.RowKit Go.Shelf
set_option linter.unusedSimpArgs false
set_option linter.unusedVariables false

attribute [local go_sem] Oper.semAt_some
theorem foldl2 (T : Array Value) (p q : Tmp) (a b : Value) : Array.foldl (fun t (x : Tmp × Value) => t.setIfInBounds x.fst x.snd) T (#[p, q].zip #[a, b]) = (T.setIfInBounds p a).setIfInBounds q b := by simp
set_option maxRecDepth 100000 in
set_option maxHeartbeats 3200000 in
theorem plays_c (rm : Int) (hlo : -9223372036854775808 ≤ rm) (hhi : rm ≤ 9223372036854775807) (a : Option Addr) (len cap : Nat) (D : Nat → Deed) (w : World) (hin : IsDeeds w a len D) :
    Calls Try.prog 6 #[.int .i64 rm, .slice a len cap] w fun e w' => e = .returned (.bool true) ∧ Below w.heap.size w w' := by
  have HI := Lib.hid hin
  clear hin
  refine (callsIn_wide (n := 5)).1 ?_
  refine callsIn_of_wp_marks Try.func6 rfl trivial ?_ rfl
  refine wpIn_wide.2 ?_
  simp only [Try.ntmps6, List.size_toArray, List.length_cons, List.length_nil, Nat.reduceAdd, Nat.reduceSub, Array.replicate_succ, Array.replicate_zero, List.push_toArray, List.append_toArray, List.nil_append, List.cons_append]
  go_wp2_with fail
  refine (examples_c _).mono ?_
  rintro e w1 ⟨rfl, hb1⟩
  have hN1 := hb1.size
  simp at hN1
  have R1 : Has w1 w.heap.size 4 #[.bool false] := (hb1.block _ (by simp)).trans (Has.new w _ _)
  have HB1 : Hid (Below w.heap.size w w1) := ((Below.refl _ _).alloc (Nat.le_refl _) _).trans (hb1.mono (by simp))
  clear hb1
  have c4 := R1.cell 0
  have f4 := R1.free 0
  simp at c4
  have l4 := R1.lt
  go_upto_region 4 with fail
  go_cut [22] from 17 to 22 (fun s wx => ∃ b : Bool, s = .bool b ∧ (b = true ↔ (20 < rm ∧ rm ≤ 65536)) ∧ wx = w1)
  case first =>
    by_cases h1 : 20 < rm
    · by_cases h2 : rm ≤ 65536
      · go_wp2_with fail
        go_meet
        case rel => exact ⟨_, rfl, by simp; omega, rfl⟩
      · go_wp2_with fail
        go_meet
        case rel => exact ⟨_, rfl, by simp; omega, rfl⟩
    · go_wp2_with fail
      go_meet
      case rel => exact ⟨_, rfl, by simp; omega, rfl⟩
  case rest =>
  obtain ⟨b, rfl, hb, rfl⟩ := hcut
  go_upto_if 22 with fail
  go_cut [0] from 23 to 24 (fun s0 wx => ∃ N : Int, s0 = .int .i64 N ∧ (N ≤ 20 ∨ 65536 < N) ∧ wx = wc)
  case first =>
    cases b
    · go_wp2_with fail
      go_meet
      case rel => exact ⟨_, rfl, by simp at hb; omega, rfl⟩
    · have h0 : 0 ≤ rm := by have := hb.1 rfl; omega
      go_wp2_with fail
      go_meet
      case rel => exact ⟨_, rfl, by omega, rfl⟩
  case rest =>
    obtain ⟨N, rfl, hN, rfl⟩ := hcut
    by_cases hbad : N < 1 ∨ 65536 < N
    · go_wp2_with fail
      refine (P.new_bad N hbad _).mono ?_
      rintro e w' ⟨rfl, rfl⟩
      go_wp2_with fail
      refine (qnew_bad N hbad _).mono ?_
      rintro e w' ⟨rfl, rfl⟩
      go_wp2_with fail

      refine out_c (w := w) [] rfl rfl ?_ ⟨List.nodup_nil, fun D h => by simp at h⟩ ?_
      · exact (R1.set 0 (.bool true)).alloc _
      · exact (HB1.out.setCell (p := ⟨w.heap.size, 0, none⟩) (Nat.le_refl _) _).alloc (by simp; omega) _
    · obtain ⟨room, rfl⟩ : ∃ room : Nat, N = (room : Int) := ⟨N.toNat, by omega⟩
      have hr1 : 1 ≤ room := by omega
      have hr2 : room ≤ 65536 := by omega
      clear hN hbad
      go_wp2_with fail
      refine (P.new_c room hr1 hr2 _).mono ?_
      rintro e w2 ⟨tb, g, am, bm, rfl, T2⟩
      have HT2 := Lib.hid T2
      clear T2
      go_wp2_with fail
      refine (qnew_c room (by omega) (by omega) _).mono ?_
      rintro e w3 ⟨rfl, rfl⟩
      have hz2 : w.heap.size < w2.heap.size := by have := HT2.out.bel.size; simp at this; omega
      have LI0 : Hid (LI w (w2.heap.size + 1) tb w2.heap.size room 0 [] [] ((w2.alloc (.cells #[.int .i64 (room : Int), .slice none 0 0] 69)).alloc (.cells #[.pointer (some ⟨w2.heap.size, 0, none⟩)] 62))) :=
        LI.start HB1.out R1 HT2.out
      clear HT2
      go_wp2_with fail
      refine wp_loop (fun a' w' => ∃ (k : Nat) (ds : List Nat) (L : List QR) (u10 u11 u12 u13 u49 u50 u51 u52 u53 u54 u55 u56 u57 u58 u59 u60 u61 u62 u63 u64 u65 u66 u67 u68 u69 u70 u71 u72 u73 u74 u75 u76 u77 u78 u79 u80 u81 u82 u83 u84 u85 u86 u87 u88 u89 u90 u91 u92 u93 u94 u95 u96 u97 u98 u99 u100 u101 u102 u103 u104 u105 u106 u107 u108 u109 u110 u111 u112 u113 u114 u115 u116 u117 u118 u119 u120 u121 : Value), k ≤ 80 ∧ LI w (w2.heap.size + 1) tb w2.heap.size room k ds L w' ∧ a' = { tmps := #[.int .i64 (room : Int), .slice a len cap, undef, undef, .pointer (some ⟨w.heap.size, 0, none⟩), .bool true, .pointer (some ⟨tb, 0, none⟩), .int .i64 0, .pointer (some ⟨w2.heap.size + 1, 0, none⟩), .int .i64 (k : Int), u10, u11, u12, u13, .bool true, .bool true, .bool false, u17, u18, u19, u20, u21, .bool b, u23, u24, .tuple #[.pointer (some ⟨tb, 0, none⟩), .int .i64 0], .int .i64 (room : Int), .tuple #[.pointer (some ⟨tb, 0, none⟩), .int .i64 0], .pointer (some ⟨tb, 0, none⟩), .int .i64 0, .int .i64 (room : Int), .pointer (some ⟨w2.heap.size, 0, none⟩), .pointer (some ⟨w2.heap.size, 0, none⟩), .bool false, undef, undef, undef, undef, undef, undef, undef, undef, undef, .pointer (some ⟨tb, 0, none⟩), .bool false, .bool false, .int .i64 0, .bool false, .bool false, u49, u50, u51, u52, u53, u54, u55, u56, u57, u58, u59, u60, u61, u62, u63, u64, u65, u66, u67, u68, u69, u70, u71, u72, u73, u74, u75, u76, u77, u78, u79, u80, u81, u82, u83, u84, u85, u86, u87, u88, u89, u90, u91, u92, u93, u94, u95, u96, u97, u98, u99, u100, u101, u102, u103, u104, u105, u106, u107, u108, u109, u110, u111, u112, u113, u114, u115, u116, u117, u118, u119, u120, u121, undef], defers := marks ds }) (fun a' _ => 80 - (intOf (a'.tmps.getD 9 undef)).toNat) ?start ?round
      case start =>
        refine ⟨0, [], [], ?_⟩
        repeat apply Exists.intro
        exact ⟨by omega, LI0.out, rfl⟩
      case round =>
        rintro a' wr ⟨k, ds, L, u10, u11, u12, u13, u49, u50, u51, u52, u53, u54, u55, u56, u57, u58, u59, u60, u61, u62, u63, u64, u65, u66, u67, u68, u69, u70, u71, u72, u73, u74, u75, u76, u77, u78, u79, u80, u81, u82, u83, u84, u85, u86, u87, u88, u89, u90, u91, u92, u93, u94, u95, u96, u97, u98, u99, u100, u101, u102, u103, u104, u105, u106, u107, u108, u109, u110, u111, u112, u113, u114, u115, u116, u117, u118, u119, u120, u121, hk, hLI, rfl⟩
        clear LI0 hb R1 c4 f4 l4 HB1 hN1
        have HL := Lib.hid hLI
        have hwr := hLI.bel.size
        have h4 := hLI.r4
        by_cases hlt : k < len
        · by_cases h80 : k < 80
          · have q1 : (k : Int) < (len : Int) := by omega
            have q2 : (k : Int) < 80 := by omega
            have q3 : (0 : Int) ≤ (k : Int) := Int.natCast_nonneg _
            rcases HI.out with h0 | ⟨b, off, rfl, hbl, hm, hc⟩
            · omega
            obtain ⟨ok, e0, e1, e2, e3, e4⟩ := hc k hlt
            have HOK := Lib.hid ok
            generalize D k = u at e0 e1 e2 e3 e4 HOK
            have HS : Hid (∀ (k' : Nat) (L' : List QR) (W : World), LI w (w2.heap.size + 1) tb w2.heap.size room k' ds L' W → W.cell? ⟨w2.heap.size + 1, 0, none⟩ = some (.pointer (some ⟨w2.heap.size, 0, none⟩)) ∧ W.cell? ⟨b, off + k * 5, none⟩ = some (.int .i64 u.k) ∧ W.cell? ⟨b, off + k * 5 + 1, none⟩ = some (.int .i64 u.h) ∧ W.cell? ⟨b, off + k * 5 + 2, none⟩ = some (.string u.a) ∧ W.cell? ⟨b, off + k * 5 + 3, none⟩ = some (.int .i64 u.b) ∧ W.cell? ⟨b, off + k * 5 + 4, none⟩ = some (.string u.v)) := fun k' L' W h => by
              have cc : ∀ o, W.cell? ⟨b, o, none⟩ = w.cell? ⟨b, o, none⟩ := fun o => h.bel.cell (p := ⟨b, o, none⟩) hbl
              have c8 := h.r8.cell 0
              simp at c8
              exact ⟨c8, (cc _).trans e0, (cc _).trans e1, (cc _).trans e2, (cc _).trans e3, (cc _).trans e4⟩
            obtain ⟨c8, d0, d1, d2, d3, d4⟩ := HS.out k L wr hLI
            have PD := Lib.hid (hLI.drewN 1)
            have DC := Lib.hid (does_c PD.out.q (by omega) u.k u.h u.b u.a u.v HOK.out.1.1 HOK.out.1.2 HOK.out.2.1 HOK.out.2.2)
            clear hc e0 e1 e2 e3 e4 ok hLI h4 hm
            unfold deedV at DC
            go_wp2_with fail
            go_region_held3 (fun W => W.cell? ⟨w2.heap.size + 1, 0, none⟩ = some (.pointer (some ⟨w2.heap.size, 0, none⟩)) ∧ W.cell? ⟨b, off + k * 5, none⟩ = some (.int .i64 u.k) ∧ W.cell? ⟨b, off + k * 5 + 1, none⟩ = some (.int .i64 u.h) ∧ W.cell? ⟨b, off + k * 5 + 2, none⟩ = some (.string u.a) ∧ W.cell? ⟨b, off + k * 5 + 3, none⟩ = some (.int .i64 u.b) ∧ W.cell? ⟨b, off + k * 5 + 4, none⟩ = some (.string u.v))
              (first | exact ⟨c8, d0, d1, d2, d3, d4⟩ | exact HS.out _ _ _ (PD.out.step QA CA))
              (first | (go_at_call 31; (refine (DC.out).mono ?_); rintro e wA ⟨rfl, L', QA, CA⟩))
            have LA := PD.out.step QA CA
            clear QA CA DC PD HS HL d0 d1 d2 d3 d4 c8
            obtain ⟨⟨va, vc, hc1, hle, rows⟩, c8, hxb, hb8, lenc⟩ := LA.reads (by omega)
            have HLA := Lib.hid LA
            have HRW := Lib.hid rows
            have LC : Hid (∀ q, Calls Try.prog 32 #[.pointer (some ⟨tb, 0, none⟩)] (wA.drewN q) fun e w' => e = .returned (.int .i64 (L'.length : Int)) ∧ w' = wA.drewN q) := fun q => (((LA.drewN q).reads (by omega)).2.2.2.2).mono (fun _ _ h => ⟨h.1, h.2.symm⟩)
            clear LA rows lenc
            go_wp2_with fail
            go_quiet ((go_at_call 32; exact Calls.quiet_of_same (LC.out _)))
            obtain ⟨wB, hwB⟩ : ∃ wB, wB = wA.drewN nq := ⟨_, rfl⟩
            have LB := HLA.out.drewN nq
            rw [← hwB] at LB ⊢
            clear hwB HLA LC hc1 HRW c8 hxb hb8
            go_wp2_with fail
            refine (P.all_c _ _).mono ?_
            rintro e w7 ⟨rfl, rfl⟩
            go_wp2_with fail
            obtain ⟨mb, hmb⟩ : ∃ mb, mb = wB.heap.size := ⟨_, rfl⟩
            obtain ⟨wz, hwz⟩ : ∃ wz, wz = (wB.alloc (.cells #[.int .i64 0] 3)).alloc (.cells #[.pointer (some ⟨tb, 0, none⟩)] 59) := ⟨_, rfl⟩
            have bz : Below wB.heap.size wB wz := by rw [hwz]; exact ((Below.refl _ _).alloc (Nat.le_refl _) _).alloc (by simp) _
            have sz : wz.heap.size = mb + 2 := by rw [hwz, hmb]; simp
            have M1 : Has wz mb 3 #[.int .i64 0] := by rw [hwz, hmb]; exact (Has.new wB _ _).alloc _
            have X1 : Has wz (mb + 1) 59 #[.pointer (some ⟨tb, 0, none⟩)] := by
              rw [hwz, hmb]
              have := Has.new (wB.alloc (.cells #[.int .i64 0] 3)) #[.pointer (some ⟨tb, 0, none⟩)] 59
              simpa using this
            obtain ⟨T, gz, cap', m, MEM, HSE, FL, gl, tl⟩ := LB.iter
            have MEMz : P.Mem wz tb gz cap' m T := MEM.kept (Z := fun _ => True) (.of_below bz) trivial trivial
            have BZ : Below w.heap.size w wz := LB.bel.trans (bz.mono LB.bel.size)
            obtain ⟨⟨va, vc, hc1, hle, rows⟩, c8, hxb, hb8, _⟩ := LB.reads (by omega)
            have RD : Hid (∀ X, KZ (fun b => b < mb + 2 ∧ b ≠ mb) wz X → ∀ b o, b < mb → X.cell? ⟨b, o, none⟩ = wB.cell? ⟨b, o, none⟩) := fun X hz b o hb => by
              refine (World.cell?_of_block (a := ⟨b, o, none⟩) (hz.block b (by omega) ⟨by omega, by omega⟩)).trans (World.cell?_of_block (a := ⟨b, o, none⟩) (bz.block b (by omega)))
            have DONE : Hid (∀ X D, KZ (fun b => b < mb + 2 ∧ b ≠ mb) wz X → Below w.heap.size w X → mb + 2 ≤ D → X.heap[D]? = some (.deferred (some [])) → LI w (w2.heap.size + 1) tb w2.heap.size room (k + 1) (D :: ds) L' X) := fun X D hz hb hD hK => by
              refine LB.round (.cells #[.int .i64 0] 3) (.cells #[.pointer (some ⟨tb, 0, none⟩)] 59) (X := X) ?_ (by omega) hK hb
              rw [← hwz]
              exact ⟨hb.os.trans BZ.os.symm, hb.tape.trans BZ.tape.symm, hb.output.trans BZ.output.symm, hz.size, fun i hi hn => hz.block i hi ⟨by omega, by omega⟩⟩
            have hNm : w.heap.size ≤ mb := by have := LB.bel.size; omega
            have SQ := P.all_seq (mb + 1) (fun b => b < mb + 2 ∧ b ≠ mb) X1 MEMz ⟨by omega, by omega⟩ ⟨by omega, by omega⟩ ⟨by omega, by omega⟩
            rw [HSE] at SQ
            rw [← hmb] at hxb hb8 ⊢
            rw [← hwz]
            have HRW := Lib.hid rows
            have HFL := Lib.hid FL
            have HSZ := Lib.hid sz
            have HC := Lib.hid (And.intro hc1 c8)
            have HM := Lib.hid (And.intro M1 BZ)
            have HMB := Lib.hid hmb
            have HNM := Lib.hid hNm
            clear LB MEM MEMz HSE bz X1 rows FL hc1 c8 gl tl hwz hmb M1 BZ
            refine (wpIn_wide (n := 5)).1 ?_
            refine wp_rangeN (gf := 55) (lb := #[.pointer (some ⟨mb + 1, 0, none⟩)]) rfl (enters_of Try.func55 (by kernel_rfl) rfl) SQ (Below.refl _ _) (fun b h => by omega) (fun _ => rfl)
              (fun pre X => Has X mb 3 #[.int .i64 (pre.length : Int)] ∧ KZ (fun b => b < mb + 2 ∧ b ≠ mb) wz X ∧ Below w.heap.size w X) (fun _ _ _ => False)
              (fun s X Y row hs hg hr => ⟨at_less hs.1 hg hr (by omega), ⟨Nat.le_trans hs.2.1.size hg.size, fun k hk hz => (hg.block k (Nat.lt_of_lt_of_le hk hs.2.1.size) (fun e => by have := (hr k e.symm).1; omega)).trans (hs.2.1.block k hk hz)⟩, ownFrom_below (β := List Nat) (Nat.le_refl _) (by have := HM.out.2.size; omega) s X Y row hs.2.2 hg hr⟩)
              (fun _ _ _ _ _ h _ _ => h) ⟨HM.out.1, KZ.refl _ _, HM.out.2⟩ ?round ?done ?stop
            case round =>
              intro lp m' pre x X0 hpre
              obtain ⟨q, hq, hqx⟩ : ∃ q, L'[pre.length]? = some q ∧ q.h = x := by
                have h1 : (L'.map (·.h))[pre.length]? = some x := by
                  obtain ⟨tl, ht⟩ := hpre
                  rw [← ht]
                  simp
                rw [List.getElem?_map] at h1
                cases h2 : L'[pre.length]? with
                | none => rw [h2] at h1; cases h1
                | some q => rw [h2] at h1; exact ⟨q, rfl, by cases h1; rfl⟩
              subst hqx
              have hfl := HFL.out _ q hq
              dsimp only
              rw [hfl]
              obtain ⟨f, rfl, g0, g3, hf⟩ := HRW.out _ q hq
              have hpl : pre.length < L'.length := (List.getElem?_eq_some_iff.1 hq).1
              clear hq hfl hpre
              rw [foldl2]
              simp only [List.setIfInBounds_toArray, List.set_cons_succ, List.set_cons_zero]
              gi_wp2
              refine ⟨trivial, ?_⟩
              clear X0
              rintro X ⟨hm, hz, hb⟩
              have cc := RD.out X hz
              have e8 := (cc _ _ hb8).trans HC.out.2
              have e1 := (cc _ _ hxb).trans HC.out.1
              rw [← HMB.out] at hf
              have e0 := (cc _ (pre.length * 4) hf).trans g0
              have e3 := (cc _ (pre.length * 4 + 3) hf).trans g3
              have c0 := hm.cell 0
              have f0 := hm.free 0
              simp at c0
              have FIN := Lib.hid (And.intro hm (And.intro hz hb))
              clear cc hm hz hb g0 g3
              obtain ⟨p, hp⟩ : ∃ p, p = pre.length := ⟨_, rfl⟩
              obtain ⟨nL, hnL⟩ : ∃ nL, nL = L'.length := ⟨_, rfl⟩
              rw [← hp] at e0 e3 c0 hpl
              rw [← hnL] at e1 hpl hle
              have HP := Lib.hid hp
              have p1 : (p : Int) < (nL : Int) := by omega
              have p2 : (0 : Int) ≤ (p : Int) := Int.natCast_nonneg _
              have p3 : (p : Int) < 100 := by omega
              have p4 : decide (nL ≤ p) = false := by simp; omega
              have p5 : ¬ nL ≤ p := by omega
              clear hp hnL
              gi_wp2_with fail
              refine round_quiet (by kernel_rfl) (by kernel_rfl) (by kernel_rfl) ?_
              repeat (go_big_quiet_step (fail))
              refine wpQuiet_nil ?_
              intro _ hw'
              obtain ⟨nq2, rfl⟩ := hw'
              gi_wp2
              refine ⟨?_, ?_, ?_, ?_⟩
              · exact KZ.set (W := X) (W' := X.drewN nq2) ⟨Nat.le_refl _, fun _ _ _ => rfl⟩ (by have := HNM.out; omega) 0 _
              · have := Has.set (w := X.drewN nq2) FIN.out.1 0 (.int .i64 ((p : Int) + 1))
                rw [List.length_append, ← HP.out]
                simpa using this
              · exact KZ.set (W' := X.drewN nq2) ⟨FIN.out.2.1.size, FIN.out.2.1.block⟩ (by omega) 0 _
              · exact (bel_dr FIN.out.2.2 nq2).setCell (p := ⟨mb, 0, none⟩) HNM.out _
            case done =>
              rintro E X hE ⟨hm, hz, hb⟩ hK
              have LX := DONE.out X E hz hb (by have := HSZ.out; omega) hK
              obtain ⟨⟨va', vc', hc1, hle', _⟩, c8, _, _, _⟩ := LX.reads (by omega)
              have c0 := hm.cell 0
              simp at c0
              have HLX := Lib.hid LX
              clear LX hm hz hb hK
              generalize L'.length = nL at c0 hc1 hle'
              go_wp2_with fail
              go_quiet (fail)
              go_wp2_with fail
              refine ⟨⟨k + 1, E :: ds, L', ?_⟩, ?measure⟩
              case measure => simp [intOf]; omega
              repeat apply Exists.intro
              exact ⟨by omega, HLX.out.drewN _, rfl⟩
            case stop =>
              rintro D c pre X hD hp h hK
              exact h.elim
          · have q1 : (k : Int) < (len : Int) := by omega
            have q2 : ¬ (k : Int) < 80 := by omega
            have c4 := h4.cell 0
            have f4 := h4.free 0
            simp at c4
            clear hLI h4
            go_wp2_with fail
            refine out_c (w := w) ds rfl rfl ?_ ?_ ?_
            · exact HL.out.r4.set 0 (.bool true)
            · exact HL.out.mar.set
            · exact HL.out.bel.setCell (p := ⟨w.heap.size, 0, none⟩) (Nat.le_refl _) _
        · have q1 : ¬ (k : Int) < (len : Int) := by omega
          have c4 := h4.cell 0
          have f4 := h4.free 0
          simp at c4
          clear hLI h4
          go_wp2_with fail
          refine out_c (w := w) ds rfl rfl ?_ ?_ ?_
          · exact HL.out.r4.set 0 (.bool true)
          · exact HL.out.mar.set
          · exact HL.out.bel.setCell (p := ⟨w.heap.size, 0, none⟩) (Nat.le_refl _) _
end Go.Proofs.Ytckbffbjdcnklaa
