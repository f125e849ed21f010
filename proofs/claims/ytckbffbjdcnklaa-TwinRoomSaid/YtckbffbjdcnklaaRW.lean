/- The walk of TwinRoom. -/
import Derived.Test.YtckbffbjdcnklaaRL
namespace Go.Proofs.Ytckbffbjdcnklaa
open Go.RowKit Go.Shelf
set_option linter.unusedSimpArgs false
set_option linter.unusedVariables false
attribute [local go_sem] Oper.semAt_some

set_option maxRecDepth 100000 in
set_option maxHeartbeats 6400000 in
theorem room_c (rm wh : Int) (w : World) (h1 : 0 ≤ rm) (h2 : rm ≤ 255) (h3 : 0 ≤ wh) (h4 : wh ≤ 255) :
    Calls Try.prog 5 #[.int .u8 rm, .int .u8 wh] w fun e w' => e = .returned (.bool true) ∧ Below w.heap.size w w' := by
  obtain ⟨q, hq⟩ : ∃ q : Nat, rm % 30 = (q : Int) := ⟨(rm % 30).toNat, by omega⟩
  have hq30 : q < 30 := by omega
  obtain ⟨n, hn⟩ : ∃ n : Nat, n = 1 + q := ⟨_, rfl⟩
  have hqn : 1 + (q : Int) = (n : Int) := by omega
  obtain ⟨p, hp⟩ : ∃ p : Nat, wh % (n : Int) = (p : Int) := ⟨(wh % (n : Int)).toNat, by have := Int.emod_nonneg wh (show (n : Int) ≠ 0 by omega); omega⟩
  have hpn : p < n := by have := Int.emod_lt_of_pos wh (show (0 : Int) < (n : Int) by omega); omega
  have n0 : ¬ n = 0 := by omega
  have hn31 : n < 31 := by omega
  have hn1 : 1 ≤ n := by omega
  have HN := Lib.hid hn
  clear hn
  refine (callsIn_wide (n := 5)).1 ?_
  refine callsIn_of_wp_marks Try.func5 rfl trivial ?_ rfl
  simp only [Try.ntmps5, List.size_toArray, List.length_cons, List.length_nil, Nat.reduceAdd, Nat.reduceSub, Array.replicate_succ, Array.replicate_zero, List.push_toArray, List.append_toArray, List.nil_append, List.cons_append]
  gi_wp2
  refine ⟨trivial, (callsIn_wide.2 (examples_c w)).mono ?_⟩
  rintro e w1 ⟨rfl, hb1⟩
  have hs1 := hb1.size
  have HB1 := Lib.hid hb1
  clear hb1
  gi_wp2
  refine ⟨trivial, (callsIn_wide.2 (R.new_c n (by omega) (by omega) w1)).mono ?_⟩
  rintro e w2 ⟨tb, g, am, bm, rfl, T2⟩
  have HT2 := Lib.hid T2
  clear T2
  gi_wp2
  gi_loopw [9] (fun i wr => ∃ (j : Nat) (g cap : Nat) (T : Nat → Option R.Row) (fa fb : Int → Option Nat), j ≤ n ∧ i = .int .i64 j ∧ R.TS ⟨w1, fun b => b < w1.heap.size⟩ wr tb g cap am bm n j j T fa fb (.slice none 0 0) ∧ RI j T fa fb) (fun i _ => n - (intOf i).toNat)
  case atStart => exact ⟨0, g, 1, _, _, _, by omega, rfl, HT2.out, RI.start⟩
  case round =>
    clear HT2
    obtain ⟨j, g, cap, T, fa, fb, hjn, rfl, T3, I3⟩ := hrel
    have HT := Lib.hid T3
    have HI := Lib.hid I3
    clear T3 I3
    by_cases hlt : j < n
    · have e1 : (j : Int) < (n : Int) := by omega
      have e2 : (0 : Int) ≤ (j : Int) := Int.natCast_nonneg _
      have e3 : (j : Int) < 31 := by omega
      have PN := Lib.hid (R.put_new HT.out (j : Int) (-(j : Int)) sv (wfi _ (by omega) (by omega)) (wfi _ (by omega) (by omega)) (by rw [HI.out.a, if_neg (by omega)]) (by rw [HI.out.b, if_neg (by omega)]) (by omega) (by omega) (by omega))
      gi_wp2
      refine ⟨trivial, (callsIn_wide.2 PN.out).mono ?_⟩
      rintro e w4 ⟨g2, cap2, rfl, T4⟩
      gi_wp2
      go_roundw
      case rel => exact ⟨j + 1, g2, cap2, _, _, _, by omega, rfl, T4, HI.out.put⟩
      case measure => simp [intOf]; omega
    · obtain rfl : j = n := by omega
      have e1 : ¬ ((j : Int) < (j : Int)) := by omega
      have wn : ∀ y : Int, -1000 ≤ y → y ≤ 1000 → (Lit.int .i64 y).wf = true := fun y a b => wfi y a b
      have PF := Lib.hid (R.put_full HT.out (j : Int) (-(j : Int)) sw (wn _ (by omega) (by omega)) (wn _ (by omega) (by omega)) (by rw [HI.out.a, if_neg (by omega)]) (by rw [HI.out.b, if_neg (by omega)]) rfl)
      obtain ⟨k, hk⟩ : ∃ k : Nat, k = p + 1 := ⟨_, rfl⟩
      have hpk : 1 + (p : Int) = (k : Int) := by omega
      have hk1 : 1 ≤ k := by omega
      have hkj : k ≤ j := by omega
      have e5 : (j : Int) < 31 := by omega
      have e6 : (p : Int) < 31 := by omega
      have e7 : (0 : Int) ≤ (p : Int) := Int.natCast_nonneg _
      have e8 : (0 : Int) ≤ (j : Int) := Int.natCast_nonneg _
      clear hk
      gi_wp2
      refine ⟨trivial, (callsIn_wide.2 PF.out).mono ?_⟩
      rintro e w4 ⟨rfl, T4⟩
      have HT4 := Lib.hid T4
      have P1 := Lib.hid (R.put_old T4 0 (-(j : Int)) sw (wn _ (by omega) (by omega)) (wn _ (by omega) (by omega)) (.inl (by rw [HI.out.a, if_pos (by omega)]; rfl)))
      have P2 := Lib.hid (R.put_old T4 (j : Int) 0 sw (wn _ (by omega) (by omega)) (wn _ (by omega) (by omega)) (.inr (by rw [HI.out.b, if_pos (by omega)]; rfl)))
      have hrk : T k = some ⟨(k : Int) - 1, -((k : Int) - 1), sv⟩ := by rw [HI.out.r, if_pos ⟨hk1, hkj⟩]
      have RY := Lib.hid (R.rem_yes T4 k _ hrk)
      clear T4 PF HT
      gi_wp2
      refine ⟨trivial, (callsIn_wide.2 P1.out).mono ?_⟩
      rintro e w4' ⟨rfl, rfl⟩
      gi_wp2
      refine ⟨trivial, (callsIn_wide.2 P2.out).mono ?_⟩
      rintro e w4' ⟨rfl, rfl⟩
      gi_wp2
      refine ⟨trivial, (callsIn_wide.2 RY.out).mono ?_⟩
      rintro e w5 ⟨f, capf, rfl, T5, own5, nf, nz⟩
      have r3 : R.setR T k none k = none := by simp [R.setR]
      have a3 : R.updF fa ((k : Int) - 1) none (j : Int) = none := by rw [R.updF_other _ _ (by omega), HI.out.a, if_neg (by omega)]
      have b3 : R.updF fb (-((k : Int) - 1)) none (-(j : Int)) = none := by rw [R.updF_other _ _ (by omega), HI.out.b, if_neg (by omega)]
      have PP := Lib.hid (R.put_free f capf k T5 own5 nf nz hk1 hkj r3 (j : Int) (-(j : Int)) sw (wn _ (by omega) (by omega)) (wn _ (by omega) (by omega)) a3 b3 (by omega) (by omega))
      clear T5 own5 nf nz
      gi_wp2
      refine ⟨trivial, (callsIn_wide.2 PP.out).mono ?_⟩
      rintro e w6 ⟨rfl, T6⟩
      have ec : j - 1 + 1 = j := by omega
      rw [ec] at T6
      have GY : Hid (Calls Try.prog 26 #[.pointer (some ⟨tb, 0, none⟩), .int .i64 k] w6 fun e w' => e = .returned (.tuple #[.string ⟨#[119]⟩, .bool true]) ∧ w6 = w') := R.get_yes T6 k ⟨(j : Int), -(j : Int), sw⟩ (by simp [R.setR])
      have HT6 := Lib.hid T6
      clear T6 PP
      gi_wp2
      refine ⟨trivial, (callsIn_wide.2 GY.out).mono ?_⟩
      rintro e w6' ⟨rfl, rfl⟩
      gi_wp2
      refine ⟨trivial, (callsIn_wide.2 (R.all_c _ _)).mono ?_⟩
      rintro e w7 ⟨rfl, rfl⟩
      gi_wp2
      obtain ⟨mb, hmb⟩ : ∃ mb, mb = w6.heap.size := ⟨_, rfl⟩
      obtain ⟨wz, hwz⟩ : ∃ wz, wz = (w6.alloc (.cells #[.int .i64 0] 3)).alloc (.cells #[.pointer (some ⟨tb, 0, none⟩)] 53) := ⟨_, rfl⟩
      have b6 : Below w6.heap.size w6 wz := by rw [hwz]; exact ((Below.refl _ _).alloc (Nat.le_refl _) _).alloc (by simp) _
      have sz : wz.heap.size = mb + 2 := by rw [hwz, hmb]; simp
      have TZ := HT6.out.grow b6
      have M1 : Has wz mb 3 #[.int .i64 0] := by rw [hwz, hmb]; exact (Has.new w6 _ _).alloc _
      have X1 : Has wz (mb + 1) 53 #[.pointer (some ⟨tb, 0, none⟩)] := by
        rw [hwz, hmb]
        have := Has.new (w6.alloc (.cells #[.int .i64 0] 3)) #[.pointer (some ⟨tb, 0, none⟩)] 53
        simpa using this
      have BZ : Below w.heap.size w wz := HB1.out.trans (((HT6.out.bel.below (fun b hb => hb)).mono hs1).trans (b6.mono (by have := HT6.out.bel.size; simp at this; omega)))
      have hwm : w.heap.size ≤ mb := by
        have := HB1.out.size
        have := HT6.out.bel.size
        simp at this
        omega
      have tl : tb < mb := by rw [hmb]; exact HT6.out.head.lt
      have gl := HT6.out.rows.lt
      have al := HT6.out.alt
      have bl := HT6.out.blt
      rw [← hmb] at gl al bl ⊢
      rw [← hwz]
      have hL : (R.hs (R.setR (R.setR T k none) k (some ⟨(j : Int), -(j : Int), sw⟩)) (j + 1)).length = j := by
        refine hs_full ?_ j (fun i h1 h2 => ?_)
        · unfold R.setR
          rw [if_neg (by omega), if_neg (by omega), HI.out.r, if_neg (by omega)]
        · unfold R.setR
          by_cases e : i = k
          · rw [if_pos e]; rfl
          · rw [if_neg e, if_neg e, HI.out.r, if_pos ⟨h1, h2⟩]; rfl
      obtain ⟨L, hLL⟩ : ∃ L, L = R.hs (R.setR (R.setR T k none) k (some ⟨(j : Int), -(j : Int), sw⟩)) (j + 1) := ⟨_, rfl⟩
      have SQ := R.all_seq (mb + 1) (fun b => b < mb + 2 ∧ b ≠ mb) X1 TZ.mem ⟨by omega, by omega⟩ ⟨by omega, by omega⟩ ⟨by omega, by omega⟩
      rw [← hLL] at hL SQ
      have HTZ := Lib.hid TZ
      have HSZ := Lib.hid sz
      clear hLL hwz hmb TZ b6 X1 HT6 GY RY P1 P2 HT4 HI
      refine wp_rangeN (gf := 44) (lb := #[.pointer (some ⟨mb + 1, 0, none⟩)]) rfl (enters_of Try.func44 (by kernel_rfl) rfl) SQ (Below.refl _ _) (fun b h => by omega) (fun _ => rfl)
        (fun pre X => Has X mb 3 #[.int .i64 (pre.length : Int)] ∧ KZ (fun b => b < mb + 2 ∧ b ≠ mb) wz X ∧ Below w.heap.size w X) (fun _ _ _ => False)
        (fun s X Y row hs hg hr => ⟨at_less hs.1 hg hr (by omega), ⟨Nat.le_trans hs.2.1.size hg.size, fun k hk hz => (hg.block k (Nat.lt_of_lt_of_le hk hs.2.1.size) (fun e => by have := (hr k e.symm).1; omega)).trans (hs.2.1.block k hk hz)⟩, ownFrom_below (β := List Nat) (Nat.le_refl _) (by have := BZ.size; omega) s X Y row hs.2.2 hg hr⟩)
        (fun _ _ _ _ _ h _ _ => h) ⟨M1, KZ.refl _ _, BZ⟩ ?round ?done ?stop
      case round =>
        intro l m pre x X0 hpre
        gi_wp2
        refine ⟨trivial, ?_⟩
        clear X0
        rintro X ⟨hm, hz, hb⟩
        have c0 := hm.cell 0
        have f0 := hm.free 0
        have hlen := hpre.length_le
        simp at c0 hlen
        have l1 : (pre.length : Int) < 31 := by omega
        have l2 : (0 : Int) ≤ (pre.length : Int) := Int.natCast_nonneg _
        gi_wp2
        refine ⟨(KZ.refl _ X).set (by omega) 0 _, ?_, hz.set (by omega) 0 _, hb.setCell (p := ⟨mb, 0, none⟩) hwm _⟩
        have := hm.set 0 (.int .i64 ((pre.length : Int) + 1))
        simpa using this
      case done =>
        rintro D X hD ⟨hm, hz, hb⟩ hK
        rw [hL] at hm
        have c0 := hm.cell 0
        simp at c0
        have cg : Chg (fun b => b = mb) wz X := ⟨hb.os.trans BZ.os.symm, hb.tape.trans BZ.tape.symm, hb.output.trans BZ.output.symm, hz.size, fun i hi hn => hz.block i hi ⟨by omega, hn⟩⟩
        have TX : R.TS ⟨X, fun _ => False⟩ X tb g cap am bm j j j _ _ _ _ := HTZ.out.move cg ⟨by omega, by omega, by omega, by omega⟩ (fun b h => h.elim) ⟨fun h => h, fun h => h, fun h => h, fun h => h⟩
        have LC := Lib.hid (R.len_c TX)
        have HBX := Lib.hid hb
        clear TX cg hb
        gi_wp2
        refine ⟨trivial, (callsIn_wide.2 LC.out).mono ?_⟩
        rintro e w9 ⟨rfl, rfl⟩
        gi_wp2
        refine ⟨by simp, .inl ⟨_, _, rfl, run_takeDeferred hK, ?_⟩⟩
        exact ⟨_, results_tmp rfl _ _ _, rfl, HBX.out.trans (belowK_b (w := wz) (by omega) X D _ _ hD hK rfl rfl)⟩
      case stop =>
        rintro D c pre X hD hp h hK
        exact h.elim
theorem room_w {w : World} (rm : Int) (h1 : (Lit.int .u8 rm).wf = true) (wh : Int) (h2 : (Lit.int .u8 wh).wf = true) : Calls Try.prog 5 #[.int .u8 rm, .int .u8 wh] w fun e w' => e = .returned (.bool true) ∧ Below w.heap.size w w' :=
  room_c rm wh w (wf_u8 h1).1 (wf_u8 h1).2 (wf_u8 h2).1 (wf_u8 h2).2
end Go.Proofs.Ytckbffbjdcnklaa
