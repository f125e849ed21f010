/- The walk of TwinSets. -/
import Derived.Test.YtckbffbjdcnklaaSL
namespace Go.Proofs.Ytckbffbjdcnklaa
open Go.RowKit Go.Shelf
set_option linter.unusedSimpArgs false
set_option linter.unusedVariables false
attribute [local go_sem] Oper.semAt_some

set_option maxRecDepth 100000 in
set_option maxHeartbeats 6400000 in
theorem sets_c (mn wh h : Int) (v : ByteArray) (w : World) (h1 : 0 ≤ mn) (h2 : mn ≤ 255) (h3 : 0 ≤ wh) (h4 : wh ≤ 255) :
    Calls Try.prog 4 #[.int .u8 mn, .int .u8 wh, .int .i64 h, .string v] w fun e w' => e = .returned (.bool true) ∧ Below w.heap.size w w' := by
  obtain ⟨q, hq⟩ : ∃ q : Nat, mn % 20 = (q : Int) := ⟨(mn % 20).toNat, by omega⟩
  have hq30 : q < 20 := by omega
  obtain ⟨n, hn⟩ : ∃ n : Nat, n = 1 + q := ⟨_, rfl⟩
  have hqn : 1 + (q : Int) = (n : Int) := by omega
  obtain ⟨k, hk⟩ : ∃ k : Nat, wh % (n : Int) = (k : Int) := ⟨(wh % (n : Int)).toNat, by have := Int.emod_nonneg wh (show (n : Int) ≠ 0 by omega); omega⟩
  have hkn : k < n := by have := Int.emod_lt_of_pos wh (show (0 : Int) < (n : Int) by omega); omega
  have n0 : ¬ n = 0 := by omega
  have hn31 : n < 21 := by omega
  have hn1 : 1 ≤ n := by omega
  have HN := Lib.hid hn
  clear hn
  have hl := Has.new w #[.string v] 9
  have hr := (Has.new (w.alloc (.cells #[.string v] 9)) #[.bool false] 4)
  simp at hr
  obtain ⟨wa, hwa⟩ : ∃ wa, wa = (w.alloc (.cells #[.string v] 9)).alloc (.cells #[.bool false] 4) := ⟨_, rfl⟩
  have hb0 : Below w.heap.size w wa := by rw [hwa]; exact ((Below.refl _ _).alloc (Nat.le_refl _) _).alloc (by simp) _
  have sa : wa.heap.size = w.heap.size + 2 := by rw [hwa]; simp
  have hv0 : Has wa w.heap.size 9 #[.string v] := by rw [hwa]; exact hl.alloc _
  have hr0 : Has wa (w.heap.size + 1) 4 #[.bool false] := by rw [hwa]; exact hr
  have HW := Lib.hid hwa
  clear hwa hl hr
  refine (callsIn_wide (n := 5)).1 ?_
  refine callsIn_of_wp_marks Try.func4 rfl trivial ?_ rfl
  simp only [Try.ntmps4, List.size_toArray, List.length_cons, List.length_nil, Nat.reduceAdd, Nat.reduceSub, Array.replicate_succ, Array.replicate_zero, List.push_toArray, List.append_toArray, List.nil_append, List.cons_append]
  gi_wp2
  rw [← HW.out]
  refine ⟨trivial, (callsIn_wide.2 (examples_c wa)).mono ?_⟩
  rintro e w1 ⟨rfl, hb1⟩
  have hs1 := hb1.size
  have HB1 := Lib.hid hb1
  clear hb1
  gi_wp2
  refine ⟨trivial, (callsIn_wide.2 (S.new_c 32 (by omega) (by omega) w1)).mono ?_⟩
  rintro e w2 ⟨tb, g, am, bm, rfl, T2⟩
  have HT2 := Lib.hid T2
  clear T2
  gi_wp2
  gi_loopw [13] (fun i wr => ∃ (j : Nat) (g cap : Nat) (T : Nat → Option S.Row) (fa : Int → Option Nat) (fb : ByteArray → Option Nat), j ≤ n ∧ i = .int .i64 j ∧ S.TS ⟨w1, fun b => b < w1.heap.size⟩ wr tb g cap am bm 32 j j T fa fb (.slice none 0 0) ∧ SI j T fa fb) (fun i _ => n - (intOf i).toNat)
  case atStart => exact ⟨0, g, 1, _, _, _, by omega, rfl, HT2.out, SI.start⟩
  case round =>
    clear HT2
    obtain ⟨j, g, cap, T, fa, fb, hjn, rfl, T3, I3⟩ := hrel
    have HT := Lib.hid T3
    have HI := Lib.hid I3
    clear T3 I3
    by_cases hlt : j < n
    · have e1 : (j : Int) < (n : Int) := by omega
      have e2 : (0 : Int) ≤ (j : Int) := Int.natCast_nonneg _
      have e3 : (j : Int) < 31 := by omega
      have q1 : IntKind.u8.wrap (j : Int) = (j : Int) := by unfold IntKind.wrap; simp [IntKind.signed, IntKind.bits]; omega
      have cv := conv1 wr j (by omega)
      have T4 := HT.out.grow ((Below.refl _ _).alloc (Nat.le_refl _) (.cells #[.int .u8 (j : Int)] 5))
      have PN := Lib.hid (S.put_new T4 (j : Int) (nb j) so (wfs _ (by omega) (by omega)) (by show (1 : Nat) ≤ maxLen; unfold maxLen; omega) (by rw [HI.out.a, if_neg (by omega)]) (HI.out.b j (Nat.le_refl _) (by omega)) (by omega) (by omega) (by omega))
      clear T4
      gi_wp2
      refine ⟨trivial, (callsIn_wide.2 PN.out).mono ?_⟩
      rintro e w4 ⟨g2, cap2, rfl, T4⟩
      gi_wp2
      go_roundw
      case rel => exact ⟨j + 1, g2, cap2, _, _, _, by omega, rfl, T4, HI.out.put (by omega)⟩
      case measure => simp [intOf]; omega
    · obtain rfl : j = n := by omega
      have e1 : ¬ ((j : Int) < (j : Int)) := by omega
      obtain ⟨kb, hkb⟩ : ∃ kb, kb = wr.heap.size := ⟨_, rfl⟩
      obtain ⟨wk, hwk⟩ : ∃ wk, wk = wr.alloc (.cells #[.int .i64 (k : Int)] 3) := ⟨_, rfl⟩
      have bk : Below wr.heap.size wr wk := by rw [hwk]; exact (Below.refl _ _).alloc (Nat.le_refl _) _
      have sk : wk.heap.size = kb + 1 := by rw [hwk, hkb]; simp
      have tl : tb < kb := by rw [hkb]; exact HT.out.head.lt
      have gl : g < kb := by rw [hkb]; exact HT.out.rows.lt
      have al : am < kb := by rw [hkb]; exact HT.out.alt
      have bl : bm < kb := by rw [hkb]; exact HT.out.blt
      have zz := HT.out.z
      simp only [Nat.not_lt] at zz
      have TK : S.TS ⟨wk, fun b => b < kb + 1 ∧ b ≠ tb ∧ b ≠ g ∧ b ≠ am ∧ b ≠ bm⟩ wk tb g cap am bm 32 j j T fa fb (.slice none 0 0) :=
        HT.out.move (Y := fun _ => False) (Chg.of_below bk) ⟨fun h => h, fun h => h, fun h => h, fun h => h⟩ (fun b h => by omega) ⟨by omega, by omega, by omega, by omega⟩
      have kk0 : ∀ b, b < wa.heap.size → wk.heap[b]? = wa.heap[b]? := fun b hb => (bk.block b (by have := HT.out.bel.size; simp at this; omega)).trans ((HT.out.bel.block b (by show b < w1.heap.size; omega)).trans (HB1.out.block b hb))
      have kv : Has wk w.heap.size 9 #[.string v] := (kk0 _ (by omega)).trans hv0
      have kr : Has wk (w.heap.size + 1) 4 #[.bool false] := (kk0 _ (by omega)).trans hr0
      have kc : Has wk kb 3 #[.int .i64 (k : Int)] := by rw [hwk, hkb]; exact Has.new wr _ _
      have B0 : Below w.heap.size w wk := hb0.trans ((HB1.out.trans (((HT.out.bel.below (fun b hb => hb)).mono hs1).trans (bk.mono (by have := HT.out.bel.size; simp at this; omega)))).mono (by omega))
      have hrk : T (k + 1) = some ⟨(k : Int), nb k, so⟩ := by rw [HI.out.r, if_pos (by omega)]; simp
      have SY := Lib.hid (S.set_yes TK (k + 1) _ v hrk)
      have HTK := Lib.hid TK
      have HKC := Lib.hid (And.intro kv (And.intro kr kc))
      have cv := kv.cell 0
      have cc := kc.cell 0
      simp at cv cc
      have hws : w.heap.size + 1 < kb := by have := HT.out.bel.size; simp at this; omega
      have e5 : (k : Int) < 31 := by omega
      have e6 : (0 : Int) ≤ (k : Int) := Int.natCast_nonneg _
      have HWK := Lib.hid hwk
      rw [hwk] at cv cc
      clear TK kv kr kc kk0 hwk bk
      gi_wp2
      rw [← HWK.out]
      subst hkb
      clear cv cc
      refine ⟨trivial, (callsIn_wide.2 SY.out).mono ?_⟩
      rintro e w3 ⟨rfl, T3⟩
      have kp := T3.bel
      have g3 : ∀ b, b < wr.heap.size + 1 → b ≠ tb → b ≠ g → b ≠ am → b ≠ bm → w3.heap[b]? = wk.heap[b]? := fun b h1 h2 h3 h4 h5 => kp.block b ⟨h1, h2, h3, h4, h5⟩
      have hs3 := kp.size
      simp only at hs3
      have hw1w := HB1.out.size
      have kv3 : Has w3 w.heap.size 9 #[.string v] := (g3 _ (by omega) (by omega) (by omega) (by omega) (by omega)).trans HKC.out.1
      have kr3 : Has w3 (w.heap.size + 1) 4 #[.bool false] := (g3 _ (by omega) (by omega) (by omega) (by omega) (by omega)).trans HKC.out.2.1
      have kc3 : Has w3 wr.heap.size 3 #[.int .i64 (k : Int)] := (g3 _ (by omega) (by omega) (by omega) (by omega) (by omega)).trans HKC.out.2.2
      have B3 : Below w.heap.size w w3 := B0.trans (kp.below (fun b hb => ⟨by omega, by omega, by omega, by omega, by omega⟩))
      have BA : Hid (Calls Try.prog 19 #[.pointer (some ⟨tb, 0, none⟩), .int .i64 (k : Int)] w3 fun e w' => e = .returned (.tuple #[.int .i64 ((k : Int) + 1), .bool true]) ∧ w3 = w') := by
        have := S.byA_c T3 (k : Int) (wfs _ (by omega) (by omega))
        rw [HI.out.a, if_pos (by omega)] at this
        exact Lib.hid (by simpa [S.vA] using this)
      have hr1 : S.setR T (k + 1) (some ⟨(k : Int), nb k, v⟩) (k + 1) = some ⟨(k : Int), nb k, v⟩ := by simp [S.setR]
      have GA : Hid (Calls Try.prog 20 #[.pointer (some ⟨tb, 0, none⟩), .int .i64 ((k : Int) + 1)] w3 fun e w' => e = .returned (.tuple #[.string v, .bool true]) ∧ w3 = w') := by
        have := S.get_yes T3 (k + 1) _ hr1
        exact Lib.hid (by simpa [S.vV] using this)
      have GH : Hid (Calls Try.prog 20 #[.pointer (some ⟨tb, 0, none⟩), .int .i64 h] w3 fun e w' => ∃ val, e = .returned (.tuple #[val, .bool (decide (1 ≤ h) && decide (h ≤ (j : Int)))]) ∧ w3 = w') := by
        by_cases hh : 1 ≤ h ∧ h ≤ (j : Int)
        · obtain ⟨hn, rfl⟩ : ∃ hn : Nat, h = (hn : Int) := ⟨h.toNat, by omega⟩
          have hsm : ∃ r, S.setR T (k + 1) (some ⟨(k : Int), nb k, v⟩) hn = some r := by
            unfold S.setR
            split
            · exact ⟨_, rfl⟩
            · rw [HI.out.r, if_pos (by omega)]; exact ⟨_, rfl⟩
          obtain ⟨r, hr⟩ := hsm
          refine (S.get_yes T3 hn r hr).mono ?_
          rintro e w' ⟨rfl, rfl⟩
          refine ⟨S.vV r.v, ?_, rfl⟩
          rw [decide_eq_true hh.1, decide_eq_true hh.2]
          rfl
        · refine (S.get_no T3 h (by omega)).mono ?_
          rintro e w' ⟨rfl, rfl⟩
          refine ⟨S.zV, ?_, rfl⟩
          have : (decide (1 ≤ h) && decide (h ≤ (j : Int))) = false := by simp; omega
          rw [this]
      have HT3 := Lib.hid T3
      have cv := kv3.cell 0
      have cc := kc3.cell 0
      simp at cv cc
      clear T3 kp
      gi_wp2
      refine ⟨trivial, (callsIn_wide.2 BA.out).mono ?_⟩
      rintro e w3' ⟨rfl, rfl⟩
      gi_wp2
      refine ⟨trivial, (callsIn_wide.2 GA.out).mono ?_⟩
      rintro e w3' ⟨rfl, rfl⟩
      gi_wp2
      refine ⟨trivial, (callsIn_wide.2 GH.out).mono ?_⟩
      rintro e w3' ⟨val, rfl, rfl⟩
      gi_wp2
      refine ⟨trivial, (callsIn_wide.2 (S.all_c _ _)).mono ?_⟩
      rintro e w7 ⟨rfl, rfl⟩
      gi_wp2
      obtain ⟨ab, hab⟩ : ∃ ab, ab = w3.heap.size := ⟨_, rfl⟩
      obtain ⟨wz, hwz⟩ : ∃ wz, wz = (w3.alloc (.cells #[.int .i64 0] 3)).alloc (.cells #[.pointer (some ⟨tb, 0, none⟩)] 42) := ⟨_, rfl⟩
      have b6 : Below w3.heap.size w3 wz := by rw [hwz]; exact ((Below.refl _ _).alloc (Nat.le_refl _) _).alloc (by simp) _
      have sz : wz.heap.size = ab + 2 := by rw [hwz, hab]; simp
      have TZ := HT3.out.grow b6
      have M1 : Has wz ab 3 #[.int .i64 0] := by rw [hwz, hab]; exact (Has.new w3 _ _).alloc _
      have X1 : Has wz (ab + 1) 42 #[.pointer (some ⟨tb, 0, none⟩)] := by
        rw [hwz, hab]
        have := Has.new (w3.alloc (.cells #[.int .i64 0] 3)) #[.pointer (some ⟨tb, 0, none⟩)] 42
        simpa using this
      have hka : wr.heap.size < ab := by omega
      have hgl : g < ab ∧ am < ab ∧ bm < ab ∧ tb < ab := by
        have q1 := HT3.out.rows.lt
        have q2 := HT3.out.alt
        have q3 := HT3.out.blt
        omega
      have kvz : Has wz w.heap.size 9 #[.string v] := (b6.block _ (by omega)).trans kv3
      have krz : Has wz (w.heap.size + 1) 4 #[.bool false] := (b6.block _ (by omega)).trans kr3
      have kcz : Has wz wr.heap.size 3 #[.int .i64 (k : Int)] := (b6.block _ (by omega)).trans kc3
      have BZ : Below w.heap.size w wz := B3.trans (b6.mono (by omega))
      rw [← hab, ← hwz]
      have hL : S.hs (S.setR T (k + 1) (some ⟨(k : Int), nb k, v⟩)) (j + 1) = (List.range j).map (· + 1) := by
        refine shs_full ?_ j (fun i h1 h2 => ?_)
        · unfold S.setR
          rw [if_neg (by omega), HI.out.r, if_neg (by omega)]
        · unfold S.setR
          by_cases e : i = k + 1
          · rw [if_pos e]; rfl
          · rw [if_neg e, HI.out.r, if_pos ⟨h1, h2⟩]; rfl
      have hfl : ∀ p, p < j → S.fld (S.setR T (k + 1) (some ⟨(k : Int), nb k, v⟩) (p + 1)) 2 = .string (if p = k then v else ⟨#[111, 108, 100]⟩) := fun p hp => by
        by_cases e : p = k
        · subst e; rw [hr1, if_pos rfl]; rfl
        · unfold S.setR
          rw [if_neg (by omega), HI.out.r, if_pos (by omega), if_neg e]
          rfl
      have SQ := S.all_seq (ab + 1) (fun b => b < ab + 2 ∧ b ≠ ab) X1 TZ.mem ⟨by omega, by omega⟩ ⟨by omega, by omega⟩ ⟨by omega, by omega⟩
      rw [hL] at SQ
      have HTZ := Lib.hid TZ
      have HSQ := Lib.hid SQ
      have HB := Lib.hid (And.intro kvz (And.intro krz (And.intro kcz BZ)))
      have hW2 : w.heap.size + 1 < ab := by omega
      clear hwz hab TZ b6 X1 HT3 SQ BA GA GH kv3 kr3 kc3 cv cc HKC HTK SY g3 B3 kvz krz kcz HWK HT
      refine wp_rangeN (gf := 41) (lb := #[.pointer (some ⟨ab + 1, 0, none⟩)]) rfl (enters_of Try.func41 (by kernel_rfl) rfl) HSQ.out (Below.refl _ _) (fun b h => by omega) (fun _ => rfl)
        (fun pre X => Has X ab 3 #[.int .i64 (pre.length : Int)] ∧ KZ (fun b => b < ab + 2 ∧ b ≠ ab) wz X ∧ Below w.heap.size w X ∧ pre.length ≤ k)
        (fun c pre X => c = .exit 2 ∧ Has X ab 3 #[.int .i64 ((k : Int) + 1)] ∧ KZ (fun b => b < ab + 2 ∧ b ≠ ab) wz X ∧ Below w.heap.size w X)
        (fun s X Y row hs hg hr => ⟨at_less hs.1 hg hr (by omega), ⟨Nat.le_trans hs.2.1.size hg.size, fun k hk hz => (hg.block k (Nat.lt_of_lt_of_le hk hs.2.1.size) (fun e => by have := (hr k e.symm).1; omega)).trans (hs.2.1.block k hk hz)⟩, ownFrom_below (β := List Nat) (Nat.le_refl _) (by omega) s X Y row hs.2.2.1 hg hr, hs.2.2.2⟩)
        (fun c s X Y row hs hg hr => ⟨hs.1, at_less hs.2.1 hg hr (by omega), ⟨Nat.le_trans hs.2.2.1.size hg.size, fun k hk hz => (hg.block k (Nat.lt_of_lt_of_le hk hs.2.2.1.size) (fun e => by have := (hr k e.symm).1; omega)).trans (hs.2.2.1.block k hk hz)⟩, ownFrom_below (β := List Nat) (Nat.le_refl _) (by omega) s X Y row hs.2.2.2 hg hr⟩)
        ⟨M1, KZ.refl _ _, HB.out.2.2.2, Nat.zero_le _⟩ ?round ?done ?stop
      case round =>
        intro l m pre x X0 hpre
        obtain ⟨rfl, hlt⟩ := pre_at hpre
        obtain ⟨p, hp⟩ : ∃ p, p = pre.length := ⟨_, rfl⟩
        have hf := hfl p (by omega)
        dsimp only
        rw [← hp]
        rw [hf]
        have hpk0 : (0 : Int) ≤ (p : Int) := Int.natCast_nonneg _
        have hp31 : (p : Int) < 31 := by omega
        have hcs : ((p + 1 : Nat) : Int) = (p : Int) + 1 := by omega
        rw [hcs]
        have HPP := Lib.hid hp
        clear hp
        by_cases he : p = k
        · rw [if_pos he]
          have hek : (p : Int) = (k : Int) := by omega
          gi_wp2
          refine ⟨trivial, ?_⟩
          clear X0
          rintro X ⟨hm, hz, hb, hle⟩
          have c0 := hm.cell 0
          have f0 := hm.free 0
          have ck := Has.cell ((hz.block _ (by omega) ⟨by omega, by omega⟩).trans HB.out.2.2.1 : Has X wr.heap.size 3 #[.int .i64 (k : Int)]) 0
          have cv := Has.cell ((hz.block _ (by omega) ⟨by omega, by omega⟩).trans HB.out.1 : Has X w.heap.size 9 #[.string v]) 0
          simp at c0 ck cv
          have HP := Lib.hid (And.intro HPP.out (And.intro he (And.intro hm (And.intro hz hb))))
          clear hpre hlt hm hz hb hle

          by_cases hvo : v = ⟨#[111, 108, 100]⟩
          all_goals
            gi_wp2
          all_goals
            have hmx := HP.out.2.2.1.set 0 (.int .i64 ((k : Int) + 1))
            refine ⟨(KZ.refl _ X).set (by omega) 0 _, rfl, ?_, HP.out.2.2.2.1.set (by omega) 0 _, HP.out.2.2.2.2.setCell (p := ⟨ab, 0, none⟩) (show w.heap.size ≤ ab by omega) _⟩
            simpa using hmx
        · rw [if_neg he]
          have hek : ¬ (p : Int) = (k : Int) := by omega
          gi_wp2
          refine ⟨trivial, ?_⟩
          clear X0
          rintro X ⟨hm, hz, hb, hle⟩
          have c0 := hm.cell 0
          have f0 := hm.free 0
          have ck := Has.cell ((hz.block _ (by omega) ⟨by omega, by omega⟩).trans HB.out.2.2.1 : Has X wr.heap.size 3 #[.int .i64 (k : Int)]) 0
          have cv := Has.cell ((hz.block _ (by omega) ⟨by omega, by omega⟩).trans HB.out.1 : Has X w.heap.size 9 #[.string v]) 0
          simp at c0 ck cv
          have HP := Lib.hid (And.intro HPP.out (And.intro he (And.intro hm (And.intro hz (And.intro hb hle)))))
          clear hpre hlt hm hz hb hle
          gi_wp2
          all_goals
            have hmx := HP.out.2.2.1.set 0 (.int .i64 ((p : Int) + 1))
            have hp := HP.out.1
            have he := HP.out.2.1
            have hle := HP.out.2.2.2.2.2
            refine ⟨(KZ.refl _ X).set (by omega) 0 _, ?_, HP.out.2.2.2.1.set (by omega) 0 _, HP.out.2.2.2.2.1.setCell (p := ⟨ab, 0, none⟩) (show w.heap.size ≤ ab by omega) _, by simp; omega⟩
            simpa [← hp] using hmx
      case done =>
        rintro D X hD ⟨hm, hz, hb, hle⟩ hK
        simp at hle
        omega
      case stop =>
        rintro D c pre X hD hp ⟨rfl, hm, hz, hb⟩ hK
        have c0 := hm.cell 0
        have ck := Has.cell ((hz.block _ (by omega) ⟨by omega, by omega⟩).trans HB.out.2.2.1 : Has X wr.heap.size 3 #[.int .i64 (k : Int)]) 0
        have cv := Has.cell ((hz.block _ (by omega) ⟨by omega, by omega⟩).trans HB.out.1 : Has X w.heap.size 9 #[.string v]) 0
        have hrX : Has X (w.heap.size + 1) 4 #[.bool false] := (hz.block _ (by omega) ⟨by omega, by omega⟩).trans HB.out.2.1
        have cr := hrX.cell 0
        have fr := hrX.free 0
        simp at c0 ck cv cr
        have cg : Chg (fun b => b = ab) wz X := ⟨hb.os.trans HB.out.2.2.2.os.symm, hb.tape.trans HB.out.2.2.2.tape.symm, hb.output.trans HB.out.2.2.2.output.symm, hz.size, fun i hi hn => hz.block i hi ⟨by omega, hn⟩⟩
        have TX : S.TS ⟨X, fun _ => False⟩ X tb g cap am bm 32 j j _ _ _ _ := HTZ.out.move cg ⟨by omega, by omega, by omega, by omega⟩ (fun b h => h.elim) ⟨fun h => h, fun h => h, fun h => h, fun h => h⟩
        have LC := Lib.hid (S.len_c TX)
        have HBX := Lib.hid (And.intro hb hrX)
        clear TX cg hb hrX
        have wfin : w.heap.size ≤ wz.heap.size := by omega
        by_cases z1 : 1 ≤ h
        · by_cases z2 : h ≤ (j : Int)
          all_goals
            gi_wp2
            refine ⟨trivial, (callsIn_wide.2 LC.out).mono ?_⟩
            rintro e w9 ⟨rfl, rfl⟩
            gi_wp2
            have hK' := (KeepsOthers.setCell X ⟨w.heap.size + 1, 0, none⟩ (.bool true)).same D _ hK rfl
            refine ⟨by simp, .inl ⟨_, _, rfl, run_takeDeferred hK', ?_⟩⟩
            have hc5 := cell_kept (World.cell?_setCell_same' X ⟨w.heap.size + 1, 0, none⟩ (.bool true) (by rw [cr]; rfl)) (grownBy_putObj' _ D (.deferred none)) (fun r e => by cases e; exact ⟨_, hK', rfl⟩)
            refine ⟨.bool true, ?_, rfl, (HBX.out.1.setCell (p := ⟨w.heap.size + 1, 0, none⟩) (show w.heap.size ≤ w.heap.size + 1 by omega) _).trans (belowK_b (w := wz) wfin _ D _ _ hD hK' rfl rfl)⟩
            simp [results, Try.f4, go_sem, hc5]
        · gi_wp2
          refine ⟨trivial, (callsIn_wide.2 LC.out).mono ?_⟩
          rintro e w9 ⟨rfl, rfl⟩
          gi_wp2
          have hK' := (KeepsOthers.setCell X ⟨w.heap.size + 1, 0, none⟩ (.bool true)).same D _ hK rfl
          refine ⟨by simp, .inl ⟨_, _, rfl, run_takeDeferred hK', ?_⟩⟩
          have hc5 := cell_kept (World.cell?_setCell_same' X ⟨w.heap.size + 1, 0, none⟩ (.bool true) (by rw [cr]; rfl)) (grownBy_putObj' _ D (.deferred none)) (fun r e => by cases e; exact ⟨_, hK', rfl⟩)
          refine ⟨.bool true, ?_, rfl, (HBX.out.1.setCell (p := ⟨w.heap.size + 1, 0, none⟩) (show w.heap.size ≤ w.heap.size + 1 by omega) _).trans (belowK_b (w := wz) wfin _ D _ _ hD hK' rfl rfl)⟩
          simp [results, Try.f4, go_sem, hc5]
theorem sets_w {w : World} (mn : Int) (h1 : (Lit.int .u8 mn).wf = true) (wh : Int) (h2 : (Lit.int .u8 wh).wf = true) (h : Int) (_ : (Lit.int .i64 h).wf = true) (v : ByteArray) (_ : v.size ≤ maxLen) : Calls Try.prog 4 #[.int .u8 mn, .int .u8 wh, .int .i64 h, .string v] w fun e w' => e = .returned (.bool true) ∧ Below w.heap.size w w' :=
  sets_c mn wh h v w (wf_u8 h1).1 (wf_u8 h1).2 (wf_u8 h2).1 (wf_u8 h2).2
end Go.Proofs.Ytckbffbjdcnklaa
