/- The walk of TwinFinds. -/
import Derived.Test.YtckbffbjdcnklaaFL
import Derived.Deep.DeepCutAuto
import Derived.Deep.RegionHeld
namespace Go.Proofs.Ytckbffbjdcnklaa
open Go.RowKit
set_option linter.unusedSimpArgs false
set_option linter.unusedVariables false

theorem F.TS.move {w0 : Base} {w w' : World} {tb g cap am bm room m cnt : Nat} {R : Nat → Option F.Row} {fa : Int → Option Nat} {fb : ByteArray → Option Nat} {fr : Value} (h : F.TS w0 w tb g cap am bm room m cnt R fa fb fr) {S Z : Nat → Prop} (c : Chg S w w') (n : ¬ S tb ∧ ¬ S g ∧ ¬ S am ∧ ¬ S bm) (hz : ∀ b, Z b → b < w'.heap.size) (n2 : ¬ Z tb ∧ ¬ Z g ∧ ¬ Z am ∧ ¬ Z bm) : F.TS ⟨w', Z⟩ w' tb g cap am bm room m cnt R fa fb fr := by
  obtain ⟨MA, q1, q2⟩ := h.ma
  obtain ⟨MB, q3, q4⟩ := h.mb
  exact ⟨(c.block _ h.head.lt n.1).trans h.head, h.rows.of_block (c.block _ h.rows.lt n.2.1), ⟨MA, q1.of_block (c.block _ q1.lt n.2.2.1), q2⟩, ⟨MB, q3.of_block (c.block _ q3.lt n.2.2.2), q4⟩, h.coA, h.coB, h.okR, h.ne, n2, Keeps.refl _ hz, h.hm, h.hc, h.hr⟩
/-- The law's state between two rounds. -/
structure FS (w : World) (s hb : Nat) (z : List Int) (tb j n : Nat) (hd : Nat → Option Nat) : Prop where
  ts : ∃ g cap am bm R fa fb, F.TS ⟨w, fun b => b < s ∨ b = hb⟩ w tb g cap am bm 64 n n R fa fb (.slice none 0 0) ∧ FI j z hd R fa fb
  hm : HM w hb n hd
  nj : n ≤ j
set_option maxRecDepth 100000 in
set_option maxHeartbeats 6400000 in
theorem finds_c (a : Option Addr) (len cap0 : Nat) (z : List Int) (wh : Int) (w : World) (hin : IsInts .u16 w a len z) (hw0 : 0 ≤ wh) (hw1 : wh ≤ 255) :
    Calls Try.prog 3 #[.slice a len cap0, .int .u8 wh] w fun e w' => e = .returned (.bool true) ∧ Below w.heap.size w w' := by
  have HI := Lib.hid hin
  have hmm := @run_makeMap Try.prog
  clear hin
  go_enter Try.func3, Try.ntmps3
  go_wp2_with fail
  refine (examples_c w).mono ?_
  rintro e w1 ⟨rfl, hb1⟩
  have hs1 := hb1.size
  have HB1 := Lib.hid hb1
  clear hb1
  go_wp2_with fail
  refine (F.new_c 64 (by omega) (by omega) w1).mono ?_
  rintro e w2 ⟨tb, g, am, bm, rfl, T2⟩
  have hsz2 := T2.bel.size
  have zz2 := T2.z
  simp at zz2 hsz2
  have S3 : FS (w2.alloc (.map #[] 0)) w1.heap.size w2.heap.size z tb 0 0 (fun _ => none) := by
    have t3 := T2.grow ((Below.refl _ _).alloc (Nat.le_refl _) (.map #[] 0))
    have l1 := T2.head.lt
    have l2 := T2.rows.lt
    have l3 := T2.alt
    have l4 := T2.blt
    refine ⟨⟨g, 1, am, bm, _, _, _, F.TS.rebase t3 _ (fun b hb => by simp; omega) (by simp; omega), ⟨fun _ _ => rfl, fun _ _ => rfl, fun _ _ => rfl, fun h r e => (by cases e), fun i hi => (by omega)⟩⟩, ⟨_, GMap.made Try.prog w2 28, fun x _ => rfl⟩, Nat.le_refl _⟩
  have B3 : Below w.heap.size w (w2.alloc (.map #[] 0)) := (HB1.out.trans ((T2.bel.below (fun b hb => hb)).mono hs1)).alloc (by omega) _
  clear T2 zz2
  obtain ⟨hb, hhb⟩ : ∃ hb, hb = w2.heap.size := ⟨_, rfl⟩
  rw [← hhb] at S3
  have HHB := Lib.hid hhb
  go_wp2_with fail
  rw [← hhb]
  have hbw : w.heap.size ≤ hb := by omega
  clear hhb
  go_loopw [9, 10] (fun n i wr => ∃ (j nn : Nat) (hd : Nat → Option Nat), j ≤ 40 ∧ j ≤ len ∧ i = .int .i64 j ∧ n = .int .i64 nn ∧ FS wr w1.heap.size hb z tb j nn hd ∧ Below w.heap.size w wr) (fun _ i _ => 40 - (intOf i).toNat)
  case atStart => exact ⟨0, 0, _, by omega, by omega, rfl, rfl, S3, B3⟩
  case round =>
    clear S3 B3
    obtain ⟨j, nn, hd, hj, hjl, rfl, rfl, S4, B4⟩ := hrel
    by_cases hgo : j < len ∧ j < 40
    · obtain ⟨hlt, h40⟩ := hgo
      have hj1 : (j : Int) < (len : Int) := by omega
      have hj2 : (j : Int) < 40 := by omega
      have hj0 : (0 : Int) ≤ (j : Int) := Int.natCast_nonneg _
      rcases HI.out with ⟨h0, _⟩ | ⟨bb, off, rfl, hbl, hzl, hm', hc, hr⟩
      · omega
      have HC : Hid (∀ W : World, Below w.heap.size w W → W.cell? ⟨bb, off + j, none⟩ = some (.int .u16 (z.getD j 0))) := fun W hB => (hB.cell (p := ⟨bb, off + j, none⟩) hbl).trans (hc j hlt)
      obtain ⟨v0, v1⟩ := wf_u16 (hr j hlt)
      obtain ⟨x, hx⟩ : ∃ x : Nat, z.getD j 0 = (x : Int) := ⟨(z.getD j 0).toNat, by omega⟩
      rw [hx] at v0 v1 HC
      have HZX := Lib.hid hx
      have hx16 : x < 65536 := by omega
      have c5 := HC.out wr B4
      clear hc hr hx
      obtain ⟨lo, hlo⟩ : ∃ lo : Nat, lo = x % 256 := ⟨_, rfl⟩
      obtain ⟨hi, hhi⟩ : ∃ hi : Nat, hi = x / 256 := ⟨_, rfl⟩
      have CV : Hid (∀ W : World, W.heap[W.heap.size - 1]? = some (.cells #[.int .u8 (lo : Int), .int .u8 (hi : Int)] 5 (0, 0)) → ∀ b, b = W.heap.size - 1 → (convert 33 9 (.slice (some ⟨b, 0, none⟩) 2 2)).run Try.prog W = .ok (.string (nm x)) W) := fun W h b hb => by
        rw [hlo, hhi] at h
        exact conv2 W x hx16 h b hb
      have q1 : IntKind.u8.wrap (x : Int) = (lo : Int) := by unfold IntKind.wrap; simp [IntKind.signed, IntKind.bits]; omega
      have q2 : (x : Int) / 256 = (hi : Int) := by omega
      have q3 : IntKind.u8.wrap (hi : Int) = (hi : Int) := by unfold IntKind.wrap; simp [IntKind.signed, IntKind.bits]; omega
      have cv := CV.out ((wr.alloc (.cells #[.int .u8 (lo : Int), .int .u8 (hi : Int)] 5)).drew) (by
        have := Has.new wr #[.int .u8 (lo : Int), .int .u8 (hi : Int)] 5
        show (wr.alloc (.cells #[.int .u8 (lo : Int), .int .u8 (hi : Int)] 5)).heap[(wr.alloc (.cells #[.int .u8 (lo : Int), .int .u8 (hi : Int)] 5)).heap.size - 1]? = _
        have e : (wr.alloc (.cells #[.int .u8 (lo : Int), .int .u8 (hi : Int)] 5)).heap.size - 1 = wr.heap.size := by simp
        rw [e]
        exact this) wr.heap.size (by show _ = (wr.alloc (.cells #[.int .u8 (lo : Int), .int .u8 (hi : Int)] 5)).heap.size - 1; simp)
      have B5 : Below w.heap.size w ((wr.alloc (.cells #[.int .u8 (lo : Int), .int .u8 (hi : Int)] 5)).drew) := (B4.alloc B4.size _).drew
      have HLX := Lib.hid hlo
      have HHX := Lib.hid hhi
      clear hlo hhi
      obtain ⟨⟨g4, cap4, am4, bm4, R, fa, fb, T4, FI4⟩, HM4, hnj⟩ := S4
      have T5 := (T4.grow ((Below.refl _ _).alloc (Nat.le_refl _) (.cells #[.int .u8 (lo : Int), .int .u8 (hi : Int)] 5))).grow ((Below.refl _ _).drew)
      have kA : F.okA (x : Int) := wf16 x hx16
      have kB : F.okB (nm x) := by show (2 : Nat) ≤ maxLen; unfold maxLen; omega
      have KK := Lib.hid (And.intro kA kB)
      have HFI := Lib.hid FI4
      have HT5 := Lib.hid T5
      have HT4 := Lib.hid T4
      have HB5 := Lib.hid B5
      clear kA kB FI4 T5 T4
      have HM5 := Lib.hid ((HM4.kept (w' := (wr.alloc (.cells #[.int .u8 (lo : Int), .int .u8 (hi : Int)] 5)).drew) (((Below.refl _ wr).alloc (Nat.le_refl _) _).drew.block _ HM4.lt)))
      cases hdx : hd x with
      | some k =>
        have HDX := Lib.hid hdx
        have PO := Lib.hid (F.put_old HT5.out (x : Int) (nm x) (j : Int) KK.out.1 KK.out.2 (.inl (by rw [HFI.out.a x hx16, HDX.out]; rfl)))
        have hlk := HM5.out.look x hx16
        rw [hdx] at hlk
        simp only [Option.getD_some, Option.isSome_some] at hlk
        have cx := HC.out ((wr.alloc (.cells #[.int .u8 (lo : Int), .int .u8 (hi : Int)] 5)).drew) HB5.out
        clear hdx HM4
        go_wp2_with fail
        go_region_held (fun W => W.cell? ⟨bb, off + j, none⟩ = some (.int .u16 (x : Int))) (first | exact c5 | exact HC.out _ HB5.out) (first | (go_at_call 9; refine (PO.out).mono ?_; rintro e w' ⟨rfl, rfl⟩))
        all_goals
          go_wp2_with fail
          have FIN : FS ((wr.alloc (.cells #[.int .u8 (lo : Int), .int .u8 (hi : Int)] 5)).drew) w1.heap.size hb z tb (j + 1) nn hd := by
            have zz := HT5.out.z
            refine ⟨⟨g4, cap4, am4, bm4, R, fa, fb, F.TS.move HT5.out (Chg.refl (fun _ => False) _) ⟨fun h => h, fun h => h, fun h => h, fun h => h⟩ (fun b hb => ?_) zz, HFI.out.more (by rw [HZX.out]; simp [HDX.out])⟩, HM5.out, by omega⟩
            have := HM5.out.lt
            have := HT5.out.bel.size
            have := B5.size
            have q := HT4.out.bel.zlt b hb
            simp at *
            omega
          exact ⟨⟨j + 1, nn, hd, by omega, by omega, rfl, rfl, FIN, HB5.out⟩, by simp [intOf]; omega⟩
      | none =>
        have HDX := Lib.hid hdx
        have HMr := Lib.hid HM5.out
        have PN : Hid (Calls Try.prog 9 #[.pointer (some ⟨tb, 0, none⟩), .int .u16 (x : Int), .string (nm x), .int .i64 (j : Int)] ((wr.alloc (.cells #[.int .u8 (lo : Int), .int .u8 (hi : Int)] 5)).drew) fun e w' => ∃ w7, e = .returned (.tuple #[.int .i64 ((nn : Int) + 1), .int .i64 0]) ∧ Below w.heap.size w w' ∧ (Instr.lookup 29 (.map (some hb)) (.int .u16 (x : Int)) true).run Try.prog w' = .ok (.tuple #[.int .i64 0, .bool false]) w' ∧ (Instr.mapUpdate 29 (.map (some hb)) (.int .u16 (x : Int)) (.int .i64 ((nn : Int) + 1))).run Try.prog w' = .ok () w7 ∧ FS w7 w1.heap.size hb z tb (j + 1) (nn + 1) (updN hd x (some (nn + 1))) ∧ Below w.heap.size w w7) :=
          (F.put_new HT5.out (x : Int) (nm x) (j : Int) KK.out.1 KK.out.2 (by rw [HFI.out.a x hx16, HDX.out]) (by rw [HFI.out.b x hx16, HDX.out]) (by omega) (by omega) (by omega)).mono (by
            rintro e w' ⟨g2, cap2, rfl, T6⟩
            have bk := T6.bel.block hb (.inr rfl)
            have HM6 : HM w' hb nn hd := HM4.kept bk
            have hl := HM6.look x hx16
            rw [HDX.out] at hl
            obtain ⟨w7, hr, HM7, ht⟩ := HM6.put x hx16 (by omega) HDX.out (nn + 1) ((nn : Int) + 1) (by omega)
            have zz := T6.z
            have l1 := T6.head.lt
            have l2 := T6.rows.lt
            have l3 := T6.alt
            have l4 := T6.blt
            have hs7 := turned_size ht
            have BE : Below w.heap.size w w' := B4.trans ((T6.bel.below (fun b hb => .inl hb)).mono hs1)
            refine ⟨w7, rfl, BE, hl, hr, ⟨⟨g2, cap2, am4, bm4, _, _, _, F.TS.move T6 (Chg.turned (S := fun b => b = hb) ht rfl) ⟨fun e => zz.1 (.inr e), fun e => zz.2.1 (.inr e), fun e => zz.2.2.1 (.inr e), fun e => zz.2.2.2 (.inr e)⟩ (fun b hb => by have := HM7.lt; rcases hb with q | q <;> omega) zz, HFI.out.put x (nn + 1) hx16 HZX.out HDX.out⟩, HM7, by omega⟩, BE.trans ((Chg.turned (S := fun b => b = hb) ht rfl).below (fun b e => by omega) BE.size)⟩)
        clear hdx HM4
        go_wp2_with fail
        go_region_held (fun W => W.cell? ⟨bb, off + j, none⟩ = some (.int .u16 (x : Int))) (first | exact c5 | exact HC.out _ (by assumption)) (first | (go_at_call 9; refine (PN.out).mono ?_; rintro e w' ⟨w7, rfl, B6, L6, U6, S7, B7⟩))
        all_goals
          have c6 := HC.out w' B6
          go_wp2_with fail
          exact ⟨⟨j + 1, nn + 1, _, by omega, by omega, rfl, rfl, S7, B7⟩, by simp [intOf]; omega⟩
    · have hx : (j < len ∧ j = 40) ∨ j = len := by omega
      obtain ⟨⟨g4, cap4, am4, bm4, R, fa, fb, T4, FI4⟩, HM4, hnj⟩ := S4
      have HT := Lib.hid T4
      have HFI := Lib.hid FI4
      have HHM := Lib.hid HM4
      clear T4 FI4 HM4
      by_cases h0 : nn = 0
      · subst h0
        have LC := Lib.hid (F.len_c HT.out)
        rcases hx with ⟨q1, q2⟩ | q1
        · have e1 : (j : Int) < (len : Int) := by omega
          have e2 : ¬ (j : Int) < 40 := by omega
          clear q2
          go_wp2_with fail
          refine (LC.out).mono ?_
          rintro e w' ⟨rfl, rfl⟩
          go_wp2
          go_ret
          exact ⟨rfl, B4⟩
        · have e1 : ¬ (j : Int) < (len : Int) := by omega
          go_wp2_with fail
          refine (LC.out).mono ?_
          rintro e w' ⟨rfl, rfl⟩
          go_wp2
          go_ret
          exact ⟨rfl, B4⟩
      · have hjp : 0 < j := by omega
        have j0 : ¬ j = 0 := by omega
        obtain ⟨i, hi⟩ : ∃ i : Nat, wh % (j : Int) = (i : Int) := ⟨(wh % (j : Int)).toNat, by have := Int.emod_nonneg wh (show (j : Int) ≠ 0 by omega); omega⟩
        have hij : i < j := by have := Int.emod_lt_of_pos wh (show (0 : Int) < (j : Int) by omega); omega
        rcases HI.out with ⟨hl0, _⟩ | ⟨bb, off, rfl, hbl, hzl, hm', hc, hr⟩
        · omega
        obtain ⟨v0, v1⟩ := wf_u16 (hr i (by omega))
        obtain ⟨x, hx'⟩ : ∃ x : Nat, z.getD i 0 = (x : Int) := ⟨(z.getD i 0).toNat, by omega⟩
        rw [hx'] at v0 v1
        have hx16 : x < 65536 := by omega
        have hsm := HFI.out.e i hij
        rw [hx'] at hsm
        simp only [Int.toNat_natCast] at hsm
        obtain ⟨k, hk⟩ := Option.isSome_iff_exists.1 hsm
        have kA : F.okA (x : Int) := wf16 x hx16
        have kB : F.okB (nm x) := by show (2 : Nat) ≤ maxLen; unfold maxLen; omega
        have fax : fa (x : Int) = some k := (HFI.out.a x hx16).trans hk
        have fbx : fb (nm x) = some k := (HFI.out.b x hx16).trans hk
        obtain ⟨r, hr1, hr2⟩ := (HT.out.coA (x : Int) k kA).1 fax
        obtain ⟨x2, iv, p1, p2, p3, p4, p5, p6⟩ := HFI.out.d k r hr1
        have hra : r.a = (x : Int) := hr2
        obtain rfl : x2 = x := by rw [hra] at p2; omega
        have HR := Lib.hid hr1
        obtain ⟨_, _, k1, km⟩ := HT.out.okR k r hr1
        have ci : wr.cell? ⟨bb, off + i, none⟩ = some (.int .u16 (x2 : Int)) := by
          have := (B4.cell (p := ⟨bb, off + i, none⟩) hbl).trans (hc i (by omega))
          rwa [hx'] at this
        have HCI := Lib.hid ci
        have CIV : Hid (∀ W : World, Below w.heap.size w W → W.cell? ⟨bb, off + iv, none⟩ = some (.int .u16 (x2 : Int))) := fun W hB => by
          have := (hB.cell (p := ⟨bb, off + iv, none⟩) hbl).trans (hc iv (by omega))
          rwa [p6] at this
        have hil : (i : Int) < (len : Int) := by omega
        have hi0 : (0 : Int) ≤ (i : Int) := Int.natCast_nonneg _
        have hvl : (iv : Int) < (len : Int) := by omega
        have hv0 : (0 : Int) ≤ (iv : Int) := Int.natCast_nonneg _
        have hvn : ¬ (iv : Int) < 0 := by omega
        clear hc hr
        obtain ⟨lo, hlo⟩ : ∃ lo : Nat, lo = x2 % 256 := ⟨_, rfl⟩
        obtain ⟨hi', hhi⟩ : ∃ hi' : Nat, hi' = x2 / 256 := ⟨_, rfl⟩
        have CV : Hid (∀ W : World, (convert 33 9 (.slice (some ⟨W.heap.size, 0, none⟩) 2 2)).run Try.prog (W.alloc (.cells #[.int .u8 (lo : Int), .int .u8 (hi' : Int)] 5)) = .ok (.string (nm x2)) (W.alloc (.cells #[.int .u8 (lo : Int), .int .u8 (hi' : Int)] 5))) := fun W => by
          have h : (W.alloc (.cells #[.int .u8 (lo : Int), .int .u8 (hi' : Int)] 5)).heap[(W.alloc (.cells #[.int .u8 (lo : Int), .int .u8 (hi' : Int)] 5)).heap.size - 1]? = some (.cells #[.int .u8 (lo : Int), .int .u8 (hi' : Int)] 5 (0, 0)) := by
            have e : (W.alloc (.cells #[.int .u8 (lo : Int), .int .u8 (hi' : Int)] 5)).heap.size - 1 = W.heap.size := by simp
            rw [e]
            exact Has.new W #[.int .u8 (lo : Int), .int .u8 (hi' : Int)] 5
          rw [hlo, hhi] at h ⊢
          exact conv2 _ x2 hx16 h W.heap.size (by simp)
        have q1 : IntKind.u8.wrap (x2 : Int) = (lo : Int) := by unfold IntKind.wrap; simp [IntKind.signed, IntKind.bits]; omega
        have q2 : (x2 : Int) / 256 = (hi' : Int) := by omega
        have q3 : IntKind.u8.wrap (hi' : Int) = (hi' : Int) := by unfold IntKind.wrap; simp [IntKind.signed, IntKind.bits]; omega
        clear hlo hhi
        have T5 := HT.out.grow ((Below.refl _ _).alloc (Nat.le_refl _) (.cells #[.int .u8 (lo : Int), .int .u8 (hi' : Int)] 5))
        have HT5 := Lib.hid T5
        have B5 : Below w.heap.size w (wr.alloc (.cells #[.int .u8 (lo : Int), .int .u8 (hi' : Int)] 5)) := B4.alloc B4.size _
        have civ := CIV.out _ B5
        have BA : Hid (Calls Try.prog 11 #[.pointer (some ⟨tb, 0, none⟩), .int .u16 (x2 : Int)] wr fun e w' => e = .returned (.tuple #[.int .i64 (k : Int), .bool true]) ∧ wr = w') := by
          have := F.byA_c HT.out (x2 : Int) kA
          rw [fax] at this
          exact this
        have BB : Hid (Calls Try.prog 12 #[.pointer (some ⟨tb, 0, none⟩), .string (nm x2)] (wr.alloc (.cells #[.int .u8 (lo : Int), .int .u8 (hi' : Int)] 5)) fun e w' => e = .returned (.tuple #[.int .i64 (k : Int), .bool true]) ∧ (wr.alloc (.cells #[.int .u8 (lo : Int), .int .u8 (hi' : Int)] 5)) = w') := by
          have := F.byB_c T5 (nm x2) kB
          rw [fbx] at this
          exact this
        have GY : Hid (Calls Try.prog 13 #[.pointer (some ⟨tb, 0, none⟩), .int .i64 (k : Int)] (wr.alloc (.cells #[.int .u8 (lo : Int), .int .u8 (hi' : Int)] 5)) fun e w' => e = .returned (.tuple #[.int .i64 (iv : Int), .bool true]) ∧ (wr.alloc (.cells #[.int .u8 (lo : Int), .int .u8 (hi' : Int)] 5)) = w') := by
          have := F.get_yes T5 k r hr1
          rw [p4] at this
          exact this
        have LK : (Instr.lookup 29 (.map (some hb)) (.int .u16 (x2 : Int)) false).run Try.prog (wr.alloc (.cells #[.int .u8 (lo : Int), .int .u8 (hi' : Int)] 5)) = .ok (.int .i64 (k : Int)) (wr.alloc (.cells #[.int .u8 (lo : Int), .int .u8 (hi' : Int)] 5)) := by
          have := (HHM.out.kept (w' := wr.alloc (.cells #[.int .u8 (lo : Int), .int .u8 (hi' : Int)] 5)) (((Below.refl _ wr).alloc (Nat.le_refl _) _).block _ HHM.out.lt)).look1 x2 hx16
          rw [hk] at this
          exact this
        have cv := CV.out wr
        have RY : Hid (Calls Try.prog 14 #[.pointer (some ⟨tb, 0, none⟩), .int .i64 (k : Int)] (wr.alloc (.cells #[.int .u8 (lo : Int), .int .u8 (hi' : Int)] 5)) fun e w' => e = .returned (.bool true) ∧
            (Calls Try.prog 11 #[.pointer (some ⟨tb, 0, none⟩), .int .u16 (x2 : Int)] w' fun e w2 => e = .returned (.tuple #[.int .i64 0, .bool false]) ∧ w' = w2) ∧
            (Calls Try.prog 12 #[.pointer (some ⟨tb, 0, none⟩), .string (nm x2)] (w'.alloc (.cells #[.int .u8 (lo : Int), .int .u8 (hi' : Int)] 5)) fun e w2 => e = .returned (.tuple #[.int .i64 0, .bool false]) ∧ (w'.alloc (.cells #[.int .u8 (lo : Int), .int .u8 (hi' : Int)] 5)) = w2) ∧
            (Calls Try.prog 13 #[.pointer (some ⟨tb, 0, none⟩), .int .i64 (k : Int)] (w'.alloc (.cells #[.int .u8 (lo : Int), .int .u8 (hi' : Int)] 5)) fun e w2 => e = .returned (.tuple #[.int .i64 0, .bool false]) ∧ (w'.alloc (.cells #[.int .u8 (lo : Int), .int .u8 (hi' : Int)] 5)) = w2) ∧
            (Calls Try.prog 9 #[.pointer (some ⟨tb, 0, none⟩), .int .u16 (x2 : Int), .string { data := #[97, 110, 111, 116, 104, 101, 114, 32, 111, 110, 101] }, .int .i64 7] (w'.alloc (.cells #[.int .u8 (lo : Int), .int .u8 (hi' : Int)] 5)) fun e w2 => e = .returned (.tuple #[.int .i64 (k : Int), .int .i64 0]) ∧ Below w.heap.size w w2 ∧
              (Calls Try.prog 15 #[.pointer (some ⟨tb, 0, none⟩), .int .i64 ((nn : Int) + 1), .int .i64 5] w2 fun e w3 => e = .returned (.bool false) ∧ w2 = w3) ∧
              (Calls Try.prog 10 #[.pointer (some ⟨tb, 0, none⟩)] w2 fun e w3 => e = .returned (.int .i64 (nn : Int)) ∧ w2 = w3))) :=
          (F.rem_yes T5 k r hr1).mono (by
            rintro e w' ⟨f, capf, rfl, T6, own6, nf, nz⟩
            have T7 := T6.grow ((Below.refl _ _).alloc (Nat.le_refl _) (.cells #[.int .u8 (lo : Int), .int .u8 (hi' : Int)] 5))
            have a1 := F.byA_c T6 (x2 : Int) kA
            have b1 := F.byB_c T7 (nm x2) kB
            have r1 : F.updF fa r.a none (x2 : Int) = none := by rw [hra]; exact F.updF_same _ _ _
            have r2 : F.updF fb r.b none (nm x2) = none := by rw [p3]; exact F.updF_same _ _ _
            have r3 : F.setR R k none k = none := by simp [F.setR]
            rw [r1] at a1
            rw [r2] at b1
            have g1 := F.get_no T7 (k : Int) (.inr (.inr (by simpa using r3)))
            have kC : F.okB ({ data := #[97, 110, 111, 116, 104, 101, 114, 32, 111, 110, 101] } : ByteArray) := by show (11 : Nat) ≤ maxLen; unfold maxLen; omega
            refine ⟨rfl, a1, b1, g1, (F.put_free f capf k T7 (own6.alloc _) nf nz k1 km r3 (x2 : Int) _ 7 kA kC r1 ?_ (by omega) (by omega)).mono ?_⟩
            · rw [F.updF_other _ _ (by rw [p3]; intro q; have := congrArg ByteArray.size q; rw [nm_size] at this; revert this; decide)]
              exact HFI.out.c _ (by decide)
            · rintro e w2 ⟨rfl, T8⟩
              have ec : nn - 1 + 1 = nn := by omega
              rw [ec] at T8
              exact ⟨rfl, B4.trans ((T8.bel.below (fun b hb => .inl hb)).mono hs1), F.set_no T8 ((nn : Int) + 1) 5 (.inr (.inl (by omega))), F.len_c T8⟩)
        have ALT : (j < len ∧ 40 ≤ j ∧ wh % 40 = (i : Int)) ∨ (j = len ∧ wh % (j : Int) = (i : Int) ∧ j ≤ 40) := by
          rcases hx with ⟨a1, a2⟩ | a1
          · subst a2; exact .inl ⟨a1, by omega, hi⟩
          · exact .inr ⟨a1, hi, by omega⟩
        have PK := Lib.hid (And.intro hx' (And.intro hk (And.intro fax (And.intro fbx hr1))))
        clear hx' hk fax fbx hr1 hr2 hra p2 p3 p4 p6 hsm T5 hx HR kA kB hi ci
        rcases ALT with ⟨a1, a2, a3⟩ | ⟨a1, a3, a2⟩
        · have e1 : (j : Int) < (len : Int) := by omega
          have e2 : ¬ (j : Int) < 40 := by omega
          have ci := HCI.out
          have e3 : (40 : Int) < (len : Int) := by omega
          go_wp2_with fail
          refine (BA.out).mono ?_
          rintro e w' ⟨rfl, rfl⟩
          go_wp2_with fail
          refine (BB.out).mono ?_
          rintro e w' ⟨rfl, rfl⟩
          go_wp2_with fail
          refine (GY.out).mono ?_
          rintro e w' ⟨rfl, rfl⟩
          go_wp2_with fail
          refine (RY.out).mono ?_
          rintro e w' ⟨rfl, YA, YB, YG, YP⟩
          have cv' := CV.out w'
          have YA := Lib.hid YA
          have YB := Lib.hid YB
          have YG := Lib.hid YG
          have YP := Lib.hid YP
          go_wp2_with fail
          refine (YA.out).mono ?_
          rintro e w'' ⟨rfl, rfl⟩
          go_wp2_with fail
          refine (YB.out).mono ?_
          rintro e w'' ⟨rfl, rfl⟩
          go_wp2_with fail
          refine (YG.out).mono ?_
          rintro e w'' ⟨rfl, rfl⟩
          go_wp2_with fail
          refine (YP.out).mono ?_
          rintro e w2' ⟨rfl, B8, YS, YL⟩
          have YS := Lib.hid YS
          have YL := Lib.hid YL
          go_wp2_with fail
          refine (YS.out).mono ?_
          rintro e w'' ⟨rfl, rfl⟩
          go_wp2_with fail
          refine (YL.out).mono ?_
          rintro e w'' ⟨rfl, rfl⟩
          go_wp2
          go_ret
          exact ⟨rfl, B8⟩
        · subst a1
          have e1 : ¬ (j : Int) < (j : Int) := by omega
          have e2 : (j : Int) ≤ 40 := by omega
          have ci := HCI.out
          go_wp2_with fail
          refine (BA.out).mono ?_
          rintro e w' ⟨rfl, rfl⟩
          go_wp2_with fail
          refine (BB.out).mono ?_
          rintro e w' ⟨rfl, rfl⟩
          go_wp2_with fail
          refine (GY.out).mono ?_
          rintro e w' ⟨rfl, rfl⟩
          go_wp2_with fail
          refine (RY.out).mono ?_
          rintro e w' ⟨rfl, YA, YB, YG, YP⟩
          have cv' := CV.out w'
          have YA := Lib.hid YA
          have YB := Lib.hid YB
          have YG := Lib.hid YG
          have YP := Lib.hid YP
          go_wp2_with fail
          refine (YA.out).mono ?_
          rintro e w'' ⟨rfl, rfl⟩
          go_wp2_with fail
          refine (YB.out).mono ?_
          rintro e w'' ⟨rfl, rfl⟩
          go_wp2_with fail
          refine (YG.out).mono ?_
          rintro e w'' ⟨rfl, rfl⟩
          go_wp2_with fail
          refine (YP.out).mono ?_
          rintro e w2' ⟨rfl, B8, YS, YL⟩
          have YS := Lib.hid YS
          have YL := Lib.hid YL
          go_wp2_with fail
          refine (YS.out).mono ?_
          rintro e w'' ⟨rfl, rfl⟩
          go_wp2_with fail
          refine (YL.out).mono ?_
          rintro e w'' ⟨rfl, rfl⟩
          go_wp2
          go_ret
          exact ⟨rfl, B8⟩
theorem finds_w (a : Option Addr) (len cap : Nat) {w : World} (hin : ∃ z, IsInts .u16 w a len z) (wh : Int) (hw : (Lit.int .u8 wh).wf = true) : Calls Try.prog 3 #[.slice a len cap, .int .u8 wh] w fun e w' => e = .returned (.bool true) ∧ Below w.heap.size w w' := by
  obtain ⟨z, hin⟩ := hin
  obtain ⟨q1, q2⟩ := wf_u8 hw
  exact finds_c a len cap z wh w hin q1 q2
end Go.Proofs.Ytckbffbjdcnklaa
