/- The services (chapter 19): free, Add. The services (chapter 19): Add. -/
import Derived.Test.YtngdebpaheejlaaGreatDoorZi
import Derived.Test.YtngdebpaheejlaaGreatDoorZc
import Derived.Test.YtngdebpaheejlaaGreatDoorZh
import Derived.Deep.RegionHeld3
import Derived.BigQuiet
namespace Go.Proofs.YtngdebpaheejlaaGreatDoor
open Go.RowKit Go.Shelf
set_option linter.unusedSimpArgs false
set_option linter.unusedVariables false
attribute [local go_sem] Oper.semAt_some
theorem free_c (tb : Nat) (w : World) : Calls Tryz.prog 65 #[.pointer (some ⟨tb, 0, none⟩)] w fun e w' => e = .returned (.func (.func 105) #[] #[.pointer (some ⟨w.heap.size, 0, none⟩)]) ∧ w' = w.alloc (.cells #[.pointer (some ⟨tb, 0, none⟩)] 76) := by
  go_enter Tryz.func65, Tryz.ntmps65
  go_wp2
  go_ret
  exact ⟨rfl, rfl⟩
theorem ownFrom_kept {β : Type} {B : Nat} {I : β → World → Prop} (h : OwnFrom B I) {s : β} {W W' : World} (hs : I s W) (hb : Below W.heap.size W W') : I s W' :=
  h s W W' none hs ⟨hb.os, hb.tape, hb.output, hb.size, fun k hk _ => hb.block k hk⟩ (fun r e => by cases e)
def freeL (m : Nat) : List Int := (List.range (64 - m)).map fun k => ((m + 1 + k : Nat) : Int)
theorem freeL_take (m k : Nat) (h : k < 64 - m) : (freeL m).take k ++ [((m + 1 + k : Nat) : Int)] = (freeL m).take (k + 1) := by
  unfold freeL
  rw [← List.map_take, ← List.map_take, List.take_range, List.take_range, Nat.min_eq_left (by omega), Nat.min_eq_left (by omega), List.range_succ, List.map_append]
  rfl
theorem freeL_all (m : Nat) : (freeL m).take (64 - m) = freeL m := List.take_of_length_le (by simp [freeL])
set_option maxRecDepth 100000 in
set_option maxHeartbeats 3200000 in
theorem free_seq {w : World} (S Z : Nat → Prop) (bx tb mb m : Nat) (hm : m ≤ 3) (hbx : Has w bx 76 #[.pointer (some ⟨tb, 0, none⟩)]) (hT : TblS S w tb mb m) (z1 : Z bx) (hZ : ∀ b, S b → Z b) :
    SeqS Tryz.prog 105 #[.pointer (some ⟨bx, 0, none⟩)] (fun x : Int => #[Value.int .i64 x]) Z (freeL m) w := by
  intro n y B J Jx W hW hB hJ hJx hY h0
  have k0 : KZ Z w W := .of_below hW
  have X0 : Hid (Has W bx 76 #[.pointer (some ⟨tb, 0, none⟩)]) := (k0.block _ hbx.lt z1).trans hbx
  have T0 : Hid (TblS S W tb mb m) := hT.keep (fun b hb hs => k0.block b hb (hZ b hs))
  clear hW hJx hbx hT k0
  refine callsIn_wide.2 (callsIn_wide (n := 5) |>.1 ?_)
  refine callsIn_of_wp Tryz.func105 rfl trivial ?_ rfl
  simp only [Tryz.ntmps105, List.size_toArray, List.length_cons, List.length_nil, Nat.reduceAdd, Nat.reduceSub, Array.replicate_succ, Array.replicate_zero, List.push_toArray, List.append_toArray, List.nil_append, List.cons_append]
  gi_wp2
  gi_loopw [3, 4, 5] (fun p _ _ wr => ∃ (k : Nat), p = .int .i64 k ∧ 1 ≤ k ∧ k ≤ 65 ∧ J ((freeL m).take (k - 1 - m)) wr ∧ KZ Z W wr) (fun p _ _ _ => 65 - (intOf p).toNat)
  case atStart => exact ⟨1, rfl, by omega, by omega, by simpa using h0, KZ.refl _ _⟩
  case round =>
    clear h0
    obtain ⟨k, rfl, hk1, hk, hJ1, hK⟩ := hrel
    have X1 : Has wr bx 76 #[.pointer (some ⟨tb, 0, none⟩)] := (hK.block _ X0.out.lt z1).trans X0.out
    have T1 : TblS S wr tb mb m := T0.out.keep (fun b hb hs => hK.block b hb (hZ b hs))
    have x0 := X1.cell 0
    simp at x0
    by_cases hlt : k ≤ 64
    · have h1 : (k : Int) ≤ 64 := by omega
      by_cases hkm : k ≤ m
      · obtain rfl | rfl | rfl : k = 1 ∨ k = 2 ∨ k = 3 := by omega
        · have HG := Lib.hid (sget1_c S tb mb m hkm wr T1)
          clear X1 hY T1 hlt hk1 hk
          gi_wp2
          refine ⟨trivial, (callsIn_wide.2 HG.out).mono ?_⟩
          rintro e w1 ⟨rfl, hb1⟩
          have J2 : J ((freeL m).take (1 + 1 - 1 - m)) (w1.alloc (.cells #[.int .i64 6, .int .u32 100, .int .i64 80, .bool false, .int .u32 200] 63)) := by
            rw [show 1 + 1 - 1 - m = 1 - 1 - m by omega]
            exact hJ.alloc _ (ownFrom_kept hJ hJ1 hb1)
          gi_wp2
          refine ⟨fun f h => (by cases h), ?_⟩
          gi_wp2
          go_roundw
          case rel => exact ⟨1 + 1, rfl, by omega, by omega, J2, (hK.grow hb1).grow ((Below.refl _ _).alloc (Nat.le_refl _) _)⟩
          case measure => simp [intOf]
        · have HG := Lib.hid (sget2_c S tb mb m hkm wr T1)
          clear X1 hY T1 hlt hk1 hk
          gi_wp2
          refine ⟨trivial, (callsIn_wide.2 HG.out).mono ?_⟩
          rintro e w1 ⟨rfl, hb1⟩
          have J2 : J ((freeL m).take (2 + 1 - 1 - m)) (w1.alloc (.cells #[.int .i64 17, .int .u32 100, .int .i64 53, .bool false, .int .u32 200] 63)) := by
            rw [show 2 + 1 - 1 - m = 2 - 1 - m by omega]
            exact hJ.alloc _ (ownFrom_kept hJ hJ1 hb1)
          gi_wp2
          refine ⟨fun f h => (by cases h), ?_⟩
          gi_wp2
          go_roundw
          case rel => exact ⟨2 + 1, rfl, by omega, by omega, J2, (hK.grow hb1).grow ((Below.refl _ _).alloc (Nat.le_refl _) _)⟩
          case measure => simp [intOf]
        · have HG := Lib.hid (sget3_c S tb mb m hkm wr T1)
          clear X1 hY T1 hlt hk1 hk
          gi_wp2
          refine ⟨trivial, (callsIn_wide.2 HG.out).mono ?_⟩
          rintro e w1 ⟨rfl, hb1⟩
          have J2 : J ((freeL m).take (3 + 1 - 1 - m)) (w1.alloc (.cells #[.int .i64 6, .int .u32 101, .int .i64 80, .bool true, .int .u32 0] 63)) := by
            rw [show 3 + 1 - 1 - m = 3 - 1 - m by omega]
            exact hJ.alloc _ (ownFrom_kept hJ hJ1 hb1)
          gi_wp2
          refine ⟨fun f h => (by cases h), ?_⟩
          gi_wp2
          go_roundw
          case rel => exact ⟨3 + 1, rfl, by omega, by omega, J2, (hK.grow hb1).grow ((Below.refl _ _).alloc (Nat.le_refl _) _)⟩
          case measure => simp [intOf]
      · have HG := Lib.hid (sget_no S tb mb m k (by omega) hlt wr T1)
        have hpp : (freeL m).take (k - 1 - m) ++ [(k : Int)] <+: freeL m := by
          have e : (k : Int) = ((m + 1 + (k - 1 - m) : Nat) : Int) := by omega
          rw [e, freeL_take m (k - 1 - m) (by omega)]
          exact List.take_prefix _ _
        have HTK : Hid ((freeL m).take (k - 1 - m) ++ [(k : Int)] = (freeL m).take (k + 1 - 1 - m)) := by
          have e : (k : Int) = ((m + 1 + (k - 1 - m) : Nat) : Int) := by omega
          show _ = _
          rw [e, freeL_take m (k - 1 - m) (by omega), show k - 1 - m + 1 = k + 1 - 1 - m by omega]
        clear X1 T1
        gi_wp2
        refine ⟨trivial, (callsIn_wide.2 HG.out).mono ?_⟩
        rintro e w1 ⟨rfl, hb1⟩
        have J2 : J ((freeL m).take (k - 1 - m)) (w1.alloc (.cells #[.int .i64 0, .int .u32 0, .int .i64 0, .bool false, .int .u32 0] 63)) := hJ.alloc _ (ownFrom_kept hJ hJ1 hb1)
        obtain ⟨fn, tmps, assign, body, hy, hR⟩ := hY 4 _ _ _ J2 hpp
        clear hY
        gi_wp2
        refine hR.mono ?_
        rintro e W3 (⟨rfl, hk3, hJ3⟩ | ⟨rfl, hk3, hJx3⟩)
        · gi_wp2
          go_roundw
          case rel => exact ⟨k + 1, by go_num, by omega, by omega, by rw [← HTK.out]; exact hJ3, ((hK.grow hb1).grow ((Below.refl _ _).alloc (Nat.le_refl _) _)).trans hk3.kz⟩
          case measure => simp [intOf]; omega
        · gi_wp2
          refine bodyPost_ret (results_none rfl _ _ _) rfl ?_
          exact ⟨⟨_, rfl⟩, .inr ⟨_, hpp, hJx3⟩⟩
    · have h1 : ¬ (k : Int) ≤ 64 := by omega
      have hk65 : k - 1 - m = 64 - m := by omega
      rw [hk65, freeL_all] at hJ1
      have HJ := Lib.hid hJ1
      clear hk65
      gi_wp2
      go_end0
      exact ⟨⟨_, rfl⟩, .inl HJ.out⟩
end Go.Proofs.YtngdebpaheejlaaGreatDoor
namespace Go.Proofs.YtngdebpaheejlaaGreatDoor
open Go.RowKit Go.Shelf
set_option linter.unusedSimpArgs false
set_option linter.unusedVariables false
attribute [local go_sem] Oper.semAt_some
theorem Has.nl {w : World} {b : Nat} {t : TypeId} {xs : Array Value} (h : Has w b t xs) {o : Obj} (ho : w.heap[b]? = some o) : loopy o = false := by
  unfold Has at h
  rw [h] at ho
  cases ho
  rfl
theorem KMap.nl {S : Nat → Prop} {w : World} {K : TypeId} {b n : Nat} {g : Value → Option Value} (h : KMap S w K b n g) {o : Obj} (ho : w.heap[b]? = some o) : loopy o = false := by
  obtain ⟨s, M, ⟨D, ⟨es, clock, hb, r⟩, q⟩, h2⟩ := h
  rw [hb] at ho
  cases ho
  rfl
set_option maxRecDepth 100000 in
set_option maxHeartbeats 3200000 in
theorem sadd1_t (S : Nat → Prop) (tb mb : Nat) (w : World) (hS : ∀ b, S b → b < w.heap.size) (h : TblS S w tb mb 0) :
    Calls Tryz.prog 34 #[.pointer (some ⟨tb, 0, none⟩), .agg #[.int .i64 6, .int .u32 100, .int .i64 80, .bool false, .int .u32 200]] w fun e w' => e = .returned (.tuple #[.int .i64 1, .int .i64 0]) ∧ TblS S w' tb mb 1 ∧ Chg S w w' := by
  have HR := Lib.hid sright1_c
  have HF := Lib.hid (free_c tb)
  have h0 := Lib.hid h
  have tl : tb < w.heap.size := hS _ h.own
  clear h
  refine (callsIn_wide (n := 5)).1 ?_
  refine callsIn_of_wp_marks Tryz.func34 rfl trivial ?_ rfl
  simp only [Tryz.ntmps34, List.size_toArray, List.length_cons, List.length_nil, Nat.reduceAdd, Nat.reduceSub, Array.replicate_succ, Array.replicate_zero, List.push_toArray, List.append_toArray, List.nil_append, List.cons_append]
  refine wpIn_wide.2 ?_
  go_wp2_with fail
  have hX1 : Has ((((((w).alloc (.cells #[.pointer (some ⟨tb, 0, none⟩)] 76)).alloc (.cells #[.int .i64 6, .int .u32 100, .int .i64 80, .bool false, .int .u32 200] 63)).alloc (.cells #[.int .i64 0] 3)).alloc (.cells #[.int .i64 0] 26)).alloc (.cells #[.int .i64 6, .int .u32 100, .int .i64 80] 193)) (w.heap.size + 0) 76 #[.pointer (some ⟨tb, 0, none⟩)] := ((((Has.new w _ _).alloc _).alloc _).alloc _).alloc _
  have hV1 : Has ((((((w).alloc (.cells #[.pointer (some ⟨tb, 0, none⟩)] 76)).alloc (.cells #[.int .i64 6, .int .u32 100, .int .i64 80, .bool false, .int .u32 200] 63)).alloc (.cells #[.int .i64 0] 3)).alloc (.cells #[.int .i64 0] 26)).alloc (.cells #[.int .i64 6, .int .u32 100, .int .i64 80] 193)) (w.heap.size + 1) 63 #[.int .i64 6, .int .u32 100, .int .i64 80, .bool false, .int .u32 200] := (((has_made (by simp)).alloc _).alloc _).alloc _
  have hI1 : Has ((((((w).alloc (.cells #[.pointer (some ⟨tb, 0, none⟩)] 76)).alloc (.cells #[.int .i64 6, .int .u32 100, .int .i64 80, .bool false, .int .u32 200] 63)).alloc (.cells #[.int .i64 0] 3)).alloc (.cells #[.int .i64 0] 26)).alloc (.cells #[.int .i64 6, .int .u32 100, .int .i64 80] 193)) (w.heap.size + 2) 3 #[.int .i64 0] := ((has_made (by simp)).alloc _).alloc _
  have hE1 : Has ((((((w).alloc (.cells #[.pointer (some ⟨tb, 0, none⟩)] 76)).alloc (.cells #[.int .i64 6, .int .u32 100, .int .i64 80, .bool false, .int .u32 200] 63)).alloc (.cells #[.int .i64 0] 3)).alloc (.cells #[.int .i64 0] 26)).alloc (.cells #[.int .i64 6, .int .u32 100, .int .i64 80] 193)) (w.heap.size + 3) 26 #[.int .i64 0] := (has_made (by simp)).alloc _
  have hK1 : Has ((((((w).alloc (.cells #[.pointer (some ⟨tb, 0, none⟩)] 76)).alloc (.cells #[.int .i64 6, .int .u32 100, .int .i64 80, .bool false, .int .u32 200] 63)).alloc (.cells #[.int .i64 0] 3)).alloc (.cells #[.int .i64 0] 26)).alloc (.cells #[.int .i64 6, .int .u32 100, .int .i64 80] 193)) (w.heap.size + 4) 193 #[.int .i64 6, .int .u32 100, .int .i64 80] := has_made (by simp)
  have hb1 : Below w.heap.size w ((((((w).alloc (.cells #[.pointer (some ⟨tb, 0, none⟩)] 76)).alloc (.cells #[.int .i64 6, .int .u32 100, .int .i64 80, .bool false, .int .u32 200] 63)).alloc (.cells #[.int .i64 0] 3)).alloc (.cells #[.int .i64 0] 26)).alloc (.cells #[.int .i64 6, .int .u32 100, .int .i64 80] 193)) := (((((Below.refl w.heap.size w).alloc (Nat.le_refl _) _).alloc (by simp) _).alloc (by simp; omega) _).alloc (by simp; omega) _).alloc (by simp; omega) _
  have hT1 := h0.out.keep (KeepM.below hb1)
  have z1 : (((((((w).alloc (.cells #[.pointer (some ⟨tb, 0, none⟩)] 76)).alloc (.cells #[.int .i64 6, .int .u32 100, .int .i64 80, .bool false, .int .u32 200] 63)).alloc (.cells #[.int .i64 0] 3)).alloc (.cells #[.int .i64 0] 26)).alloc (.cells #[.int .i64 6, .int .u32 100, .int .i64 80] 193))).heap.size = w.heap.size + 5 := by simp
  obtain ⟨w1, hw⟩ : ∃ W, W = ((((((w).alloc (.cells #[.pointer (some ⟨tb, 0, none⟩)] 76)).alloc (.cells #[.int .i64 6, .int .u32 100, .int .i64 80, .bool false, .int .u32 200] 63)).alloc (.cells #[.int .i64 0] 3)).alloc (.cells #[.int .i64 0] 26)).alloc (.cells #[.int .i64 6, .int .u32 100, .int .i64 80] 193)) := ⟨_, rfl⟩
  rw [← hw] at hX1 hV1 hI1 hE1 hK1 hb1 hT1 z1 ⊢
  obtain ⟨bx, hbx⟩ : ∃ b, b = w.heap.size := ⟨_, rfl⟩
  have HS := Lib.hid hS
  rw [← hbx] at hX1 hV1 hI1 hE1 hK1 hb1 z1 hS tl ⊢
  have HBX := Lib.hid hbx
  clear hw hbx h0
  simp only [Nat.add_assoc, Nat.reduceAdd, Nat.add_zero] at hX1 ⊢
  have KA : Hid (∀ W, Below w1.heap.size w1 W → W.cell? ⟨bx, 0, none⟩ = some (.pointer (some ⟨tb, 0, none⟩)) ∧ W.cell? ⟨tb, 325, none⟩ = some (.map (some mb)) ∧ W.cell? ⟨bx + 4, 0, none⟩ = some (.int .i64 6) ∧ W.cell? ⟨bx + 4, 1, none⟩ = some (.int .u32 100) ∧ W.cell? ⟨bx + 4, 2, none⟩ = some (.int .i64 80) ∧ (Instr.lookup 174 (.map (some mb)) (.agg #[.int .i64 6, .int .u32 100, .int .i64 80]) true).run Tryz.prog W = .ok (.tuple #[.int .i64 0, .bool false]) W) := fun W hW => by
    obtain ⟨_, ⟨cells, r1, r2, r3, r4⟩, ⟨n, g, k1, k2, k3⟩⟩ := hT1.keep (KeepM.below hW)
    exact ⟨((hX1.below hW).cell 0).trans rfl, (r1.cell 325).trans r3, ((hK1.below hW).cell 0).trans rfl, ((hK1.below hW).cell 1).trans rfl, ((hK1.below hW).cell 2).trans rfl, k1.look_ok keyed193 Tryz.underlying174 zero3w (svcKey 1) keyOf1 _ _ (by rw [k3 1 (by decide) (by decide)]; rfl) (by rw [k3 1 (by decide) (by decide)]; rfl)⟩
  go_region_held3 (fun W => W.cell? ⟨bx, 0, none⟩ = some (.pointer (some ⟨tb, 0, none⟩)) ∧ W.cell? ⟨tb, 325, none⟩ = some (.map (some mb)) ∧ W.cell? ⟨bx + 4, 0, none⟩ = some (.int .i64 6) ∧ W.cell? ⟨bx + 4, 1, none⟩ = some (.int .u32 100) ∧ W.cell? ⟨bx + 4, 2, none⟩ = some (.int .i64 80) ∧ (Instr.lookup 174 (.map (some mb)) (.agg #[.int .i64 6, .int .u32 100, .int .i64 80]) true).run Tryz.prog W = .ok (.tuple #[.int .i64 0, .bool false]) W) (first | exact KA.out _ ((Below.refl _ _).drew)) (fail)
  have hX2 := hX1.drew
  have hV2 := hV1.drew
  have hI2 := hI1.drew
  have hE2 := hE1.drew
  have hK2 := hK1.drew
  have hb2 := hb1.drew
  have hT2 : TblS S w1.drew tb mb 0 := hT1.keep (fun _ _ _ => rfl)
  have z2 : w1.drew.heap.size = bx + 5 := z1
  clear hX1 hV1 hI1 hE1 hK1 hb1 hT1 z1 KA
  generalize w1.drew = w2 at hX2 hV2 hI2 hE2 hK2 hb2 hT2 z2 ⊢
  have v0 := hV2.cell 0
  have v1 := hV2.cell 1
  have v2 := hV2.cell 2
  have v3 := hV2.cell 3
  have v4 := hV2.cell 4
  simp at v0 v1 v2 v3 v4
  go_wp2_with fail
  refine (HR.out _).mono ?_
  rintro e w3 ⟨rfl, b3⟩
  have hX3 := hX2.below b3
  have hV3 := hV2.below b3
  have hI3 := hI2.below b3
  have hE3 := hE2.below b3
  have hK3 := hK2.below b3
  have hb3 := hb2.trans (b3.mono (by omega))
  have hT3 := hT2.keep (KeepM.below b3)
  have z3 : bx + 5 ≤ w3.heap.size := by have := b3.size; omega
  have x0 := hX3.cell 0
  simp at x0
  clear hX2 hV2 hI2 hE2 hK2 hb2 hT2 z2 b3 v0 v1 v2 v3 v4
  go_wp2_with fail
  refine (HF.out _).mono ?_
  rintro e w4 ⟨rfl, rfl⟩
  obtain ⟨fb, hfb⟩ : ∃ b, b = w3.heap.size := ⟨_, rfl⟩
  have hXz := hX3.alloc (.cells #[.pointer (some ⟨tb, 0, none⟩)] 76)
  have hVz := hV3.alloc (.cells #[.pointer (some ⟨tb, 0, none⟩)] 76)
  have hIz := hI3.alloc (.cells #[.pointer (some ⟨tb, 0, none⟩)] 76)
  have hEz := hE3.alloc (.cells #[.pointer (some ⟨tb, 0, none⟩)] 76)
  have hKz := hK3.alloc (.cells #[.pointer (some ⟨tb, 0, none⟩)] 76)
  have hbz := hb3.alloc (by omega) (.cells #[.pointer (some ⟨tb, 0, none⟩)] 76)
  have hTz := hT3.keep (KeepM.alloc _ _ (.cells #[.pointer (some ⟨tb, 0, none⟩)] 76))
  have hBz : Has (w3.alloc (.cells #[.pointer (some ⟨tb, 0, none⟩)] 76)) fb 76 #[.pointer (some ⟨tb, 0, none⟩)] := has_made hfb
  have zz : (w3.alloc (.cells #[.pointer (some ⟨tb, 0, none⟩)] 76)).heap.size = fb + 1 := by simp; omega
  have hf5 : bx + 5 ≤ fb := by omega
  go_wp2_with fail
  try rw [← hfb]
  obtain ⟨wz, hw⟩ : ∃ W, W = (w3.alloc (.cells #[.pointer (some ⟨tb, 0, none⟩)] 76)) := ⟨_, rfl⟩
  rw [← hw] at hXz hVz hIz hEz hKz hbz hTz hBz zz ⊢
  clear hw hX3 hV3 hI3 hE3 hK3 hb3 hT3 z3 x0 hfb
  have SQ := free_seq (w := wz) S (fun b => b < fb + 1) fb tb mb 0 (by decide) hBz hTz (by omega) (fun b hb => by have := hS b hb; omega)
  have hMlt : mb < wz.heap.size := by obtain ⟨_, _, ⟨n, g, k1, _⟩⟩ := hTz; exact k1.lt
  have sm : S mb := by obtain ⟨_, _, ⟨n, g, k1, _⟩⟩ := hTz; exact k1.1
  have st := hTz.own
  refine (wpIn_wide (n := 5)).1 ?_
  refine wp_rangeS (gf := 105) (lb := #[.pointer (some ⟨fb, 0, none⟩)]) rfl (enters_of Tryz.func105 (by kernel_rfl) rfl) SQ (Below.refl _ _) (fun b h => by have h' : b < fb + 1 := h; omega) (fun _ => rfl)
    (fun pre X => pre = [] ∧ Below wz.heap.size wz X)
    (fun c pre X => c = .ret ∧ Chg (fun b => S b ∨ b = bx + 2 ∨ b = bx + 3) wz X ∧ Has X (bx + 2) 3 #[.int .i64 1] ∧ Has X (bx + 3) 26 #[.int .i64 0] ∧ TblS S X tb mb 1)
    (fun s X Y row hs hg hr => ⟨hs.1, ownFrom_below (β := List Int) (Nat.le_refl _) (Nat.le_refl _) s X Y row hs.2 hg hr⟩)
    (fun c s X Y row hs hg hr => ⟨hs.1, hs.2.1.grownRow (Nat.le_refl _) hg hr, at_less hs.2.2.1 hg hr (by omega), at_less hs.2.2.2.1 hg hr (by omega), hs.2.2.2.2.keep (fun b hb hs' => hg.block b hb (fun e => by have := (hr b e.symm).1; have := hS b hs'; omega))⟩)
    ⟨rfl, Below.refl _ _⟩ ?_ ?_ ?_
  · intro y lm pre x X0 hpre
    gi_wp2
    refine ⟨trivial, ?_⟩
    clear X0
    rintro X ⟨rfl, hX⟩
    obtain rfl : x = 1 := by
      obtain ⟨r, hr⟩ := hpre
      have := congrArg List.head? hr
      simp [freeL] at this
      simpa [List.range_succ_eq_map] using this
    have hXx := hXz.below hX
    have hVx := hVz.below hX
    have hIx := hIz.below hX
    have hEx := hEz.below hX
    have hKx := hKz.below hX
    have hTx := hTz.keep (KeepM.below hX)
    obtain ⟨so, ⟨cells, r1, r2, r3, r4⟩, ⟨nn, g, k1, k2, k3⟩⟩ := hTx
    have q0 : ∀ V : Gr X, V.1.cell? ⟨bx, 0, none⟩ = some (.pointer (some ⟨tb, 0, none⟩)) := fun V => ((V.has hXx).cell 0).trans rfl
    have q1 : ∀ V : Gr X, V.1.cell? ⟨tb, 325, none⟩ = some (.map (some mb)) := fun V => ((V.has r1).cell 325).trans r3
    have q40 : ∀ V : Gr X, V.1.cell? ⟨bx + 4, 0, none⟩ = some (.int .i64 6) := fun V => ((V.has hKx).cell 0).trans rfl
    have q41 : ∀ V : Gr X, V.1.cell? ⟨bx + 4, 1, none⟩ = some (.int .u32 100) := fun V => ((V.has hKx).cell 1).trans rfl
    have q42 : ∀ V : Gr X, V.1.cell? ⟨bx + 4, 2, none⟩ = some (.int .i64 80) := fun V => ((V.has hKx).cell 2).trans rfl
    have q10 : ∀ V : Gr X, V.1.cell? ⟨bx + 1, 0, none⟩ = some (.int .i64 6) := fun V => ((V.has hVx).cell 0).trans rfl
    have q11 : ∀ V : Gr X, V.1.cell? ⟨bx + 1, 1, none⟩ = some (.int .u32 100) := fun V => ((V.has hVx).cell 1).trans rfl
    have q12 : ∀ V : Gr X, V.1.cell? ⟨bx + 1, 2, none⟩ = some (.int .i64 80) := fun V => ((V.has hVx).cell 2).trans rfl
    have q13 : ∀ V : Gr X, V.1.cell? ⟨bx + 1, 3, none⟩ = some (.bool false) := fun V => ((V.has hVx).cell 3).trans rfl
    have q14 : ∀ V : Gr X, V.1.cell? ⟨bx + 1, 4, none⟩ = some (.int .u32 200) := fun V => ((V.has hVx).cell 4).trans rfl
    gi_wp2
    obtain ⟨V, hVX⟩ : ∃ V : Gr X, V.1 = X.drew := ⟨⟨X.drew, (Below.refl _ _).drew⟩, rfl⟩
    have hS0 : (fun W : World => W.cell? ⟨bx, 0, none⟩ = some (.pointer (some ⟨tb, 0, none⟩)) ∧ W.cell? ⟨tb, 325, none⟩ = some (.map (some mb)) ∧ W.cell? ⟨bx + 4, 0, none⟩ = some (.int .i64 6) ∧ W.cell? ⟨bx + 4, 1, none⟩ = some (.int .u32 100) ∧ W.cell? ⟨bx + 4, 2, none⟩ = some (.int .i64 80) ∧ W.cell? ⟨bx + 1, 0, none⟩ = some (.int .i64 6) ∧ W.cell? ⟨bx + 1, 1, none⟩ = some (.int .u32 100) ∧ W.cell? ⟨bx + 1, 2, none⟩ = some (.int .i64 80) ∧ W.cell? ⟨bx + 1, 3, none⟩ = some (.bool false) ∧ W.cell? ⟨bx + 1, 4, none⟩ = some (.int .u32 200)) X.drew := ⟨hVX ▸ q0 V, hVX ▸ q1 V, hVX ▸ q40 V, hVX ▸ q41 V, hVX ▸ q42 V, hVX ▸ q10 V, hVX ▸ q11 V, hVX ▸ q12 V, hVX ▸ q13 V, hVX ▸ q14 V⟩
    have hmo : Tryz.prog.follows .mixedOrders = true := by kernel_rfl
    refine wpIn_region_any hmo ?_
    change wpAnyIn _ _ _ _ _ _ _ _ _ (World.drew _)
    refine any_round (F := Fence.wide) (by kernel_rfl) _ _ _ _ (anyIn_of_any (by kernel_rfl) (by rintro ⟨_, _, h⟩; exact h) _ _ _ _ (wpAny_of_held (S := fun W : World => W.cell? ⟨bx, 0, none⟩ = some (.pointer (some ⟨tb, 0, none⟩)) ∧ W.cell? ⟨tb, 325, none⟩ = some (.map (some mb)) ∧ W.cell? ⟨bx + 4, 0, none⟩ = some (.int .i64 6) ∧ W.cell? ⟨bx + 4, 1, none⟩ = some (.int .u32 100) ∧ W.cell? ⟨bx + 4, 2, none⟩ = some (.int .i64 80) ∧ W.cell? ⟨bx + 1, 0, none⟩ = some (.int .i64 6) ∧ W.cell? ⟨bx + 1, 1, none⟩ = some (.int .u32 100) ∧ W.cell? ⟨bx + 1, 2, none⟩ = some (.int .i64 80) ∧ W.cell? ⟨bx + 1, 3, none⟩ = some (.bool false) ∧ W.cell? ⟨bx + 1, 4, none⟩ = some (.int .u32 200)) _ _ _ _ ?_))
    clear q0 q1 q40 q41 q42 q10 q11 q12 q13 q14 hVX V
    refine wpAnyH_take (i := 0) (v := .pointer (some ⟨tb, 0, none⟩)) rfl (by kernel_rfl) (by kernel_rfl) (by kernel_rfl) (fun _ _ _ h => h) (Or.inl ⟨by rfl, ?_⟩) hS0 ?_
    · rintro W0 ⟨s0, s1, s40, s41, s42, s10, s11, s12, s13, s14⟩
      go_simp
    refine wpAnyH_take (i := 1) (v := .int .i64 1) rfl (by kernel_rfl) (by kernel_rfl) (by kernel_rfl) (fun _ _ _ h => h) (Or.inl ⟨by rfl, ?_⟩) hS0 ?_
    · rintro W0 ⟨s0, s1, s40, s41, s42, s10, s11, s12, s13, s14⟩
      go_simp
    refine wpAnyH_take (i := 2) (v := .pointer (some ⟨tb, 0, none⟩)) rfl (by kernel_rfl) (by kernel_rfl) (by kernel_rfl) (fun _ _ _ h => h) (Or.inl ⟨by rfl, ?_⟩) hS0 ?_
    · rintro W0 ⟨s0, s1, s40, s41, s42, s10, s11, s12, s13, s14⟩
      go_simp
    refine wpAnyH_take (i := 3) (v := .pointer (some ⟨tb, 0, none⟩)) rfl (by kernel_rfl) (by kernel_rfl) (by kernel_rfl) (fun _ _ _ h => h) (Or.inl ⟨by rfl, ?_⟩) hS0 ?_
    · rintro W0 ⟨s0, s1, s40, s41, s42, s10, s11, s12, s13, s14⟩
      go_simp
    refine wpAnyH_take (i := 4) (v := .pointer (some ⟨tb, 325, none⟩)) rfl (by kernel_rfl) (by kernel_rfl) (by kernel_rfl) (fun _ _ _ h => h) (Or.inl ⟨by rfl, ?_⟩) hS0 ?_
    · rintro W0 ⟨s0, s1, s40, s41, s42, s10, s11, s12, s13, s14⟩
      go_simp
    refine wpAnyH_take (i := 5) (v := .map (some mb)) rfl (by kernel_rfl) (by kernel_rfl) (by kernel_rfl) (fun _ _ _ h => h) (Or.inl ⟨by rfl, ?_⟩) hS0 ?_
    · rintro W0 ⟨s0, s1, s40, s41, s42, s10, s11, s12, s13, s14⟩
      go_simp
    refine wpAnyH_take (i := 6) (v := .agg #[.int .i64 6, .int .u32 100, .int .i64 80]) rfl (by kernel_rfl) (by kernel_rfl) (by kernel_rfl) (fun _ _ _ h => h) (Or.inl ⟨by rfl, ?_⟩) hS0 ?_
    · rintro W0 ⟨s0, s1, s40, s41, s42, s10, s11, s12, s13, s14⟩
      go_simp
    refine wpAnyH_take (i := 7) (v := .agg #[.int .i64 6, .int .u32 100, .int .i64 80, .bool false, .int .u32 200]) rfl (by kernel_rfl) (by kernel_rfl) (by kernel_rfl) (fun _ _ _ h => h) (Or.inl ⟨by rfl, ?_⟩) hS0 ?_
    · rintro W0 ⟨s0, s1, s40, s41, s42, s10, s11, s12, s13, s14⟩
      go_simp
    refine wpAnyH_take (i := 8) (v := .int .i64 1) rfl (by kernel_rfl) (by kernel_rfl) (by kernel_rfl) (fun _ _ _ h => h) (Or.inl ⟨by rfl, ?_⟩) hS0 ?_
    · rintro W0 ⟨s0, s1, s40, s41, s42, s10, s11, s12, s13, s14⟩
      go_simp
    refine wpAnyH_take (i := 9) (v := .pointer (some ⟨tb, 0, none⟩)) rfl (by kernel_rfl) (by kernel_rfl) (by kernel_rfl) (fun _ _ _ h => h) (Or.inl ⟨by rfl, ?_⟩) hS0 ?_
    · rintro W0 ⟨s0, s1, s40, s41, s42, s10, s11, s12, s13, s14⟩
      go_simp
    refine wpAnyH_take (i := 10) (v := .pointer (some ⟨tb, 0, none⟩)) rfl (by kernel_rfl) (by kernel_rfl) (by kernel_rfl) (fun _ _ _ h => h) (Or.inl ⟨by rfl, ?_⟩) hS0 ?_
    · rintro W0 ⟨s0, s1, s40, s41, s42, s10, s11, s12, s13, s14⟩
      go_simp
    refine wpAnyH_take (i := 11) (v := .pointer (some ⟨tb, 5, none⟩)) rfl (by kernel_rfl) (by kernel_rfl) (by kernel_rfl) (fun _ _ _ h => h) (Or.inl ⟨by rfl, ?_⟩) hS0 ?_
    · rintro W0 ⟨s0, s1, s40, s41, s42, s10, s11, s12, s13, s14⟩
      go_simp
    have tlx := r1.lt
    have u0 : X.cell? ⟨tb, 5, none⟩ = some (.int .i64 0) := (r1.cell 5).trans (r4 1 0 (by decide) (by decide))
    have fu0 : X.frozen? ⟨tb, 5, none⟩ = false := r1.free 5
    have u1 : X.cell? ⟨tb, 6, none⟩ = some (.int .u32 0) := (r1.cell 6).trans (r4 1 1 (by decide) (by decide))
    have fu1 : X.frozen? ⟨tb, 6, none⟩ = false := r1.free 6
    have u2 : X.cell? ⟨tb, 7, none⟩ = some (.int .i64 0) := (r1.cell 7).trans (r4 1 2 (by decide) (by decide))
    have fu2 : X.frozen? ⟨tb, 7, none⟩ = false := r1.free 7
    have u3 : X.cell? ⟨tb, 8, none⟩ = some (.bool false) := (r1.cell 8).trans (r4 1 3 (by decide) (by decide))
    have fu3 : X.frozen? ⟨tb, 8, none⟩ = false := r1.free 8
    have u4 : X.cell? ⟨tb, 9, none⟩ = some (.int .u32 0) := (r1.cell 9).trans (r4 1 4 (by decide) (by decide))
    have fu4 : X.frozen? ⟨tb, 9, none⟩ = false := r1.free 9
    refine wpAnyH_ready (rs := [12]) (by kernel_rfl) (by simp) (AllReadyH.cons rfl (fun K hK => ?_) AllReadyH.nil)
    go_simp
    have y0 := ((((((hXx).setOther (c := tb) 5 (by omega) (.int .i64 6)).setOther (c := tb) 6 (by omega) (.int .u32 100)).setOther (c := tb) 7 (by omega) (.int .i64 80)).setOther (c := tb) 8 (by omega) (.bool false)).setOther (c := tb) 9 (by omega) (.int .u32 200)).drew
    have y1 := ((((((hVx).setOther (c := tb) 5 (by omega) (.int .i64 6)).setOther (c := tb) 6 (by omega) (.int .u32 100)).setOther (c := tb) 7 (by omega) (.int .i64 80)).setOther (c := tb) 8 (by omega) (.bool false)).setOther (c := tb) 9 (by omega) (.int .u32 200)).drew
    have y2 := ((((((hIx).setOther (c := tb) 5 (by omega) (.int .i64 6)).setOther (c := tb) 6 (by omega) (.int .u32 100)).setOther (c := tb) 7 (by omega) (.int .i64 80)).setOther (c := tb) 8 (by omega) (.bool false)).setOther (c := tb) 9 (by omega) (.int .u32 200)).drew
    have y3 := ((((((hEx).setOther (c := tb) 5 (by omega) (.int .i64 6)).setOther (c := tb) 6 (by omega) (.int .u32 100)).setOther (c := tb) 7 (by omega) (.int .i64 80)).setOther (c := tb) 8 (by omega) (.bool false)).setOther (c := tb) 9 (by omega) (.int .u32 200)).drew
    have y4 := ((((((hKx).setOther (c := tb) 5 (by omega) (.int .i64 6)).setOther (c := tb) 6 (by omega) (.int .u32 100)).setOther (c := tb) 7 (by omega) (.int .i64 80)).setOther (c := tb) 8 (by omega) (.bool false)).setOther (c := tb) 9 (by omega) (.int .u32 200)).drew
    have yT := ((((((r1).set 5 (.int .i64 6)).set 6 (.int .u32 100)).set 7 (.int .i64 80)).set 8 (.bool false)).set 9 (.int .u32 200)).drew
    have yC := (((((((Chg.refl (fun b => b = tb ∨ b = mb ∨ b = bx + 2 ∨ b = bx + 3) X)).set (b := tb) (.inl rfl) 5 (.int .i64 6)).set (b := tb) (.inl rfl) 6 (.int .u32 100)).set (b := tb) (.inl rfl) 7 (.int .i64 80)).set (b := tb) (.inl rfl) 8 (.bool false)).set (b := tb) (.inl rfl) 9 (.int .u32 200)).drew
    have yk : KMap S ((((((X).setCell ⟨tb, 5, none⟩ (.int .i64 6)).setCell ⟨tb, 6, none⟩ (.int .u32 100)).setCell ⟨tb, 7, none⟩ (.int .i64 80)).setCell ⟨tb, 8, none⟩ (.bool false)).setCell ⟨tb, 9, none⟩ (.int .u32 200)).drew 193 mb nn g := k1.keep1 ((Below.heap_setCell _ _ _ _ (k1.ne r1)).trans ((Below.heap_setCell _ _ _ _ (k1.ne r1)).trans ((Below.heap_setCell _ _ _ _ (k1.ne r1)).trans ((Below.heap_setCell _ _ _ _ (k1.ne r1)).trans (Below.heap_setCell _ _ _ _ (k1.ne r1))))))
    obtain ⟨W1, hW1⟩ : ∃ W, W = ((((((X).setCell ⟨tb, 5, none⟩ (.int .i64 6)).setCell ⟨tb, 6, none⟩ (.int .u32 100)).setCell ⟨tb, 7, none⟩ (.int .i64 80)).setCell ⟨tb, 8, none⟩ (.bool false)).setCell ⟨tb, 9, none⟩ (.int .u32 200)).drew := ⟨_, rfl⟩
    rw [← hW1] at y0 y1 y2 y3 y4 yT yC yk ⊢
    clear hW1 u0 u1 u2 u3 u4 fu0 fu1 fu2 fu3 fu4 hS0
    have hno : g (svcKey 1) = none := by rw [k3 1 (by decide) (by decide)]; rfl
    classical
    obtain ⟨wA, sA, rA, tA, nA⟩ := yk.entry (g' := fun v => if v = svcKey 1 then some (.int .i64 1) else g v) keyed193 Tryz.underlying174 zero3w (svcKey 1) keyOf1 hno (by omega) (.int .i64 1) (by simp) (fun v hv => by simp [hv])
    obtain ⟨wB, rB, kB, tB⟩ := nA wA rfl
    have rA : (Instr.mapEntry 174 (.map (some mb)) (.agg #[.int .i64 6, .int .u32 100, .int .i64 80])).run Tryz.prog W1 = .ok (.tuple #[.int .i64 0, .int .i64 sA]) wA := rA
    have T0 : Keep (fun _ => True) W1 W1 := fun _ _ _ _ h => h
    have T1 := T0.trans (Keep.turned tA)
    have T2 := T1.trans (Keep.turned tB)
    have KS : ∀ W, Keep (fun _ => True) W1 W → (fun W : World => W.cell? ⟨bx, 0, none⟩ = some (.pointer (some ⟨tb, 0, none⟩)) ∧ W.cell? ⟨tb, 325, none⟩ = some (.map (some mb)) ∧ W.cell? ⟨bx + 4, 0, none⟩ = some (.int .i64 6) ∧ W.cell? ⟨bx + 4, 1, none⟩ = some (.int .u32 100) ∧ W.cell? ⟨bx + 4, 2, none⟩ = some (.int .i64 80) ∧ W.cell? ⟨bx + 1, 0, none⟩ = some (.int .i64 6) ∧ W.cell? ⟨bx + 1, 1, none⟩ = some (.int .u32 100) ∧ W.cell? ⟨bx + 1, 2, none⟩ = some (.int .i64 80) ∧ W.cell? ⟨bx + 1, 3, none⟩ = some (.bool false) ∧ W.cell? ⟨bx + 1, 4, none⟩ = some (.int .u32 200)) W := fun W k => by
      have a0 := k _ _ _ trivial y0
      have a1 := k _ _ _ trivial y1
      have a4 := k _ _ _ trivial y4
      have aT := k _ _ _ trivial yT
      refine ⟨(a0.cell 0).trans rfl, (aT.cell 325).trans ?_, (a4.cell 0).trans rfl, (a4.cell 1).trans rfl, (a4.cell 2).trans rfl, (a1.cell 0).trans rfl, (a1.cell 1).trans rfl, (a1.cell 2).trans rfl, (a1.cell 3).trans rfl, (a1.cell 4).trans rfl⟩
      simp [Array.getElem?_setIfInBounds, r3]
    have z2 := T2 _ _ _ trivial y2
    have z3 := T2 _ _ _ trivial y3
    have zT := T2 _ _ _ trivial yT
    have zC := (yC.trans (Chg.turned tA (.inr (.inl rfl)))).trans (Chg.turned tB (.inr (.inl rfl)))
    refine hK.out _ _ (KS _ T0) (fun _ => ?_)
    clear hK K
    refine wpAnyH_ready (rs := [13]) (by kernel_rfl) (by simp) (AllReadyH.cons rfl (fun K hK => ?_) AllReadyH.nil)
    go_simp
    refine hK.out _ _ (KS _ T1) (fun _ => ?_)
    clear hK K
    refine wpAnyH_ready (rs := [14]) (by kernel_rfl) (by simp) (AllReadyH.cons rfl (fun K hK => ?_) AllReadyH.nil)
    go_simp
    refine hK.out _ _ (KS _ T1) (fun _ => ?_)
    clear hK K
    refine wpAnyH_ready (rs := [15]) (by kernel_rfl) (by simp) (AllReadyH.cons rfl (fun K hK => ?_) AllReadyH.nil)
    go_simp
    refine hK.out _ _ (KS _ T2) (fun _ => ?_)
    clear hK K
    refine wpAnyH_done (by kernel_rfl) ?_ _
    have i0 := z2.cell 0
    have fi0 := z2.free 0
    have e0 := z3.cell 0
    have fe0 := z3.free 0
    simp at i0 e0
    have n23 : bx + 2 ≠ bx + 3 := by omega
    gi_wp2
    have zF : Chg (fun b => b = tb ∨ b = mb ∨ b = bx + 2 ∨ b = bx + 3) X ((wB.setCell ⟨bx + 2, 0, none⟩ (.int .i64 1)).setCell ⟨bx + 3, 0, none⟩ (.int .i64 0)) := (zC.set (b := bx + 2) (.inr (.inr (.inl rfl))) 0 _).set (b := bx + 3) (.inr (.inr (.inr rfl))) 0 _
    refine ⟨(KB.refl _ _ X).chg zF (fun _ _ q => q) (fun b hb h o ho => ?_), rfl, ?_, ?_, ?_, ?_⟩
    · rcases h with rfl | rfl | rfl | rfl
      · exact r1.nl ho
      · exact k1.nl ho
      · exact hIx.nl ho
      · exact hEx.nl ho
    · refine ⟨zF.os.trans hX.os, zF.tape.trans hX.tape, zF.output.trans hX.output, Nat.le_trans hX.size zF.size, fun b hb hn => (zF.block b (Nat.lt_of_lt_of_le hb hX.size) ?_).trans (hX.block b hb)⟩
      rintro (rfl | rfl | h | h)
      · exact hn (.inl st)
      · exact hn (.inl sm)
      · exact hn (.inr (.inl h))
      · exact hn (.inr (.inr h))
    · have := (z2.set 0 (.int .i64 1)).setOther (c := bx + 3) 0 (by omega) (.int .i64 0)
      simpa using this
    · have := (z3.setOther (c := bx + 2) 0 (by omega) (.int .i64 1)).set 0 (.int .i64 0)
      simpa using this
    · have nb2 : mb ≠ bx + 2 := fun e => by have := hS _ sm; omega
      have nb3 : mb ≠ bx + 3 := fun e => by have := hS _ sm; omega
      refine ⟨so, ⟨_, (zT.setOther (c := bx + 2) 0 (by omega) (.int .i64 1)).setOther (c := bx + 3) 0 (by omega) (.int .i64 0), by simpa using r2, by simp [Array.getElem?_setIfInBounds, r3], fun id j hid hj => ?_⟩, ⟨nn + 1, _, kB.keep1 ((Below.heap_setCell _ _ _ _ nb3).trans (Below.heap_setCell _ _ _ _ nb2)), by omega, fun q hq1 hq4 => ?_⟩⟩
      · have h4 := r4 id j hid hj
        by_cases e : id = 1
        · subst e
          obtain rfl | rfl | rfl | rfl | rfl : j = 0 ∨ j = 1 ∨ j = 2 ∨ j = 3 ∨ j = 4 := by omega
          all_goals (simp [Array.getElem?_setIfInBounds, r2]; rfl)
        · rw [show (if id ≤ 1 then id else 0) = if id ≤ 0 then id else 0 by split <;> split <;> omega, ← h4]
          have w0 : 5 ≠ id * 5 + j := by omega
          have w1 : 6 ≠ id * 5 + j := by omega
          have w2 : 7 ≠ id * 5 + j := by omega
          have w3 : 8 ≠ id * 5 + j := by omega
          have w4 : 9 ≠ id * 5 + j := by omega
          simp [Array.getElem?_setIfInBounds_ne, w0, w1, w2, w3, w4]
      · obtain rfl | rfl | rfl | rfl : q = 1 ∨ q = 2 ∨ q = 3 ∨ q = 4 := by omega
        · simp
        · rw [if_neg (by simp [svcKey, svcC]), k3 2 (by decide) (by decide)]
          rfl
        · rw [if_neg (by simp [svcKey, svcC]), k3 3 (by decide) (by decide)]
          rfl
        · rw [if_neg (by simp [svcKey, svcC]), k3 4 (by decide) (by decide)]
          rfl
  · rintro D X hD ⟨h0, _⟩ hK
    simp [freeL] at h0
  rintro D c pre X hD hp ⟨rfl, hCx, hIx, hEx, hTx⟩ hK
  refine wpIn_wide.2 ?_
  go_wp2_with fail
  have K9 := Keep.putObj (S := fun _ => True) X D _ (.deferred none) hK rfl
  have i0 := (K9 _ _ _ trivial hIx).cell 0
  have e0 := (K9 _ _ _ trivial hEx).cell 0
  simp at i0 e0
  have hDb : bx ≤ D := by have : wz.heap.size ≤ D := hD; omega
  refine ⟨by simp, .inl ⟨_, _, rfl, run_takeDeferred hK, .tuple #[.int .i64 1, .int .i64 0], ?_, rfl, ?_, ?_⟩⟩
  · simp [results, Tryz.f34, go_sem, i0, e0]
  · exact hTx.keep (fun b hb hs => World.putObj_heap_other (by have := hS b hs; omega))
  · refine Chg.putObj ?_ D _ (by have := HBX.out; omega)
    have e := HBX.out
    exact ⟨hCx.os.trans hbz.os, hCx.tape.trans hbz.tape, hCx.output.trans hbz.output, by have := hCx.size; have := hbz.size; omega, fun b hb hn => (hCx.block b (by have := hbz.size; omega) (by rintro (h | h | h); exact hn h; omega; omega)).trans (hbz.block b (by omega))⟩
theorem sadd1_c (S : Nat → Prop) (tb mb : Nat) (w : World) (h : TblS S w tb mb 0) :
    Calls Tryz.prog 34 #[.pointer (some ⟨tb, 0, none⟩), .agg #[.int .i64 6, .int .u32 100, .int .i64 80, .bool false, .int .u32 200]] w fun e w' => e = .returned (.tuple #[.int .i64 1, .int .i64 0]) ∧ TblS S w' tb mb 1 ∧ Chg S w w' :=
  (sadd1_t _ tb mb w (fun b h => h.2) h.cut).mono fun e w' ⟨he, hp, hc⟩ => ⟨he, hp.mono (fun b h => h.1), hc.mono (fun b _ h => h.1)⟩
set_option maxRecDepth 100000 in
set_option maxHeartbeats 3200000 in
theorem sadd2_t (S : Nat → Prop) (tb mb : Nat) (w : World) (hS : ∀ b, S b → b < w.heap.size) (h : TblS S w tb mb 1) :
    Calls Tryz.prog 34 #[.pointer (some ⟨tb, 0, none⟩), .agg #[.int .i64 17, .int .u32 100, .int .i64 53, .bool false, .int .u32 200]] w fun e w' => e = .returned (.tuple #[.int .i64 2, .int .i64 0]) ∧ TblS S w' tb mb 2 ∧ Chg S w w' := by
  have HR := Lib.hid sright2_c
  have HF := Lib.hid (free_c tb)
  have h0 := Lib.hid h
  have tl : tb < w.heap.size := hS _ h.own
  clear h
  refine (callsIn_wide (n := 5)).1 ?_
  refine callsIn_of_wp_marks Tryz.func34 rfl trivial ?_ rfl
  simp only [Tryz.ntmps34, List.size_toArray, List.length_cons, List.length_nil, Nat.reduceAdd, Nat.reduceSub, Array.replicate_succ, Array.replicate_zero, List.push_toArray, List.append_toArray, List.nil_append, List.cons_append]
  refine wpIn_wide.2 ?_
  go_wp2_with fail
  have hX1 : Has ((((((w).alloc (.cells #[.pointer (some ⟨tb, 0, none⟩)] 76)).alloc (.cells #[.int .i64 17, .int .u32 100, .int .i64 53, .bool false, .int .u32 200] 63)).alloc (.cells #[.int .i64 0] 3)).alloc (.cells #[.int .i64 0] 26)).alloc (.cells #[.int .i64 17, .int .u32 100, .int .i64 53] 193)) (w.heap.size + 0) 76 #[.pointer (some ⟨tb, 0, none⟩)] := ((((Has.new w _ _).alloc _).alloc _).alloc _).alloc _
  have hV1 : Has ((((((w).alloc (.cells #[.pointer (some ⟨tb, 0, none⟩)] 76)).alloc (.cells #[.int .i64 17, .int .u32 100, .int .i64 53, .bool false, .int .u32 200] 63)).alloc (.cells #[.int .i64 0] 3)).alloc (.cells #[.int .i64 0] 26)).alloc (.cells #[.int .i64 17, .int .u32 100, .int .i64 53] 193)) (w.heap.size + 1) 63 #[.int .i64 17, .int .u32 100, .int .i64 53, .bool false, .int .u32 200] := (((has_made (by simp)).alloc _).alloc _).alloc _
  have hI1 : Has ((((((w).alloc (.cells #[.pointer (some ⟨tb, 0, none⟩)] 76)).alloc (.cells #[.int .i64 17, .int .u32 100, .int .i64 53, .bool false, .int .u32 200] 63)).alloc (.cells #[.int .i64 0] 3)).alloc (.cells #[.int .i64 0] 26)).alloc (.cells #[.int .i64 17, .int .u32 100, .int .i64 53] 193)) (w.heap.size + 2) 3 #[.int .i64 0] := ((has_made (by simp)).alloc _).alloc _
  have hE1 : Has ((((((w).alloc (.cells #[.pointer (some ⟨tb, 0, none⟩)] 76)).alloc (.cells #[.int .i64 17, .int .u32 100, .int .i64 53, .bool false, .int .u32 200] 63)).alloc (.cells #[.int .i64 0] 3)).alloc (.cells #[.int .i64 0] 26)).alloc (.cells #[.int .i64 17, .int .u32 100, .int .i64 53] 193)) (w.heap.size + 3) 26 #[.int .i64 0] := (has_made (by simp)).alloc _
  have hK1 : Has ((((((w).alloc (.cells #[.pointer (some ⟨tb, 0, none⟩)] 76)).alloc (.cells #[.int .i64 17, .int .u32 100, .int .i64 53, .bool false, .int .u32 200] 63)).alloc (.cells #[.int .i64 0] 3)).alloc (.cells #[.int .i64 0] 26)).alloc (.cells #[.int .i64 17, .int .u32 100, .int .i64 53] 193)) (w.heap.size + 4) 193 #[.int .i64 17, .int .u32 100, .int .i64 53] := has_made (by simp)
  have hb1 : Below w.heap.size w ((((((w).alloc (.cells #[.pointer (some ⟨tb, 0, none⟩)] 76)).alloc (.cells #[.int .i64 17, .int .u32 100, .int .i64 53, .bool false, .int .u32 200] 63)).alloc (.cells #[.int .i64 0] 3)).alloc (.cells #[.int .i64 0] 26)).alloc (.cells #[.int .i64 17, .int .u32 100, .int .i64 53] 193)) := (((((Below.refl w.heap.size w).alloc (Nat.le_refl _) _).alloc (by simp) _).alloc (by simp; omega) _).alloc (by simp; omega) _).alloc (by simp; omega) _
  have hT1 := h0.out.keep (KeepM.below hb1)
  have z1 : (((((((w).alloc (.cells #[.pointer (some ⟨tb, 0, none⟩)] 76)).alloc (.cells #[.int .i64 17, .int .u32 100, .int .i64 53, .bool false, .int .u32 200] 63)).alloc (.cells #[.int .i64 0] 3)).alloc (.cells #[.int .i64 0] 26)).alloc (.cells #[.int .i64 17, .int .u32 100, .int .i64 53] 193))).heap.size = w.heap.size + 5 := by simp
  obtain ⟨w1, hw⟩ : ∃ W, W = ((((((w).alloc (.cells #[.pointer (some ⟨tb, 0, none⟩)] 76)).alloc (.cells #[.int .i64 17, .int .u32 100, .int .i64 53, .bool false, .int .u32 200] 63)).alloc (.cells #[.int .i64 0] 3)).alloc (.cells #[.int .i64 0] 26)).alloc (.cells #[.int .i64 17, .int .u32 100, .int .i64 53] 193)) := ⟨_, rfl⟩
  rw [← hw] at hX1 hV1 hI1 hE1 hK1 hb1 hT1 z1 ⊢
  obtain ⟨bx, hbx⟩ : ∃ b, b = w.heap.size := ⟨_, rfl⟩
  have HS := Lib.hid hS
  rw [← hbx] at hX1 hV1 hI1 hE1 hK1 hb1 z1 hS tl ⊢
  have HBX := Lib.hid hbx
  clear hw hbx h0
  simp only [Nat.add_assoc, Nat.reduceAdd, Nat.add_zero] at hX1 ⊢
  have KA : Hid (∀ W, Below w1.heap.size w1 W → W.cell? ⟨bx, 0, none⟩ = some (.pointer (some ⟨tb, 0, none⟩)) ∧ W.cell? ⟨tb, 325, none⟩ = some (.map (some mb)) ∧ W.cell? ⟨bx + 4, 0, none⟩ = some (.int .i64 17) ∧ W.cell? ⟨bx + 4, 1, none⟩ = some (.int .u32 100) ∧ W.cell? ⟨bx + 4, 2, none⟩ = some (.int .i64 53) ∧ (Instr.lookup 174 (.map (some mb)) (.agg #[.int .i64 17, .int .u32 100, .int .i64 53]) true).run Tryz.prog W = .ok (.tuple #[.int .i64 0, .bool false]) W) := fun W hW => by
    obtain ⟨_, ⟨cells, r1, r2, r3, r4⟩, ⟨n, g, k1, k2, k3⟩⟩ := hT1.keep (KeepM.below hW)
    exact ⟨((hX1.below hW).cell 0).trans rfl, (r1.cell 325).trans r3, ((hK1.below hW).cell 0).trans rfl, ((hK1.below hW).cell 1).trans rfl, ((hK1.below hW).cell 2).trans rfl, k1.look_ok keyed193 Tryz.underlying174 zero3w (svcKey 2) keyOf2 _ _ (by rw [k3 2 (by decide) (by decide)]; rfl) (by rw [k3 2 (by decide) (by decide)]; rfl)⟩
  go_region_held3 (fun W => W.cell? ⟨bx, 0, none⟩ = some (.pointer (some ⟨tb, 0, none⟩)) ∧ W.cell? ⟨tb, 325, none⟩ = some (.map (some mb)) ∧ W.cell? ⟨bx + 4, 0, none⟩ = some (.int .i64 17) ∧ W.cell? ⟨bx + 4, 1, none⟩ = some (.int .u32 100) ∧ W.cell? ⟨bx + 4, 2, none⟩ = some (.int .i64 53) ∧ (Instr.lookup 174 (.map (some mb)) (.agg #[.int .i64 17, .int .u32 100, .int .i64 53]) true).run Tryz.prog W = .ok (.tuple #[.int .i64 0, .bool false]) W) (first | exact KA.out _ ((Below.refl _ _).drew)) (fail)
  have hX2 := hX1.drew
  have hV2 := hV1.drew
  have hI2 := hI1.drew
  have hE2 := hE1.drew
  have hK2 := hK1.drew
  have hb2 := hb1.drew
  have hT2 : TblS S w1.drew tb mb 1 := hT1.keep (fun _ _ _ => rfl)
  have z2 : w1.drew.heap.size = bx + 5 := z1
  clear hX1 hV1 hI1 hE1 hK1 hb1 hT1 z1 KA
  generalize w1.drew = w2 at hX2 hV2 hI2 hE2 hK2 hb2 hT2 z2 ⊢
  have v0 := hV2.cell 0
  have v1 := hV2.cell 1
  have v2 := hV2.cell 2
  have v3 := hV2.cell 3
  have v4 := hV2.cell 4
  simp at v0 v1 v2 v3 v4
  go_wp2_with fail
  refine (HR.out _).mono ?_
  rintro e w3 ⟨rfl, b3⟩
  have hX3 := hX2.below b3
  have hV3 := hV2.below b3
  have hI3 := hI2.below b3
  have hE3 := hE2.below b3
  have hK3 := hK2.below b3
  have hb3 := hb2.trans (b3.mono (by omega))
  have hT3 := hT2.keep (KeepM.below b3)
  have z3 : bx + 5 ≤ w3.heap.size := by have := b3.size; omega
  have x0 := hX3.cell 0
  simp at x0
  clear hX2 hV2 hI2 hE2 hK2 hb2 hT2 z2 b3 v0 v1 v2 v3 v4
  go_wp2_with fail
  refine (HF.out _).mono ?_
  rintro e w4 ⟨rfl, rfl⟩
  obtain ⟨fb, hfb⟩ : ∃ b, b = w3.heap.size := ⟨_, rfl⟩
  have hXz := hX3.alloc (.cells #[.pointer (some ⟨tb, 0, none⟩)] 76)
  have hVz := hV3.alloc (.cells #[.pointer (some ⟨tb, 0, none⟩)] 76)
  have hIz := hI3.alloc (.cells #[.pointer (some ⟨tb, 0, none⟩)] 76)
  have hEz := hE3.alloc (.cells #[.pointer (some ⟨tb, 0, none⟩)] 76)
  have hKz := hK3.alloc (.cells #[.pointer (some ⟨tb, 0, none⟩)] 76)
  have hbz := hb3.alloc (by omega) (.cells #[.pointer (some ⟨tb, 0, none⟩)] 76)
  have hTz := hT3.keep (KeepM.alloc _ _ (.cells #[.pointer (some ⟨tb, 0, none⟩)] 76))
  have hBz : Has (w3.alloc (.cells #[.pointer (some ⟨tb, 0, none⟩)] 76)) fb 76 #[.pointer (some ⟨tb, 0, none⟩)] := has_made hfb
  have zz : (w3.alloc (.cells #[.pointer (some ⟨tb, 0, none⟩)] 76)).heap.size = fb + 1 := by simp; omega
  have hf5 : bx + 5 ≤ fb := by omega
  go_wp2_with fail
  try rw [← hfb]
  obtain ⟨wz, hw⟩ : ∃ W, W = (w3.alloc (.cells #[.pointer (some ⟨tb, 0, none⟩)] 76)) := ⟨_, rfl⟩
  rw [← hw] at hXz hVz hIz hEz hKz hbz hTz hBz zz ⊢
  clear hw hX3 hV3 hI3 hE3 hK3 hb3 hT3 z3 x0 hfb
  have SQ := free_seq (w := wz) S (fun b => b < fb + 1) fb tb mb 1 (by decide) hBz hTz (by omega) (fun b hb => by have := hS b hb; omega)
  have hMlt : mb < wz.heap.size := by obtain ⟨_, _, ⟨n, g, k1, _⟩⟩ := hTz; exact k1.lt
  have sm : S mb := by obtain ⟨_, _, ⟨n, g, k1, _⟩⟩ := hTz; exact k1.1
  have st := hTz.own
  refine (wpIn_wide (n := 5)).1 ?_
  refine wp_rangeS (gf := 105) (lb := #[.pointer (some ⟨fb, 0, none⟩)]) rfl (enters_of Tryz.func105 (by kernel_rfl) rfl) SQ (Below.refl _ _) (fun b h => by have h' : b < fb + 1 := h; omega) (fun _ => rfl)
    (fun pre X => pre = [] ∧ Below wz.heap.size wz X)
    (fun c pre X => c = .ret ∧ Chg (fun b => S b ∨ b = bx + 2 ∨ b = bx + 3) wz X ∧ Has X (bx + 2) 3 #[.int .i64 2] ∧ Has X (bx + 3) 26 #[.int .i64 0] ∧ TblS S X tb mb 2)
    (fun s X Y row hs hg hr => ⟨hs.1, ownFrom_below (β := List Int) (Nat.le_refl _) (Nat.le_refl _) s X Y row hs.2 hg hr⟩)
    (fun c s X Y row hs hg hr => ⟨hs.1, hs.2.1.grownRow (Nat.le_refl _) hg hr, at_less hs.2.2.1 hg hr (by omega), at_less hs.2.2.2.1 hg hr (by omega), hs.2.2.2.2.keep (fun b hb hs' => hg.block b hb (fun e => by have := (hr b e.symm).1; have := hS b hs'; omega))⟩)
    ⟨rfl, Below.refl _ _⟩ ?_ ?_ ?_
  · intro y lm pre x X0 hpre
    gi_wp2
    refine ⟨trivial, ?_⟩
    clear X0
    rintro X ⟨rfl, hX⟩
    obtain rfl : x = 2 := by
      obtain ⟨r, hr⟩ := hpre
      have := congrArg List.head? hr
      simp [freeL] at this
      simpa [List.range_succ_eq_map] using this
    have hXx := hXz.below hX
    have hVx := hVz.below hX
    have hIx := hIz.below hX
    have hEx := hEz.below hX
    have hKx := hKz.below hX
    have hTx := hTz.keep (KeepM.below hX)
    obtain ⟨so, ⟨cells, r1, r2, r3, r4⟩, ⟨nn, g, k1, k2, k3⟩⟩ := hTx
    have q0 : ∀ V : Gr X, V.1.cell? ⟨bx, 0, none⟩ = some (.pointer (some ⟨tb, 0, none⟩)) := fun V => ((V.has hXx).cell 0).trans rfl
    have q1 : ∀ V : Gr X, V.1.cell? ⟨tb, 325, none⟩ = some (.map (some mb)) := fun V => ((V.has r1).cell 325).trans r3
    have q40 : ∀ V : Gr X, V.1.cell? ⟨bx + 4, 0, none⟩ = some (.int .i64 17) := fun V => ((V.has hKx).cell 0).trans rfl
    have q41 : ∀ V : Gr X, V.1.cell? ⟨bx + 4, 1, none⟩ = some (.int .u32 100) := fun V => ((V.has hKx).cell 1).trans rfl
    have q42 : ∀ V : Gr X, V.1.cell? ⟨bx + 4, 2, none⟩ = some (.int .i64 53) := fun V => ((V.has hKx).cell 2).trans rfl
    have q10 : ∀ V : Gr X, V.1.cell? ⟨bx + 1, 0, none⟩ = some (.int .i64 17) := fun V => ((V.has hVx).cell 0).trans rfl
    have q11 : ∀ V : Gr X, V.1.cell? ⟨bx + 1, 1, none⟩ = some (.int .u32 100) := fun V => ((V.has hVx).cell 1).trans rfl
    have q12 : ∀ V : Gr X, V.1.cell? ⟨bx + 1, 2, none⟩ = some (.int .i64 53) := fun V => ((V.has hVx).cell 2).trans rfl
    have q13 : ∀ V : Gr X, V.1.cell? ⟨bx + 1, 3, none⟩ = some (.bool false) := fun V => ((V.has hVx).cell 3).trans rfl
    have q14 : ∀ V : Gr X, V.1.cell? ⟨bx + 1, 4, none⟩ = some (.int .u32 200) := fun V => ((V.has hVx).cell 4).trans rfl
    gi_wp2
    obtain ⟨V, hVX⟩ : ∃ V : Gr X, V.1 = X.drew := ⟨⟨X.drew, (Below.refl _ _).drew⟩, rfl⟩
    have hS0 : (fun W : World => W.cell? ⟨bx, 0, none⟩ = some (.pointer (some ⟨tb, 0, none⟩)) ∧ W.cell? ⟨tb, 325, none⟩ = some (.map (some mb)) ∧ W.cell? ⟨bx + 4, 0, none⟩ = some (.int .i64 17) ∧ W.cell? ⟨bx + 4, 1, none⟩ = some (.int .u32 100) ∧ W.cell? ⟨bx + 4, 2, none⟩ = some (.int .i64 53) ∧ W.cell? ⟨bx + 1, 0, none⟩ = some (.int .i64 17) ∧ W.cell? ⟨bx + 1, 1, none⟩ = some (.int .u32 100) ∧ W.cell? ⟨bx + 1, 2, none⟩ = some (.int .i64 53) ∧ W.cell? ⟨bx + 1, 3, none⟩ = some (.bool false) ∧ W.cell? ⟨bx + 1, 4, none⟩ = some (.int .u32 200)) X.drew := ⟨hVX ▸ q0 V, hVX ▸ q1 V, hVX ▸ q40 V, hVX ▸ q41 V, hVX ▸ q42 V, hVX ▸ q10 V, hVX ▸ q11 V, hVX ▸ q12 V, hVX ▸ q13 V, hVX ▸ q14 V⟩
    have hmo : Tryz.prog.follows .mixedOrders = true := by kernel_rfl
    refine wpIn_region_any hmo ?_
    change wpAnyIn _ _ _ _ _ _ _ _ _ (World.drew _)
    refine any_round (F := Fence.wide) (by kernel_rfl) _ _ _ _ (anyIn_of_any (by kernel_rfl) (by rintro ⟨_, _, h⟩; exact h) _ _ _ _ (wpAny_of_held (S := fun W : World => W.cell? ⟨bx, 0, none⟩ = some (.pointer (some ⟨tb, 0, none⟩)) ∧ W.cell? ⟨tb, 325, none⟩ = some (.map (some mb)) ∧ W.cell? ⟨bx + 4, 0, none⟩ = some (.int .i64 17) ∧ W.cell? ⟨bx + 4, 1, none⟩ = some (.int .u32 100) ∧ W.cell? ⟨bx + 4, 2, none⟩ = some (.int .i64 53) ∧ W.cell? ⟨bx + 1, 0, none⟩ = some (.int .i64 17) ∧ W.cell? ⟨bx + 1, 1, none⟩ = some (.int .u32 100) ∧ W.cell? ⟨bx + 1, 2, none⟩ = some (.int .i64 53) ∧ W.cell? ⟨bx + 1, 3, none⟩ = some (.bool false) ∧ W.cell? ⟨bx + 1, 4, none⟩ = some (.int .u32 200)) _ _ _ _ ?_))
    clear q0 q1 q40 q41 q42 q10 q11 q12 q13 q14 hVX V
    refine wpAnyH_take (i := 0) (v := .pointer (some ⟨tb, 0, none⟩)) rfl (by kernel_rfl) (by kernel_rfl) (by kernel_rfl) (fun _ _ _ h => h) (Or.inl ⟨by rfl, ?_⟩) hS0 ?_
    · rintro W0 ⟨s0, s1, s40, s41, s42, s10, s11, s12, s13, s14⟩
      go_simp
    refine wpAnyH_take (i := 1) (v := .int .i64 2) rfl (by kernel_rfl) (by kernel_rfl) (by kernel_rfl) (fun _ _ _ h => h) (Or.inl ⟨by rfl, ?_⟩) hS0 ?_
    · rintro W0 ⟨s0, s1, s40, s41, s42, s10, s11, s12, s13, s14⟩
      go_simp
    refine wpAnyH_take (i := 2) (v := .pointer (some ⟨tb, 0, none⟩)) rfl (by kernel_rfl) (by kernel_rfl) (by kernel_rfl) (fun _ _ _ h => h) (Or.inl ⟨by rfl, ?_⟩) hS0 ?_
    · rintro W0 ⟨s0, s1, s40, s41, s42, s10, s11, s12, s13, s14⟩
      go_simp
    refine wpAnyH_take (i := 3) (v := .pointer (some ⟨tb, 0, none⟩)) rfl (by kernel_rfl) (by kernel_rfl) (by kernel_rfl) (fun _ _ _ h => h) (Or.inl ⟨by rfl, ?_⟩) hS0 ?_
    · rintro W0 ⟨s0, s1, s40, s41, s42, s10, s11, s12, s13, s14⟩
      go_simp
    refine wpAnyH_take (i := 4) (v := .pointer (some ⟨tb, 325, none⟩)) rfl (by kernel_rfl) (by kernel_rfl) (by kernel_rfl) (fun _ _ _ h => h) (Or.inl ⟨by rfl, ?_⟩) hS0 ?_
    · rintro W0 ⟨s0, s1, s40, s41, s42, s10, s11, s12, s13, s14⟩
      go_simp
    refine wpAnyH_take (i := 5) (v := .map (some mb)) rfl (by kernel_rfl) (by kernel_rfl) (by kernel_rfl) (fun _ _ _ h => h) (Or.inl ⟨by rfl, ?_⟩) hS0 ?_
    · rintro W0 ⟨s0, s1, s40, s41, s42, s10, s11, s12, s13, s14⟩
      go_simp
    refine wpAnyH_take (i := 6) (v := .agg #[.int .i64 17, .int .u32 100, .int .i64 53]) rfl (by kernel_rfl) (by kernel_rfl) (by kernel_rfl) (fun _ _ _ h => h) (Or.inl ⟨by rfl, ?_⟩) hS0 ?_
    · rintro W0 ⟨s0, s1, s40, s41, s42, s10, s11, s12, s13, s14⟩
      go_simp
    refine wpAnyH_take (i := 7) (v := .agg #[.int .i64 17, .int .u32 100, .int .i64 53, .bool false, .int .u32 200]) rfl (by kernel_rfl) (by kernel_rfl) (by kernel_rfl) (fun _ _ _ h => h) (Or.inl ⟨by rfl, ?_⟩) hS0 ?_
    · rintro W0 ⟨s0, s1, s40, s41, s42, s10, s11, s12, s13, s14⟩
      go_simp
    refine wpAnyH_take (i := 8) (v := .int .i64 2) rfl (by kernel_rfl) (by kernel_rfl) (by kernel_rfl) (fun _ _ _ h => h) (Or.inl ⟨by rfl, ?_⟩) hS0 ?_
    · rintro W0 ⟨s0, s1, s40, s41, s42, s10, s11, s12, s13, s14⟩
      go_simp
    refine wpAnyH_take (i := 9) (v := .pointer (some ⟨tb, 0, none⟩)) rfl (by kernel_rfl) (by kernel_rfl) (by kernel_rfl) (fun _ _ _ h => h) (Or.inl ⟨by rfl, ?_⟩) hS0 ?_
    · rintro W0 ⟨s0, s1, s40, s41, s42, s10, s11, s12, s13, s14⟩
      go_simp
    refine wpAnyH_take (i := 10) (v := .pointer (some ⟨tb, 0, none⟩)) rfl (by kernel_rfl) (by kernel_rfl) (by kernel_rfl) (fun _ _ _ h => h) (Or.inl ⟨by rfl, ?_⟩) hS0 ?_
    · rintro W0 ⟨s0, s1, s40, s41, s42, s10, s11, s12, s13, s14⟩
      go_simp
    refine wpAnyH_take (i := 11) (v := .pointer (some ⟨tb, 10, none⟩)) rfl (by kernel_rfl) (by kernel_rfl) (by kernel_rfl) (fun _ _ _ h => h) (Or.inl ⟨by rfl, ?_⟩) hS0 ?_
    · rintro W0 ⟨s0, s1, s40, s41, s42, s10, s11, s12, s13, s14⟩
      go_simp
    have tlx := r1.lt
    have u0 : X.cell? ⟨tb, 10, none⟩ = some (.int .i64 0) := (r1.cell 10).trans (r4 2 0 (by decide) (by decide))
    have fu0 : X.frozen? ⟨tb, 10, none⟩ = false := r1.free 10
    have u1 : X.cell? ⟨tb, 11, none⟩ = some (.int .u32 0) := (r1.cell 11).trans (r4 2 1 (by decide) (by decide))
    have fu1 : X.frozen? ⟨tb, 11, none⟩ = false := r1.free 11
    have u2 : X.cell? ⟨tb, 12, none⟩ = some (.int .i64 0) := (r1.cell 12).trans (r4 2 2 (by decide) (by decide))
    have fu2 : X.frozen? ⟨tb, 12, none⟩ = false := r1.free 12
    have u3 : X.cell? ⟨tb, 13, none⟩ = some (.bool false) := (r1.cell 13).trans (r4 2 3 (by decide) (by decide))
    have fu3 : X.frozen? ⟨tb, 13, none⟩ = false := r1.free 13
    have u4 : X.cell? ⟨tb, 14, none⟩ = some (.int .u32 0) := (r1.cell 14).trans (r4 2 4 (by decide) (by decide))
    have fu4 : X.frozen? ⟨tb, 14, none⟩ = false := r1.free 14
    refine wpAnyH_ready (rs := [12]) (by kernel_rfl) (by simp) (AllReadyH.cons rfl (fun K hK => ?_) AllReadyH.nil)
    go_simp
    have y0 := ((((((hXx).setOther (c := tb) 10 (by omega) (.int .i64 17)).setOther (c := tb) 11 (by omega) (.int .u32 100)).setOther (c := tb) 12 (by omega) (.int .i64 53)).setOther (c := tb) 13 (by omega) (.bool false)).setOther (c := tb) 14 (by omega) (.int .u32 200)).drew
    have y1 := ((((((hVx).setOther (c := tb) 10 (by omega) (.int .i64 17)).setOther (c := tb) 11 (by omega) (.int .u32 100)).setOther (c := tb) 12 (by omega) (.int .i64 53)).setOther (c := tb) 13 (by omega) (.bool false)).setOther (c := tb) 14 (by omega) (.int .u32 200)).drew
    have y2 := ((((((hIx).setOther (c := tb) 10 (by omega) (.int .i64 17)).setOther (c := tb) 11 (by omega) (.int .u32 100)).setOther (c := tb) 12 (by omega) (.int .i64 53)).setOther (c := tb) 13 (by omega) (.bool false)).setOther (c := tb) 14 (by omega) (.int .u32 200)).drew
    have y3 := ((((((hEx).setOther (c := tb) 10 (by omega) (.int .i64 17)).setOther (c := tb) 11 (by omega) (.int .u32 100)).setOther (c := tb) 12 (by omega) (.int .i64 53)).setOther (c := tb) 13 (by omega) (.bool false)).setOther (c := tb) 14 (by omega) (.int .u32 200)).drew
    have y4 := ((((((hKx).setOther (c := tb) 10 (by omega) (.int .i64 17)).setOther (c := tb) 11 (by omega) (.int .u32 100)).setOther (c := tb) 12 (by omega) (.int .i64 53)).setOther (c := tb) 13 (by omega) (.bool false)).setOther (c := tb) 14 (by omega) (.int .u32 200)).drew
    have yT := ((((((r1).set 10 (.int .i64 17)).set 11 (.int .u32 100)).set 12 (.int .i64 53)).set 13 (.bool false)).set 14 (.int .u32 200)).drew
    have yC := (((((((Chg.refl (fun b => b = tb ∨ b = mb ∨ b = bx + 2 ∨ b = bx + 3) X)).set (b := tb) (.inl rfl) 10 (.int .i64 17)).set (b := tb) (.inl rfl) 11 (.int .u32 100)).set (b := tb) (.inl rfl) 12 (.int .i64 53)).set (b := tb) (.inl rfl) 13 (.bool false)).set (b := tb) (.inl rfl) 14 (.int .u32 200)).drew
    have yk : KMap S ((((((X).setCell ⟨tb, 10, none⟩ (.int .i64 17)).setCell ⟨tb, 11, none⟩ (.int .u32 100)).setCell ⟨tb, 12, none⟩ (.int .i64 53)).setCell ⟨tb, 13, none⟩ (.bool false)).setCell ⟨tb, 14, none⟩ (.int .u32 200)).drew 193 mb nn g := k1.keep1 ((Below.heap_setCell _ _ _ _ (k1.ne r1)).trans ((Below.heap_setCell _ _ _ _ (k1.ne r1)).trans ((Below.heap_setCell _ _ _ _ (k1.ne r1)).trans ((Below.heap_setCell _ _ _ _ (k1.ne r1)).trans (Below.heap_setCell _ _ _ _ (k1.ne r1))))))
    obtain ⟨W1, hW1⟩ : ∃ W, W = ((((((X).setCell ⟨tb, 10, none⟩ (.int .i64 17)).setCell ⟨tb, 11, none⟩ (.int .u32 100)).setCell ⟨tb, 12, none⟩ (.int .i64 53)).setCell ⟨tb, 13, none⟩ (.bool false)).setCell ⟨tb, 14, none⟩ (.int .u32 200)).drew := ⟨_, rfl⟩
    rw [← hW1] at y0 y1 y2 y3 y4 yT yC yk ⊢
    clear hW1 u0 u1 u2 u3 u4 fu0 fu1 fu2 fu3 fu4 hS0
    have hno : g (svcKey 2) = none := by rw [k3 2 (by decide) (by decide)]; rfl
    classical
    obtain ⟨wA, sA, rA, tA, nA⟩ := yk.entry (g' := fun v => if v = svcKey 2 then some (.int .i64 2) else g v) keyed193 Tryz.underlying174 zero3w (svcKey 2) keyOf2 hno (by omega) (.int .i64 2) (by simp) (fun v hv => by simp [hv])
    obtain ⟨wB, rB, kB, tB⟩ := nA wA rfl
    have rA : (Instr.mapEntry 174 (.map (some mb)) (.agg #[.int .i64 17, .int .u32 100, .int .i64 53])).run Tryz.prog W1 = .ok (.tuple #[.int .i64 0, .int .i64 sA]) wA := rA
    have T0 : Keep (fun _ => True) W1 W1 := fun _ _ _ _ h => h
    have T1 := T0.trans (Keep.turned tA)
    have T2 := T1.trans (Keep.turned tB)
    have KS : ∀ W, Keep (fun _ => True) W1 W → (fun W : World => W.cell? ⟨bx, 0, none⟩ = some (.pointer (some ⟨tb, 0, none⟩)) ∧ W.cell? ⟨tb, 325, none⟩ = some (.map (some mb)) ∧ W.cell? ⟨bx + 4, 0, none⟩ = some (.int .i64 17) ∧ W.cell? ⟨bx + 4, 1, none⟩ = some (.int .u32 100) ∧ W.cell? ⟨bx + 4, 2, none⟩ = some (.int .i64 53) ∧ W.cell? ⟨bx + 1, 0, none⟩ = some (.int .i64 17) ∧ W.cell? ⟨bx + 1, 1, none⟩ = some (.int .u32 100) ∧ W.cell? ⟨bx + 1, 2, none⟩ = some (.int .i64 53) ∧ W.cell? ⟨bx + 1, 3, none⟩ = some (.bool false) ∧ W.cell? ⟨bx + 1, 4, none⟩ = some (.int .u32 200)) W := fun W k => by
      have a0 := k _ _ _ trivial y0
      have a1 := k _ _ _ trivial y1
      have a4 := k _ _ _ trivial y4
      have aT := k _ _ _ trivial yT
      refine ⟨(a0.cell 0).trans rfl, (aT.cell 325).trans ?_, (a4.cell 0).trans rfl, (a4.cell 1).trans rfl, (a4.cell 2).trans rfl, (a1.cell 0).trans rfl, (a1.cell 1).trans rfl, (a1.cell 2).trans rfl, (a1.cell 3).trans rfl, (a1.cell 4).trans rfl⟩
      simp [Array.getElem?_setIfInBounds, r3]
    have z2 := T2 _ _ _ trivial y2
    have z3 := T2 _ _ _ trivial y3
    have zT := T2 _ _ _ trivial yT
    have zC := (yC.trans (Chg.turned tA (.inr (.inl rfl)))).trans (Chg.turned tB (.inr (.inl rfl)))
    refine hK.out _ _ (KS _ T0) (fun _ => ?_)
    clear hK K
    refine wpAnyH_ready (rs := [13]) (by kernel_rfl) (by simp) (AllReadyH.cons rfl (fun K hK => ?_) AllReadyH.nil)
    go_simp
    refine hK.out _ _ (KS _ T1) (fun _ => ?_)
    clear hK K
    refine wpAnyH_ready (rs := [14]) (by kernel_rfl) (by simp) (AllReadyH.cons rfl (fun K hK => ?_) AllReadyH.nil)
    go_simp
    refine hK.out _ _ (KS _ T1) (fun _ => ?_)
    clear hK K
    refine wpAnyH_ready (rs := [15]) (by kernel_rfl) (by simp) (AllReadyH.cons rfl (fun K hK => ?_) AllReadyH.nil)
    go_simp
    refine hK.out _ _ (KS _ T2) (fun _ => ?_)
    clear hK K
    refine wpAnyH_done (by kernel_rfl) ?_ _
    have i0 := z2.cell 0
    have fi0 := z2.free 0
    have e0 := z3.cell 0
    have fe0 := z3.free 0
    simp at i0 e0
    have n23 : bx + 2 ≠ bx + 3 := by omega
    gi_wp2
    have zF : Chg (fun b => b = tb ∨ b = mb ∨ b = bx + 2 ∨ b = bx + 3) X ((wB.setCell ⟨bx + 2, 0, none⟩ (.int .i64 2)).setCell ⟨bx + 3, 0, none⟩ (.int .i64 0)) := (zC.set (b := bx + 2) (.inr (.inr (.inl rfl))) 0 _).set (b := bx + 3) (.inr (.inr (.inr rfl))) 0 _
    refine ⟨(KB.refl _ _ X).chg zF (fun _ _ q => q) (fun b hb h o ho => ?_), rfl, ?_, ?_, ?_, ?_⟩
    · rcases h with rfl | rfl | rfl | rfl
      · exact r1.nl ho
      · exact k1.nl ho
      · exact hIx.nl ho
      · exact hEx.nl ho
    · refine ⟨zF.os.trans hX.os, zF.tape.trans hX.tape, zF.output.trans hX.output, Nat.le_trans hX.size zF.size, fun b hb hn => (zF.block b (Nat.lt_of_lt_of_le hb hX.size) ?_).trans (hX.block b hb)⟩
      rintro (rfl | rfl | h | h)
      · exact hn (.inl st)
      · exact hn (.inl sm)
      · exact hn (.inr (.inl h))
      · exact hn (.inr (.inr h))
    · have := (z2.set 0 (.int .i64 2)).setOther (c := bx + 3) 0 (by omega) (.int .i64 0)
      simpa using this
    · have := (z3.setOther (c := bx + 2) 0 (by omega) (.int .i64 2)).set 0 (.int .i64 0)
      simpa using this
    · have nb2 : mb ≠ bx + 2 := fun e => by have := hS _ sm; omega
      have nb3 : mb ≠ bx + 3 := fun e => by have := hS _ sm; omega
      refine ⟨so, ⟨_, (zT.setOther (c := bx + 2) 0 (by omega) (.int .i64 2)).setOther (c := bx + 3) 0 (by omega) (.int .i64 0), by simpa using r2, by simp [Array.getElem?_setIfInBounds, r3], fun id j hid hj => ?_⟩, ⟨nn + 1, _, kB.keep1 ((Below.heap_setCell _ _ _ _ nb3).trans (Below.heap_setCell _ _ _ _ nb2)), by omega, fun q hq1 hq4 => ?_⟩⟩
      · have h4 := r4 id j hid hj
        by_cases e : id = 2
        · subst e
          obtain rfl | rfl | rfl | rfl | rfl : j = 0 ∨ j = 1 ∨ j = 2 ∨ j = 3 ∨ j = 4 := by omega
          all_goals (simp [Array.getElem?_setIfInBounds, r2]; rfl)
        · rw [show (if id ≤ 2 then id else 0) = if id ≤ 1 then id else 0 by split <;> split <;> omega, ← h4]
          have w0 : 10 ≠ id * 5 + j := by omega
          have w1 : 11 ≠ id * 5 + j := by omega
          have w2 : 12 ≠ id * 5 + j := by omega
          have w3 : 13 ≠ id * 5 + j := by omega
          have w4 : 14 ≠ id * 5 + j := by omega
          simp [Array.getElem?_setIfInBounds_ne, w0, w1, w2, w3, w4]
      · obtain rfl | rfl | rfl | rfl : q = 1 ∨ q = 2 ∨ q = 3 ∨ q = 4 := by omega
        · rw [if_neg (by simp [svcKey, svcC]), k3 1 (by decide) (by decide)]
          rfl
        · simp
        · rw [if_neg (by simp [svcKey, svcC]), k3 3 (by decide) (by decide)]
          rfl
        · rw [if_neg (by simp [svcKey, svcC]), k3 4 (by decide) (by decide)]
          rfl
  · rintro D X hD ⟨h0, _⟩ hK
    simp [freeL] at h0
  rintro D c pre X hD hp ⟨rfl, hCx, hIx, hEx, hTx⟩ hK
  refine wpIn_wide.2 ?_
  go_wp2_with fail
  have K9 := Keep.putObj (S := fun _ => True) X D _ (.deferred none) hK rfl
  have i0 := (K9 _ _ _ trivial hIx).cell 0
  have e0 := (K9 _ _ _ trivial hEx).cell 0
  simp at i0 e0
  have hDb : bx ≤ D := by have : wz.heap.size ≤ D := hD; omega
  refine ⟨by simp, .inl ⟨_, _, rfl, run_takeDeferred hK, .tuple #[.int .i64 2, .int .i64 0], ?_, rfl, ?_, ?_⟩⟩
  · simp [results, Tryz.f34, go_sem, i0, e0]
  · exact hTx.keep (fun b hb hs => World.putObj_heap_other (by have := hS b hs; omega))
  · refine Chg.putObj ?_ D _ (by have := HBX.out; omega)
    have e := HBX.out
    exact ⟨hCx.os.trans hbz.os, hCx.tape.trans hbz.tape, hCx.output.trans hbz.output, by have := hCx.size; have := hbz.size; omega, fun b hb hn => (hCx.block b (by have := hbz.size; omega) (by rintro (h | h | h); exact hn h; omega; omega)).trans (hbz.block b (by omega))⟩
theorem sadd2_c (S : Nat → Prop) (tb mb : Nat) (w : World) (h : TblS S w tb mb 1) :
    Calls Tryz.prog 34 #[.pointer (some ⟨tb, 0, none⟩), .agg #[.int .i64 17, .int .u32 100, .int .i64 53, .bool false, .int .u32 200]] w fun e w' => e = .returned (.tuple #[.int .i64 2, .int .i64 0]) ∧ TblS S w' tb mb 2 ∧ Chg S w w' :=
  (sadd2_t _ tb mb w (fun b h => h.2) h.cut).mono fun e w' ⟨he, hp, hc⟩ => ⟨he, hp.mono (fun b h => h.1), hc.mono (fun b _ h => h.1)⟩
set_option maxRecDepth 100000 in
set_option maxHeartbeats 3200000 in
theorem sadd3_t (S : Nat → Prop) (tb mb : Nat) (w : World) (hS : ∀ b, S b → b < w.heap.size) (h : TblS S w tb mb 2) :
    Calls Tryz.prog 34 #[.pointer (some ⟨tb, 0, none⟩), .agg #[.int .i64 6, .int .u32 101, .int .i64 80, .bool true, .int .u32 0]] w fun e w' => e = .returned (.tuple #[.int .i64 3, .int .i64 0]) ∧ TblS S w' tb mb 3 ∧ Chg S w w' := by
  have HR := Lib.hid sright3_c
  have HF := Lib.hid (free_c tb)
  have h0 := Lib.hid h
  have tl : tb < w.heap.size := hS _ h.own
  clear h
  refine (callsIn_wide (n := 5)).1 ?_
  refine callsIn_of_wp_marks Tryz.func34 rfl trivial ?_ rfl
  simp only [Tryz.ntmps34, List.size_toArray, List.length_cons, List.length_nil, Nat.reduceAdd, Nat.reduceSub, Array.replicate_succ, Array.replicate_zero, List.push_toArray, List.append_toArray, List.nil_append, List.cons_append]
  refine wpIn_wide.2 ?_
  go_wp2_with fail
  have hX1 : Has ((((((w).alloc (.cells #[.pointer (some ⟨tb, 0, none⟩)] 76)).alloc (.cells #[.int .i64 6, .int .u32 101, .int .i64 80, .bool true, .int .u32 0] 63)).alloc (.cells #[.int .i64 0] 3)).alloc (.cells #[.int .i64 0] 26)).alloc (.cells #[.int .i64 6, .int .u32 101, .int .i64 80] 193)) (w.heap.size + 0) 76 #[.pointer (some ⟨tb, 0, none⟩)] := ((((Has.new w _ _).alloc _).alloc _).alloc _).alloc _
  have hV1 : Has ((((((w).alloc (.cells #[.pointer (some ⟨tb, 0, none⟩)] 76)).alloc (.cells #[.int .i64 6, .int .u32 101, .int .i64 80, .bool true, .int .u32 0] 63)).alloc (.cells #[.int .i64 0] 3)).alloc (.cells #[.int .i64 0] 26)).alloc (.cells #[.int .i64 6, .int .u32 101, .int .i64 80] 193)) (w.heap.size + 1) 63 #[.int .i64 6, .int .u32 101, .int .i64 80, .bool true, .int .u32 0] := (((has_made (by simp)).alloc _).alloc _).alloc _
  have hI1 : Has ((((((w).alloc (.cells #[.pointer (some ⟨tb, 0, none⟩)] 76)).alloc (.cells #[.int .i64 6, .int .u32 101, .int .i64 80, .bool true, .int .u32 0] 63)).alloc (.cells #[.int .i64 0] 3)).alloc (.cells #[.int .i64 0] 26)).alloc (.cells #[.int .i64 6, .int .u32 101, .int .i64 80] 193)) (w.heap.size + 2) 3 #[.int .i64 0] := ((has_made (by simp)).alloc _).alloc _
  have hE1 : Has ((((((w).alloc (.cells #[.pointer (some ⟨tb, 0, none⟩)] 76)).alloc (.cells #[.int .i64 6, .int .u32 101, .int .i64 80, .bool true, .int .u32 0] 63)).alloc (.cells #[.int .i64 0] 3)).alloc (.cells #[.int .i64 0] 26)).alloc (.cells #[.int .i64 6, .int .u32 101, .int .i64 80] 193)) (w.heap.size + 3) 26 #[.int .i64 0] := (has_made (by simp)).alloc _
  have hK1 : Has ((((((w).alloc (.cells #[.pointer (some ⟨tb, 0, none⟩)] 76)).alloc (.cells #[.int .i64 6, .int .u32 101, .int .i64 80, .bool true, .int .u32 0] 63)).alloc (.cells #[.int .i64 0] 3)).alloc (.cells #[.int .i64 0] 26)).alloc (.cells #[.int .i64 6, .int .u32 101, .int .i64 80] 193)) (w.heap.size + 4) 193 #[.int .i64 6, .int .u32 101, .int .i64 80] := has_made (by simp)
  have hb1 : Below w.heap.size w ((((((w).alloc (.cells #[.pointer (some ⟨tb, 0, none⟩)] 76)).alloc (.cells #[.int .i64 6, .int .u32 101, .int .i64 80, .bool true, .int .u32 0] 63)).alloc (.cells #[.int .i64 0] 3)).alloc (.cells #[.int .i64 0] 26)).alloc (.cells #[.int .i64 6, .int .u32 101, .int .i64 80] 193)) := (((((Below.refl w.heap.size w).alloc (Nat.le_refl _) _).alloc (by simp) _).alloc (by simp; omega) _).alloc (by simp; omega) _).alloc (by simp; omega) _
  have hT1 := h0.out.keep (KeepM.below hb1)
  have z1 : (((((((w).alloc (.cells #[.pointer (some ⟨tb, 0, none⟩)] 76)).alloc (.cells #[.int .i64 6, .int .u32 101, .int .i64 80, .bool true, .int .u32 0] 63)).alloc (.cells #[.int .i64 0] 3)).alloc (.cells #[.int .i64 0] 26)).alloc (.cells #[.int .i64 6, .int .u32 101, .int .i64 80] 193))).heap.size = w.heap.size + 5 := by simp
  obtain ⟨w1, hw⟩ : ∃ W, W = ((((((w).alloc (.cells #[.pointer (some ⟨tb, 0, none⟩)] 76)).alloc (.cells #[.int .i64 6, .int .u32 101, .int .i64 80, .bool true, .int .u32 0] 63)).alloc (.cells #[.int .i64 0] 3)).alloc (.cells #[.int .i64 0] 26)).alloc (.cells #[.int .i64 6, .int .u32 101, .int .i64 80] 193)) := ⟨_, rfl⟩
  rw [← hw] at hX1 hV1 hI1 hE1 hK1 hb1 hT1 z1 ⊢
  obtain ⟨bx, hbx⟩ : ∃ b, b = w.heap.size := ⟨_, rfl⟩
  have HS := Lib.hid hS
  rw [← hbx] at hX1 hV1 hI1 hE1 hK1 hb1 z1 hS tl ⊢
  have HBX := Lib.hid hbx
  clear hw hbx h0
  simp only [Nat.add_assoc, Nat.reduceAdd, Nat.add_zero] at hX1 ⊢
  have KA : Hid (∀ W, Below w1.heap.size w1 W → W.cell? ⟨bx, 0, none⟩ = some (.pointer (some ⟨tb, 0, none⟩)) ∧ W.cell? ⟨tb, 325, none⟩ = some (.map (some mb)) ∧ W.cell? ⟨bx + 4, 0, none⟩ = some (.int .i64 6) ∧ W.cell? ⟨bx + 4, 1, none⟩ = some (.int .u32 101) ∧ W.cell? ⟨bx + 4, 2, none⟩ = some (.int .i64 80) ∧ (Instr.lookup 174 (.map (some mb)) (.agg #[.int .i64 6, .int .u32 101, .int .i64 80]) true).run Tryz.prog W = .ok (.tuple #[.int .i64 0, .bool false]) W) := fun W hW => by
    obtain ⟨_, ⟨cells, r1, r2, r3, r4⟩, ⟨n, g, k1, k2, k3⟩⟩ := hT1.keep (KeepM.below hW)
    exact ⟨((hX1.below hW).cell 0).trans rfl, (r1.cell 325).trans r3, ((hK1.below hW).cell 0).trans rfl, ((hK1.below hW).cell 1).trans rfl, ((hK1.below hW).cell 2).trans rfl, k1.look_ok keyed193 Tryz.underlying174 zero3w (svcKey 3) keyOf3 _ _ (by rw [k3 3 (by decide) (by decide)]; rfl) (by rw [k3 3 (by decide) (by decide)]; rfl)⟩
  go_region_held3 (fun W => W.cell? ⟨bx, 0, none⟩ = some (.pointer (some ⟨tb, 0, none⟩)) ∧ W.cell? ⟨tb, 325, none⟩ = some (.map (some mb)) ∧ W.cell? ⟨bx + 4, 0, none⟩ = some (.int .i64 6) ∧ W.cell? ⟨bx + 4, 1, none⟩ = some (.int .u32 101) ∧ W.cell? ⟨bx + 4, 2, none⟩ = some (.int .i64 80) ∧ (Instr.lookup 174 (.map (some mb)) (.agg #[.int .i64 6, .int .u32 101, .int .i64 80]) true).run Tryz.prog W = .ok (.tuple #[.int .i64 0, .bool false]) W) (first | exact KA.out _ ((Below.refl _ _).drew)) (fail)
  have hX2 := hX1.drew
  have hV2 := hV1.drew
  have hI2 := hI1.drew
  have hE2 := hE1.drew
  have hK2 := hK1.drew
  have hb2 := hb1.drew
  have hT2 : TblS S w1.drew tb mb 2 := hT1.keep (fun _ _ _ => rfl)
  have z2 : w1.drew.heap.size = bx + 5 := z1
  clear hX1 hV1 hI1 hE1 hK1 hb1 hT1 z1 KA
  generalize w1.drew = w2 at hX2 hV2 hI2 hE2 hK2 hb2 hT2 z2 ⊢
  have v0 := hV2.cell 0
  have v1 := hV2.cell 1
  have v2 := hV2.cell 2
  have v3 := hV2.cell 3
  have v4 := hV2.cell 4
  simp at v0 v1 v2 v3 v4
  go_wp2_with fail
  refine (HR.out _).mono ?_
  rintro e w3 ⟨rfl, b3⟩
  have hX3 := hX2.below b3
  have hV3 := hV2.below b3
  have hI3 := hI2.below b3
  have hE3 := hE2.below b3
  have hK3 := hK2.below b3
  have hb3 := hb2.trans (b3.mono (by omega))
  have hT3 := hT2.keep (KeepM.below b3)
  have z3 : bx + 5 ≤ w3.heap.size := by have := b3.size; omega
  have x0 := hX3.cell 0
  simp at x0
  clear hX2 hV2 hI2 hE2 hK2 hb2 hT2 z2 b3 v0 v1 v2 v3 v4
  go_wp2_with fail
  refine (HF.out _).mono ?_
  rintro e w4 ⟨rfl, rfl⟩
  obtain ⟨fb, hfb⟩ : ∃ b, b = w3.heap.size := ⟨_, rfl⟩
  have hXz := hX3.alloc (.cells #[.pointer (some ⟨tb, 0, none⟩)] 76)
  have hVz := hV3.alloc (.cells #[.pointer (some ⟨tb, 0, none⟩)] 76)
  have hIz := hI3.alloc (.cells #[.pointer (some ⟨tb, 0, none⟩)] 76)
  have hEz := hE3.alloc (.cells #[.pointer (some ⟨tb, 0, none⟩)] 76)
  have hKz := hK3.alloc (.cells #[.pointer (some ⟨tb, 0, none⟩)] 76)
  have hbz := hb3.alloc (by omega) (.cells #[.pointer (some ⟨tb, 0, none⟩)] 76)
  have hTz := hT3.keep (KeepM.alloc _ _ (.cells #[.pointer (some ⟨tb, 0, none⟩)] 76))
  have hBz : Has (w3.alloc (.cells #[.pointer (some ⟨tb, 0, none⟩)] 76)) fb 76 #[.pointer (some ⟨tb, 0, none⟩)] := has_made hfb
  have zz : (w3.alloc (.cells #[.pointer (some ⟨tb, 0, none⟩)] 76)).heap.size = fb + 1 := by simp; omega
  have hf5 : bx + 5 ≤ fb := by omega
  go_wp2_with fail
  try rw [← hfb]
  obtain ⟨wz, hw⟩ : ∃ W, W = (w3.alloc (.cells #[.pointer (some ⟨tb, 0, none⟩)] 76)) := ⟨_, rfl⟩
  rw [← hw] at hXz hVz hIz hEz hKz hbz hTz hBz zz ⊢
  clear hw hX3 hV3 hI3 hE3 hK3 hb3 hT3 z3 x0 hfb
  have SQ := free_seq (w := wz) S (fun b => b < fb + 1) fb tb mb 2 (by decide) hBz hTz (by omega) (fun b hb => by have := hS b hb; omega)
  have hMlt : mb < wz.heap.size := by obtain ⟨_, _, ⟨n, g, k1, _⟩⟩ := hTz; exact k1.lt
  have sm : S mb := by obtain ⟨_, _, ⟨n, g, k1, _⟩⟩ := hTz; exact k1.1
  have st := hTz.own
  refine (wpIn_wide (n := 5)).1 ?_
  refine wp_rangeS (gf := 105) (lb := #[.pointer (some ⟨fb, 0, none⟩)]) rfl (enters_of Tryz.func105 (by kernel_rfl) rfl) SQ (Below.refl _ _) (fun b h => by have h' : b < fb + 1 := h; omega) (fun _ => rfl)
    (fun pre X => pre = [] ∧ Below wz.heap.size wz X)
    (fun c pre X => c = .ret ∧ Chg (fun b => S b ∨ b = bx + 2 ∨ b = bx + 3) wz X ∧ Has X (bx + 2) 3 #[.int .i64 3] ∧ Has X (bx + 3) 26 #[.int .i64 0] ∧ TblS S X tb mb 3)
    (fun s X Y row hs hg hr => ⟨hs.1, ownFrom_below (β := List Int) (Nat.le_refl _) (Nat.le_refl _) s X Y row hs.2 hg hr⟩)
    (fun c s X Y row hs hg hr => ⟨hs.1, hs.2.1.grownRow (Nat.le_refl _) hg hr, at_less hs.2.2.1 hg hr (by omega), at_less hs.2.2.2.1 hg hr (by omega), hs.2.2.2.2.keep (fun b hb hs' => hg.block b hb (fun e => by have := (hr b e.symm).1; have := hS b hs'; omega))⟩)
    ⟨rfl, Below.refl _ _⟩ ?_ ?_ ?_
  · intro y lm pre x X0 hpre
    gi_wp2
    refine ⟨trivial, ?_⟩
    clear X0
    rintro X ⟨rfl, hX⟩
    obtain rfl : x = 3 := by
      obtain ⟨r, hr⟩ := hpre
      have := congrArg List.head? hr
      simp [freeL] at this
      simpa [List.range_succ_eq_map] using this
    have hXx := hXz.below hX
    have hVx := hVz.below hX
    have hIx := hIz.below hX
    have hEx := hEz.below hX
    have hKx := hKz.below hX
    have hTx := hTz.keep (KeepM.below hX)
    obtain ⟨so, ⟨cells, r1, r2, r3, r4⟩, ⟨nn, g, k1, k2, k3⟩⟩ := hTx
    have q0 : ∀ V : Gr X, V.1.cell? ⟨bx, 0, none⟩ = some (.pointer (some ⟨tb, 0, none⟩)) := fun V => ((V.has hXx).cell 0).trans rfl
    have q1 : ∀ V : Gr X, V.1.cell? ⟨tb, 325, none⟩ = some (.map (some mb)) := fun V => ((V.has r1).cell 325).trans r3
    have q40 : ∀ V : Gr X, V.1.cell? ⟨bx + 4, 0, none⟩ = some (.int .i64 6) := fun V => ((V.has hKx).cell 0).trans rfl
    have q41 : ∀ V : Gr X, V.1.cell? ⟨bx + 4, 1, none⟩ = some (.int .u32 101) := fun V => ((V.has hKx).cell 1).trans rfl
    have q42 : ∀ V : Gr X, V.1.cell? ⟨bx + 4, 2, none⟩ = some (.int .i64 80) := fun V => ((V.has hKx).cell 2).trans rfl
    have q10 : ∀ V : Gr X, V.1.cell? ⟨bx + 1, 0, none⟩ = some (.int .i64 6) := fun V => ((V.has hVx).cell 0).trans rfl
    have q11 : ∀ V : Gr X, V.1.cell? ⟨bx + 1, 1, none⟩ = some (.int .u32 101) := fun V => ((V.has hVx).cell 1).trans rfl
    have q12 : ∀ V : Gr X, V.1.cell? ⟨bx + 1, 2, none⟩ = some (.int .i64 80) := fun V => ((V.has hVx).cell 2).trans rfl
    have q13 : ∀ V : Gr X, V.1.cell? ⟨bx + 1, 3, none⟩ = some (.bool true) := fun V => ((V.has hVx).cell 3).trans rfl
    have q14 : ∀ V : Gr X, V.1.cell? ⟨bx + 1, 4, none⟩ = some (.int .u32 0) := fun V => ((V.has hVx).cell 4).trans rfl
    gi_wp2
    obtain ⟨V, hVX⟩ : ∃ V : Gr X, V.1 = X.drew := ⟨⟨X.drew, (Below.refl _ _).drew⟩, rfl⟩
    have hS0 : (fun W : World => W.cell? ⟨bx, 0, none⟩ = some (.pointer (some ⟨tb, 0, none⟩)) ∧ W.cell? ⟨tb, 325, none⟩ = some (.map (some mb)) ∧ W.cell? ⟨bx + 4, 0, none⟩ = some (.int .i64 6) ∧ W.cell? ⟨bx + 4, 1, none⟩ = some (.int .u32 101) ∧ W.cell? ⟨bx + 4, 2, none⟩ = some (.int .i64 80) ∧ W.cell? ⟨bx + 1, 0, none⟩ = some (.int .i64 6) ∧ W.cell? ⟨bx + 1, 1, none⟩ = some (.int .u32 101) ∧ W.cell? ⟨bx + 1, 2, none⟩ = some (.int .i64 80) ∧ W.cell? ⟨bx + 1, 3, none⟩ = some (.bool true) ∧ W.cell? ⟨bx + 1, 4, none⟩ = some (.int .u32 0)) X.drew := ⟨hVX ▸ q0 V, hVX ▸ q1 V, hVX ▸ q40 V, hVX ▸ q41 V, hVX ▸ q42 V, hVX ▸ q10 V, hVX ▸ q11 V, hVX ▸ q12 V, hVX ▸ q13 V, hVX ▸ q14 V⟩
    have hmo : Tryz.prog.follows .mixedOrders = true := by kernel_rfl
    refine wpIn_region_any hmo ?_
    change wpAnyIn _ _ _ _ _ _ _ _ _ (World.drew _)
    refine any_round (F := Fence.wide) (by kernel_rfl) _ _ _ _ (anyIn_of_any (by kernel_rfl) (by rintro ⟨_, _, h⟩; exact h) _ _ _ _ (wpAny_of_held (S := fun W : World => W.cell? ⟨bx, 0, none⟩ = some (.pointer (some ⟨tb, 0, none⟩)) ∧ W.cell? ⟨tb, 325, none⟩ = some (.map (some mb)) ∧ W.cell? ⟨bx + 4, 0, none⟩ = some (.int .i64 6) ∧ W.cell? ⟨bx + 4, 1, none⟩ = some (.int .u32 101) ∧ W.cell? ⟨bx + 4, 2, none⟩ = some (.int .i64 80) ∧ W.cell? ⟨bx + 1, 0, none⟩ = some (.int .i64 6) ∧ W.cell? ⟨bx + 1, 1, none⟩ = some (.int .u32 101) ∧ W.cell? ⟨bx + 1, 2, none⟩ = some (.int .i64 80) ∧ W.cell? ⟨bx + 1, 3, none⟩ = some (.bool true) ∧ W.cell? ⟨bx + 1, 4, none⟩ = some (.int .u32 0)) _ _ _ _ ?_))
    clear q0 q1 q40 q41 q42 q10 q11 q12 q13 q14 hVX V
    refine wpAnyH_take (i := 0) (v := .pointer (some ⟨tb, 0, none⟩)) rfl (by kernel_rfl) (by kernel_rfl) (by kernel_rfl) (fun _ _ _ h => h) (Or.inl ⟨by rfl, ?_⟩) hS0 ?_
    · rintro W0 ⟨s0, s1, s40, s41, s42, s10, s11, s12, s13, s14⟩
      go_simp
    refine wpAnyH_take (i := 1) (v := .int .i64 3) rfl (by kernel_rfl) (by kernel_rfl) (by kernel_rfl) (fun _ _ _ h => h) (Or.inl ⟨by rfl, ?_⟩) hS0 ?_
    · rintro W0 ⟨s0, s1, s40, s41, s42, s10, s11, s12, s13, s14⟩
      go_simp
    refine wpAnyH_take (i := 2) (v := .pointer (some ⟨tb, 0, none⟩)) rfl (by kernel_rfl) (by kernel_rfl) (by kernel_rfl) (fun _ _ _ h => h) (Or.inl ⟨by rfl, ?_⟩) hS0 ?_
    · rintro W0 ⟨s0, s1, s40, s41, s42, s10, s11, s12, s13, s14⟩
      go_simp
    refine wpAnyH_take (i := 3) (v := .pointer (some ⟨tb, 0, none⟩)) rfl (by kernel_rfl) (by kernel_rfl) (by kernel_rfl) (fun _ _ _ h => h) (Or.inl ⟨by rfl, ?_⟩) hS0 ?_
    · rintro W0 ⟨s0, s1, s40, s41, s42, s10, s11, s12, s13, s14⟩
      go_simp
    refine wpAnyH_take (i := 4) (v := .pointer (some ⟨tb, 325, none⟩)) rfl (by kernel_rfl) (by kernel_rfl) (by kernel_rfl) (fun _ _ _ h => h) (Or.inl ⟨by rfl, ?_⟩) hS0 ?_
    · rintro W0 ⟨s0, s1, s40, s41, s42, s10, s11, s12, s13, s14⟩
      go_simp
    refine wpAnyH_take (i := 5) (v := .map (some mb)) rfl (by kernel_rfl) (by kernel_rfl) (by kernel_rfl) (fun _ _ _ h => h) (Or.inl ⟨by rfl, ?_⟩) hS0 ?_
    · rintro W0 ⟨s0, s1, s40, s41, s42, s10, s11, s12, s13, s14⟩
      go_simp
    refine wpAnyH_take (i := 6) (v := .agg #[.int .i64 6, .int .u32 101, .int .i64 80]) rfl (by kernel_rfl) (by kernel_rfl) (by kernel_rfl) (fun _ _ _ h => h) (Or.inl ⟨by rfl, ?_⟩) hS0 ?_
    · rintro W0 ⟨s0, s1, s40, s41, s42, s10, s11, s12, s13, s14⟩
      go_simp
    refine wpAnyH_take (i := 7) (v := .agg #[.int .i64 6, .int .u32 101, .int .i64 80, .bool true, .int .u32 0]) rfl (by kernel_rfl) (by kernel_rfl) (by kernel_rfl) (fun _ _ _ h => h) (Or.inl ⟨by rfl, ?_⟩) hS0 ?_
    · rintro W0 ⟨s0, s1, s40, s41, s42, s10, s11, s12, s13, s14⟩
      go_simp
    refine wpAnyH_take (i := 8) (v := .int .i64 3) rfl (by kernel_rfl) (by kernel_rfl) (by kernel_rfl) (fun _ _ _ h => h) (Or.inl ⟨by rfl, ?_⟩) hS0 ?_
    · rintro W0 ⟨s0, s1, s40, s41, s42, s10, s11, s12, s13, s14⟩
      go_simp
    refine wpAnyH_take (i := 9) (v := .pointer (some ⟨tb, 0, none⟩)) rfl (by kernel_rfl) (by kernel_rfl) (by kernel_rfl) (fun _ _ _ h => h) (Or.inl ⟨by rfl, ?_⟩) hS0 ?_
    · rintro W0 ⟨s0, s1, s40, s41, s42, s10, s11, s12, s13, s14⟩
      go_simp
    refine wpAnyH_take (i := 10) (v := .pointer (some ⟨tb, 0, none⟩)) rfl (by kernel_rfl) (by kernel_rfl) (by kernel_rfl) (fun _ _ _ h => h) (Or.inl ⟨by rfl, ?_⟩) hS0 ?_
    · rintro W0 ⟨s0, s1, s40, s41, s42, s10, s11, s12, s13, s14⟩
      go_simp
    refine wpAnyH_take (i := 11) (v := .pointer (some ⟨tb, 15, none⟩)) rfl (by kernel_rfl) (by kernel_rfl) (by kernel_rfl) (fun _ _ _ h => h) (Or.inl ⟨by rfl, ?_⟩) hS0 ?_
    · rintro W0 ⟨s0, s1, s40, s41, s42, s10, s11, s12, s13, s14⟩
      go_simp
    have tlx := r1.lt
    have u0 : X.cell? ⟨tb, 15, none⟩ = some (.int .i64 0) := (r1.cell 15).trans (r4 3 0 (by decide) (by decide))
    have fu0 : X.frozen? ⟨tb, 15, none⟩ = false := r1.free 15
    have u1 : X.cell? ⟨tb, 16, none⟩ = some (.int .u32 0) := (r1.cell 16).trans (r4 3 1 (by decide) (by decide))
    have fu1 : X.frozen? ⟨tb, 16, none⟩ = false := r1.free 16
    have u2 : X.cell? ⟨tb, 17, none⟩ = some (.int .i64 0) := (r1.cell 17).trans (r4 3 2 (by decide) (by decide))
    have fu2 : X.frozen? ⟨tb, 17, none⟩ = false := r1.free 17
    have u3 : X.cell? ⟨tb, 18, none⟩ = some (.bool false) := (r1.cell 18).trans (r4 3 3 (by decide) (by decide))
    have fu3 : X.frozen? ⟨tb, 18, none⟩ = false := r1.free 18
    have u4 : X.cell? ⟨tb, 19, none⟩ = some (.int .u32 0) := (r1.cell 19).trans (r4 3 4 (by decide) (by decide))
    have fu4 : X.frozen? ⟨tb, 19, none⟩ = false := r1.free 19
    refine wpAnyH_ready (rs := [12]) (by kernel_rfl) (by simp) (AllReadyH.cons rfl (fun K hK => ?_) AllReadyH.nil)
    go_simp
    have y0 := ((((((hXx).setOther (c := tb) 15 (by omega) (.int .i64 6)).setOther (c := tb) 16 (by omega) (.int .u32 101)).setOther (c := tb) 17 (by omega) (.int .i64 80)).setOther (c := tb) 18 (by omega) (.bool true)).setOther (c := tb) 19 (by omega) (.int .u32 0)).drew
    have y1 := ((((((hVx).setOther (c := tb) 15 (by omega) (.int .i64 6)).setOther (c := tb) 16 (by omega) (.int .u32 101)).setOther (c := tb) 17 (by omega) (.int .i64 80)).setOther (c := tb) 18 (by omega) (.bool true)).setOther (c := tb) 19 (by omega) (.int .u32 0)).drew
    have y2 := ((((((hIx).setOther (c := tb) 15 (by omega) (.int .i64 6)).setOther (c := tb) 16 (by omega) (.int .u32 101)).setOther (c := tb) 17 (by omega) (.int .i64 80)).setOther (c := tb) 18 (by omega) (.bool true)).setOther (c := tb) 19 (by omega) (.int .u32 0)).drew
    have y3 := ((((((hEx).setOther (c := tb) 15 (by omega) (.int .i64 6)).setOther (c := tb) 16 (by omega) (.int .u32 101)).setOther (c := tb) 17 (by omega) (.int .i64 80)).setOther (c := tb) 18 (by omega) (.bool true)).setOther (c := tb) 19 (by omega) (.int .u32 0)).drew
    have y4 := ((((((hKx).setOther (c := tb) 15 (by omega) (.int .i64 6)).setOther (c := tb) 16 (by omega) (.int .u32 101)).setOther (c := tb) 17 (by omega) (.int .i64 80)).setOther (c := tb) 18 (by omega) (.bool true)).setOther (c := tb) 19 (by omega) (.int .u32 0)).drew
    have yT := ((((((r1).set 15 (.int .i64 6)).set 16 (.int .u32 101)).set 17 (.int .i64 80)).set 18 (.bool true)).set 19 (.int .u32 0)).drew
    have yC := (((((((Chg.refl (fun b => b = tb ∨ b = mb ∨ b = bx + 2 ∨ b = bx + 3) X)).set (b := tb) (.inl rfl) 15 (.int .i64 6)).set (b := tb) (.inl rfl) 16 (.int .u32 101)).set (b := tb) (.inl rfl) 17 (.int .i64 80)).set (b := tb) (.inl rfl) 18 (.bool true)).set (b := tb) (.inl rfl) 19 (.int .u32 0)).drew
    have yk : KMap S ((((((X).setCell ⟨tb, 15, none⟩ (.int .i64 6)).setCell ⟨tb, 16, none⟩ (.int .u32 101)).setCell ⟨tb, 17, none⟩ (.int .i64 80)).setCell ⟨tb, 18, none⟩ (.bool true)).setCell ⟨tb, 19, none⟩ (.int .u32 0)).drew 193 mb nn g := k1.keep1 ((Below.heap_setCell _ _ _ _ (k1.ne r1)).trans ((Below.heap_setCell _ _ _ _ (k1.ne r1)).trans ((Below.heap_setCell _ _ _ _ (k1.ne r1)).trans ((Below.heap_setCell _ _ _ _ (k1.ne r1)).trans (Below.heap_setCell _ _ _ _ (k1.ne r1))))))
    obtain ⟨W1, hW1⟩ : ∃ W, W = ((((((X).setCell ⟨tb, 15, none⟩ (.int .i64 6)).setCell ⟨tb, 16, none⟩ (.int .u32 101)).setCell ⟨tb, 17, none⟩ (.int .i64 80)).setCell ⟨tb, 18, none⟩ (.bool true)).setCell ⟨tb, 19, none⟩ (.int .u32 0)).drew := ⟨_, rfl⟩
    rw [← hW1] at y0 y1 y2 y3 y4 yT yC yk ⊢
    clear hW1 u0 u1 u2 u3 u4 fu0 fu1 fu2 fu3 fu4 hS0
    have hno : g (svcKey 3) = none := by rw [k3 3 (by decide) (by decide)]; rfl
    classical
    obtain ⟨wA, sA, rA, tA, nA⟩ := yk.entry (g' := fun v => if v = svcKey 3 then some (.int .i64 3) else g v) keyed193 Tryz.underlying174 zero3w (svcKey 3) keyOf3 hno (by omega) (.int .i64 3) (by simp) (fun v hv => by simp [hv])
    obtain ⟨wB, rB, kB, tB⟩ := nA wA rfl
    have rA : (Instr.mapEntry 174 (.map (some mb)) (.agg #[.int .i64 6, .int .u32 101, .int .i64 80])).run Tryz.prog W1 = .ok (.tuple #[.int .i64 0, .int .i64 sA]) wA := rA
    have T0 : Keep (fun _ => True) W1 W1 := fun _ _ _ _ h => h
    have T1 := T0.trans (Keep.turned tA)
    have T2 := T1.trans (Keep.turned tB)
    have KS : ∀ W, Keep (fun _ => True) W1 W → (fun W : World => W.cell? ⟨bx, 0, none⟩ = some (.pointer (some ⟨tb, 0, none⟩)) ∧ W.cell? ⟨tb, 325, none⟩ = some (.map (some mb)) ∧ W.cell? ⟨bx + 4, 0, none⟩ = some (.int .i64 6) ∧ W.cell? ⟨bx + 4, 1, none⟩ = some (.int .u32 101) ∧ W.cell? ⟨bx + 4, 2, none⟩ = some (.int .i64 80) ∧ W.cell? ⟨bx + 1, 0, none⟩ = some (.int .i64 6) ∧ W.cell? ⟨bx + 1, 1, none⟩ = some (.int .u32 101) ∧ W.cell? ⟨bx + 1, 2, none⟩ = some (.int .i64 80) ∧ W.cell? ⟨bx + 1, 3, none⟩ = some (.bool true) ∧ W.cell? ⟨bx + 1, 4, none⟩ = some (.int .u32 0)) W := fun W k => by
      have a0 := k _ _ _ trivial y0
      have a1 := k _ _ _ trivial y1
      have a4 := k _ _ _ trivial y4
      have aT := k _ _ _ trivial yT
      refine ⟨(a0.cell 0).trans rfl, (aT.cell 325).trans ?_, (a4.cell 0).trans rfl, (a4.cell 1).trans rfl, (a4.cell 2).trans rfl, (a1.cell 0).trans rfl, (a1.cell 1).trans rfl, (a1.cell 2).trans rfl, (a1.cell 3).trans rfl, (a1.cell 4).trans rfl⟩
      simp [Array.getElem?_setIfInBounds, r3]
    have z2 := T2 _ _ _ trivial y2
    have z3 := T2 _ _ _ trivial y3
    have zT := T2 _ _ _ trivial yT
    have zC := (yC.trans (Chg.turned tA (.inr (.inl rfl)))).trans (Chg.turned tB (.inr (.inl rfl)))
    refine hK.out _ _ (KS _ T0) (fun _ => ?_)
    clear hK K
    refine wpAnyH_ready (rs := [13]) (by kernel_rfl) (by simp) (AllReadyH.cons rfl (fun K hK => ?_) AllReadyH.nil)
    go_simp
    refine hK.out _ _ (KS _ T1) (fun _ => ?_)
    clear hK K
    refine wpAnyH_ready (rs := [14]) (by kernel_rfl) (by simp) (AllReadyH.cons rfl (fun K hK => ?_) AllReadyH.nil)
    go_simp
    refine hK.out _ _ (KS _ T1) (fun _ => ?_)
    clear hK K
    refine wpAnyH_ready (rs := [15]) (by kernel_rfl) (by simp) (AllReadyH.cons rfl (fun K hK => ?_) AllReadyH.nil)
    go_simp
    refine hK.out _ _ (KS _ T2) (fun _ => ?_)
    clear hK K
    refine wpAnyH_done (by kernel_rfl) ?_ _
    have i0 := z2.cell 0
    have fi0 := z2.free 0
    have e0 := z3.cell 0
    have fe0 := z3.free 0
    simp at i0 e0
    have n23 : bx + 2 ≠ bx + 3 := by omega
    gi_wp2
    have zF : Chg (fun b => b = tb ∨ b = mb ∨ b = bx + 2 ∨ b = bx + 3) X ((wB.setCell ⟨bx + 2, 0, none⟩ (.int .i64 3)).setCell ⟨bx + 3, 0, none⟩ (.int .i64 0)) := (zC.set (b := bx + 2) (.inr (.inr (.inl rfl))) 0 _).set (b := bx + 3) (.inr (.inr (.inr rfl))) 0 _
    refine ⟨(KB.refl _ _ X).chg zF (fun _ _ q => q) (fun b hb h o ho => ?_), rfl, ?_, ?_, ?_, ?_⟩
    · rcases h with rfl | rfl | rfl | rfl
      · exact r1.nl ho
      · exact k1.nl ho
      · exact hIx.nl ho
      · exact hEx.nl ho
    · refine ⟨zF.os.trans hX.os, zF.tape.trans hX.tape, zF.output.trans hX.output, Nat.le_trans hX.size zF.size, fun b hb hn => (zF.block b (Nat.lt_of_lt_of_le hb hX.size) ?_).trans (hX.block b hb)⟩
      rintro (rfl | rfl | h | h)
      · exact hn (.inl st)
      · exact hn (.inl sm)
      · exact hn (.inr (.inl h))
      · exact hn (.inr (.inr h))
    · have := (z2.set 0 (.int .i64 3)).setOther (c := bx + 3) 0 (by omega) (.int .i64 0)
      simpa using this
    · have := (z3.setOther (c := bx + 2) 0 (by omega) (.int .i64 3)).set 0 (.int .i64 0)
      simpa using this
    · have nb2 : mb ≠ bx + 2 := fun e => by have := hS _ sm; omega
      have nb3 : mb ≠ bx + 3 := fun e => by have := hS _ sm; omega
      refine ⟨so, ⟨_, (zT.setOther (c := bx + 2) 0 (by omega) (.int .i64 3)).setOther (c := bx + 3) 0 (by omega) (.int .i64 0), by simpa using r2, by simp [Array.getElem?_setIfInBounds, r3], fun id j hid hj => ?_⟩, ⟨nn + 1, _, kB.keep1 ((Below.heap_setCell _ _ _ _ nb3).trans (Below.heap_setCell _ _ _ _ nb2)), by omega, fun q hq1 hq4 => ?_⟩⟩
      · have h4 := r4 id j hid hj
        by_cases e : id = 3
        · subst e
          obtain rfl | rfl | rfl | rfl | rfl : j = 0 ∨ j = 1 ∨ j = 2 ∨ j = 3 ∨ j = 4 := by omega
          all_goals (simp [Array.getElem?_setIfInBounds, r2]; rfl)
        · rw [show (if id ≤ 3 then id else 0) = if id ≤ 2 then id else 0 by split <;> split <;> omega, ← h4]
          have w0 : 15 ≠ id * 5 + j := by omega
          have w1 : 16 ≠ id * 5 + j := by omega
          have w2 : 17 ≠ id * 5 + j := by omega
          have w3 : 18 ≠ id * 5 + j := by omega
          have w4 : 19 ≠ id * 5 + j := by omega
          simp [Array.getElem?_setIfInBounds_ne, w0, w1, w2, w3, w4]
      · obtain rfl | rfl | rfl | rfl : q = 1 ∨ q = 2 ∨ q = 3 ∨ q = 4 := by omega
        · rw [if_neg (by simp [svcKey, svcC]), k3 1 (by decide) (by decide)]
          rfl
        · rw [if_neg (by simp [svcKey, svcC]), k3 2 (by decide) (by decide)]
          rfl
        · simp
        · rw [if_neg (by simp [svcKey, svcC]), k3 4 (by decide) (by decide)]
          rfl
  · rintro D X hD ⟨h0, _⟩ hK
    simp [freeL] at h0
  rintro D c pre X hD hp ⟨rfl, hCx, hIx, hEx, hTx⟩ hK
  refine wpIn_wide.2 ?_
  go_wp2_with fail
  have K9 := Keep.putObj (S := fun _ => True) X D _ (.deferred none) hK rfl
  have i0 := (K9 _ _ _ trivial hIx).cell 0
  have e0 := (K9 _ _ _ trivial hEx).cell 0
  simp at i0 e0
  have hDb : bx ≤ D := by have : wz.heap.size ≤ D := hD; omega
  refine ⟨by simp, .inl ⟨_, _, rfl, run_takeDeferred hK, .tuple #[.int .i64 3, .int .i64 0], ?_, rfl, ?_, ?_⟩⟩
  · simp [results, Tryz.f34, go_sem, i0, e0]
  · exact hTx.keep (fun b hb hs => World.putObj_heap_other (by have := hS b hs; omega))
  · refine Chg.putObj ?_ D _ (by have := HBX.out; omega)
    have e := HBX.out
    exact ⟨hCx.os.trans hbz.os, hCx.tape.trans hbz.tape, hCx.output.trans hbz.output, by have := hCx.size; have := hbz.size; omega, fun b hb hn => (hCx.block b (by have := hbz.size; omega) (by rintro (h | h | h); exact hn h; omega; omega)).trans (hbz.block b (by omega))⟩
theorem sadd3_c (S : Nat → Prop) (tb mb : Nat) (w : World) (h : TblS S w tb mb 2) :
    Calls Tryz.prog 34 #[.pointer (some ⟨tb, 0, none⟩), .agg #[.int .i64 6, .int .u32 101, .int .i64 80, .bool true, .int .u32 0]] w fun e w' => e = .returned (.tuple #[.int .i64 3, .int .i64 0]) ∧ TblS S w' tb mb 3 ∧ Chg S w w' :=
  (sadd3_t _ tb mb w (fun b h => h.2) h.cut).mono fun e w' ⟨he, hp, hc⟩ => ⟨he, hp.mono (fun b h => h.1), hc.mono (fun b _ h => h.1)⟩
set_option maxRecDepth 100000 in
set_option maxHeartbeats 3200000 in
theorem sadd4_t (S : Nat → Prop) (tb mb : Nat) (w : World) (hS : ∀ b, S b → b < w.heap.size) (h : TblS S w tb mb 3) :
    Calls Tryz.prog 34 #[.pointer (some ⟨tb, 0, none⟩), .agg #[.int .i64 17, .int .u32 102, .int .i64 9, .bool false, .int .u32 201]] w fun e w' => e = .returned (.tuple #[.int .i64 4, .int .i64 0]) ∧ TblS S w' tb mb 4 ∧ Chg S w w' := by
  have HR := Lib.hid sright4_c
  have HF := Lib.hid (free_c tb)
  have h0 := Lib.hid h
  have tl : tb < w.heap.size := hS _ h.own
  clear h
  refine (callsIn_wide (n := 5)).1 ?_
  refine callsIn_of_wp_marks Tryz.func34 rfl trivial ?_ rfl
  simp only [Tryz.ntmps34, List.size_toArray, List.length_cons, List.length_nil, Nat.reduceAdd, Nat.reduceSub, Array.replicate_succ, Array.replicate_zero, List.push_toArray, List.append_toArray, List.nil_append, List.cons_append]
  refine wpIn_wide.2 ?_
  go_wp2_with fail
  have hX1 : Has ((((((w).alloc (.cells #[.pointer (some ⟨tb, 0, none⟩)] 76)).alloc (.cells #[.int .i64 17, .int .u32 102, .int .i64 9, .bool false, .int .u32 201] 63)).alloc (.cells #[.int .i64 0] 3)).alloc (.cells #[.int .i64 0] 26)).alloc (.cells #[.int .i64 17, .int .u32 102, .int .i64 9] 193)) (w.heap.size + 0) 76 #[.pointer (some ⟨tb, 0, none⟩)] := ((((Has.new w _ _).alloc _).alloc _).alloc _).alloc _
  have hV1 : Has ((((((w).alloc (.cells #[.pointer (some ⟨tb, 0, none⟩)] 76)).alloc (.cells #[.int .i64 17, .int .u32 102, .int .i64 9, .bool false, .int .u32 201] 63)).alloc (.cells #[.int .i64 0] 3)).alloc (.cells #[.int .i64 0] 26)).alloc (.cells #[.int .i64 17, .int .u32 102, .int .i64 9] 193)) (w.heap.size + 1) 63 #[.int .i64 17, .int .u32 102, .int .i64 9, .bool false, .int .u32 201] := (((has_made (by simp)).alloc _).alloc _).alloc _
  have hI1 : Has ((((((w).alloc (.cells #[.pointer (some ⟨tb, 0, none⟩)] 76)).alloc (.cells #[.int .i64 17, .int .u32 102, .int .i64 9, .bool false, .int .u32 201] 63)).alloc (.cells #[.int .i64 0] 3)).alloc (.cells #[.int .i64 0] 26)).alloc (.cells #[.int .i64 17, .int .u32 102, .int .i64 9] 193)) (w.heap.size + 2) 3 #[.int .i64 0] := ((has_made (by simp)).alloc _).alloc _
  have hE1 : Has ((((((w).alloc (.cells #[.pointer (some ⟨tb, 0, none⟩)] 76)).alloc (.cells #[.int .i64 17, .int .u32 102, .int .i64 9, .bool false, .int .u32 201] 63)).alloc (.cells #[.int .i64 0] 3)).alloc (.cells #[.int .i64 0] 26)).alloc (.cells #[.int .i64 17, .int .u32 102, .int .i64 9] 193)) (w.heap.size + 3) 26 #[.int .i64 0] := (has_made (by simp)).alloc _
  have hK1 : Has ((((((w).alloc (.cells #[.pointer (some ⟨tb, 0, none⟩)] 76)).alloc (.cells #[.int .i64 17, .int .u32 102, .int .i64 9, .bool false, .int .u32 201] 63)).alloc (.cells #[.int .i64 0] 3)).alloc (.cells #[.int .i64 0] 26)).alloc (.cells #[.int .i64 17, .int .u32 102, .int .i64 9] 193)) (w.heap.size + 4) 193 #[.int .i64 17, .int .u32 102, .int .i64 9] := has_made (by simp)
  have hb1 : Below w.heap.size w ((((((w).alloc (.cells #[.pointer (some ⟨tb, 0, none⟩)] 76)).alloc (.cells #[.int .i64 17, .int .u32 102, .int .i64 9, .bool false, .int .u32 201] 63)).alloc (.cells #[.int .i64 0] 3)).alloc (.cells #[.int .i64 0] 26)).alloc (.cells #[.int .i64 17, .int .u32 102, .int .i64 9] 193)) := (((((Below.refl w.heap.size w).alloc (Nat.le_refl _) _).alloc (by simp) _).alloc (by simp; omega) _).alloc (by simp; omega) _).alloc (by simp; omega) _
  have hT1 := h0.out.keep (KeepM.below hb1)
  have z1 : (((((((w).alloc (.cells #[.pointer (some ⟨tb, 0, none⟩)] 76)).alloc (.cells #[.int .i64 17, .int .u32 102, .int .i64 9, .bool false, .int .u32 201] 63)).alloc (.cells #[.int .i64 0] 3)).alloc (.cells #[.int .i64 0] 26)).alloc (.cells #[.int .i64 17, .int .u32 102, .int .i64 9] 193))).heap.size = w.heap.size + 5 := by simp
  obtain ⟨w1, hw⟩ : ∃ W, W = ((((((w).alloc (.cells #[.pointer (some ⟨tb, 0, none⟩)] 76)).alloc (.cells #[.int .i64 17, .int .u32 102, .int .i64 9, .bool false, .int .u32 201] 63)).alloc (.cells #[.int .i64 0] 3)).alloc (.cells #[.int .i64 0] 26)).alloc (.cells #[.int .i64 17, .int .u32 102, .int .i64 9] 193)) := ⟨_, rfl⟩
  rw [← hw] at hX1 hV1 hI1 hE1 hK1 hb1 hT1 z1 ⊢
  obtain ⟨bx, hbx⟩ : ∃ b, b = w.heap.size := ⟨_, rfl⟩
  have HS := Lib.hid hS
  rw [← hbx] at hX1 hV1 hI1 hE1 hK1 hb1 z1 hS tl ⊢
  have HBX := Lib.hid hbx
  clear hw hbx h0
  simp only [Nat.add_assoc, Nat.reduceAdd, Nat.add_zero] at hX1 ⊢
  have KA : Hid (∀ W, Below w1.heap.size w1 W → W.cell? ⟨bx, 0, none⟩ = some (.pointer (some ⟨tb, 0, none⟩)) ∧ W.cell? ⟨tb, 325, none⟩ = some (.map (some mb)) ∧ W.cell? ⟨bx + 4, 0, none⟩ = some (.int .i64 17) ∧ W.cell? ⟨bx + 4, 1, none⟩ = some (.int .u32 102) ∧ W.cell? ⟨bx + 4, 2, none⟩ = some (.int .i64 9) ∧ (Instr.lookup 174 (.map (some mb)) (.agg #[.int .i64 17, .int .u32 102, .int .i64 9]) true).run Tryz.prog W = .ok (.tuple #[.int .i64 0, .bool false]) W) := fun W hW => by
    obtain ⟨_, ⟨cells, r1, r2, r3, r4⟩, ⟨n, g, k1, k2, k3⟩⟩ := hT1.keep (KeepM.below hW)
    exact ⟨((hX1.below hW).cell 0).trans rfl, (r1.cell 325).trans r3, ((hK1.below hW).cell 0).trans rfl, ((hK1.below hW).cell 1).trans rfl, ((hK1.below hW).cell 2).trans rfl, k1.look_ok keyed193 Tryz.underlying174 zero3w (svcKey 4) keyOf4 _ _ (by rw [k3 4 (by decide) (by decide)]; rfl) (by rw [k3 4 (by decide) (by decide)]; rfl)⟩
  go_region_held3 (fun W => W.cell? ⟨bx, 0, none⟩ = some (.pointer (some ⟨tb, 0, none⟩)) ∧ W.cell? ⟨tb, 325, none⟩ = some (.map (some mb)) ∧ W.cell? ⟨bx + 4, 0, none⟩ = some (.int .i64 17) ∧ W.cell? ⟨bx + 4, 1, none⟩ = some (.int .u32 102) ∧ W.cell? ⟨bx + 4, 2, none⟩ = some (.int .i64 9) ∧ (Instr.lookup 174 (.map (some mb)) (.agg #[.int .i64 17, .int .u32 102, .int .i64 9]) true).run Tryz.prog W = .ok (.tuple #[.int .i64 0, .bool false]) W) (first | exact KA.out _ ((Below.refl _ _).drew)) (fail)
  have hX2 := hX1.drew
  have hV2 := hV1.drew
  have hI2 := hI1.drew
  have hE2 := hE1.drew
  have hK2 := hK1.drew
  have hb2 := hb1.drew
  have hT2 : TblS S w1.drew tb mb 3 := hT1.keep (fun _ _ _ => rfl)
  have z2 : w1.drew.heap.size = bx + 5 := z1
  clear hX1 hV1 hI1 hE1 hK1 hb1 hT1 z1 KA
  generalize w1.drew = w2 at hX2 hV2 hI2 hE2 hK2 hb2 hT2 z2 ⊢
  have v0 := hV2.cell 0
  have v1 := hV2.cell 1
  have v2 := hV2.cell 2
  have v3 := hV2.cell 3
  have v4 := hV2.cell 4
  simp at v0 v1 v2 v3 v4
  go_wp2_with fail
  refine (HR.out _).mono ?_
  rintro e w3 ⟨rfl, b3⟩
  have hX3 := hX2.below b3
  have hV3 := hV2.below b3
  have hI3 := hI2.below b3
  have hE3 := hE2.below b3
  have hK3 := hK2.below b3
  have hb3 := hb2.trans (b3.mono (by omega))
  have hT3 := hT2.keep (KeepM.below b3)
  have z3 : bx + 5 ≤ w3.heap.size := by have := b3.size; omega
  have x0 := hX3.cell 0
  simp at x0
  clear hX2 hV2 hI2 hE2 hK2 hb2 hT2 z2 b3 v0 v1 v2 v3 v4
  go_wp2_with fail
  refine (HF.out _).mono ?_
  rintro e w4 ⟨rfl, rfl⟩
  obtain ⟨fb, hfb⟩ : ∃ b, b = w3.heap.size := ⟨_, rfl⟩
  have hXz := hX3.alloc (.cells #[.pointer (some ⟨tb, 0, none⟩)] 76)
  have hVz := hV3.alloc (.cells #[.pointer (some ⟨tb, 0, none⟩)] 76)
  have hIz := hI3.alloc (.cells #[.pointer (some ⟨tb, 0, none⟩)] 76)
  have hEz := hE3.alloc (.cells #[.pointer (some ⟨tb, 0, none⟩)] 76)
  have hKz := hK3.alloc (.cells #[.pointer (some ⟨tb, 0, none⟩)] 76)
  have hbz := hb3.alloc (by omega) (.cells #[.pointer (some ⟨tb, 0, none⟩)] 76)
  have hTz := hT3.keep (KeepM.alloc _ _ (.cells #[.pointer (some ⟨tb, 0, none⟩)] 76))
  have hBz : Has (w3.alloc (.cells #[.pointer (some ⟨tb, 0, none⟩)] 76)) fb 76 #[.pointer (some ⟨tb, 0, none⟩)] := has_made hfb
  have zz : (w3.alloc (.cells #[.pointer (some ⟨tb, 0, none⟩)] 76)).heap.size = fb + 1 := by simp; omega
  have hf5 : bx + 5 ≤ fb := by omega
  go_wp2_with fail
  try rw [← hfb]
  obtain ⟨wz, hw⟩ : ∃ W, W = (w3.alloc (.cells #[.pointer (some ⟨tb, 0, none⟩)] 76)) := ⟨_, rfl⟩
  rw [← hw] at hXz hVz hIz hEz hKz hbz hTz hBz zz ⊢
  clear hw hX3 hV3 hI3 hE3 hK3 hb3 hT3 z3 x0 hfb
  have SQ := free_seq (w := wz) S (fun b => b < fb + 1) fb tb mb 3 (by decide) hBz hTz (by omega) (fun b hb => by have := hS b hb; omega)
  have hMlt : mb < wz.heap.size := by obtain ⟨_, _, ⟨n, g, k1, _⟩⟩ := hTz; exact k1.lt
  have sm : S mb := by obtain ⟨_, _, ⟨n, g, k1, _⟩⟩ := hTz; exact k1.1
  have st := hTz.own
  refine (wpIn_wide (n := 5)).1 ?_
  refine wp_rangeS (gf := 105) (lb := #[.pointer (some ⟨fb, 0, none⟩)]) rfl (enters_of Tryz.func105 (by kernel_rfl) rfl) SQ (Below.refl _ _) (fun b h => by have h' : b < fb + 1 := h; omega) (fun _ => rfl)
    (fun pre X => pre = [] ∧ Below wz.heap.size wz X)
    (fun c pre X => c = .ret ∧ Chg (fun b => S b ∨ b = bx + 2 ∨ b = bx + 3) wz X ∧ Has X (bx + 2) 3 #[.int .i64 4] ∧ Has X (bx + 3) 26 #[.int .i64 0] ∧ TblS S X tb mb 4)
    (fun s X Y row hs hg hr => ⟨hs.1, ownFrom_below (β := List Int) (Nat.le_refl _) (Nat.le_refl _) s X Y row hs.2 hg hr⟩)
    (fun c s X Y row hs hg hr => ⟨hs.1, hs.2.1.grownRow (Nat.le_refl _) hg hr, at_less hs.2.2.1 hg hr (by omega), at_less hs.2.2.2.1 hg hr (by omega), hs.2.2.2.2.keep (fun b hb hs' => hg.block b hb (fun e => by have := (hr b e.symm).1; have := hS b hs'; omega))⟩)
    ⟨rfl, Below.refl _ _⟩ ?_ ?_ ?_
  · intro y lm pre x X0 hpre
    gi_wp2
    refine ⟨trivial, ?_⟩
    clear X0
    rintro X ⟨rfl, hX⟩
    obtain rfl : x = 4 := by
      obtain ⟨r, hr⟩ := hpre
      have := congrArg List.head? hr
      simp [freeL] at this
      simpa [List.range_succ_eq_map] using this
    have hXx := hXz.below hX
    have hVx := hVz.below hX
    have hIx := hIz.below hX
    have hEx := hEz.below hX
    have hKx := hKz.below hX
    have hTx := hTz.keep (KeepM.below hX)
    obtain ⟨so, ⟨cells, r1, r2, r3, r4⟩, ⟨nn, g, k1, k2, k3⟩⟩ := hTx
    have q0 : ∀ V : Gr X, V.1.cell? ⟨bx, 0, none⟩ = some (.pointer (some ⟨tb, 0, none⟩)) := fun V => ((V.has hXx).cell 0).trans rfl
    have q1 : ∀ V : Gr X, V.1.cell? ⟨tb, 325, none⟩ = some (.map (some mb)) := fun V => ((V.has r1).cell 325).trans r3
    have q40 : ∀ V : Gr X, V.1.cell? ⟨bx + 4, 0, none⟩ = some (.int .i64 17) := fun V => ((V.has hKx).cell 0).trans rfl
    have q41 : ∀ V : Gr X, V.1.cell? ⟨bx + 4, 1, none⟩ = some (.int .u32 102) := fun V => ((V.has hKx).cell 1).trans rfl
    have q42 : ∀ V : Gr X, V.1.cell? ⟨bx + 4, 2, none⟩ = some (.int .i64 9) := fun V => ((V.has hKx).cell 2).trans rfl
    have q10 : ∀ V : Gr X, V.1.cell? ⟨bx + 1, 0, none⟩ = some (.int .i64 17) := fun V => ((V.has hVx).cell 0).trans rfl
    have q11 : ∀ V : Gr X, V.1.cell? ⟨bx + 1, 1, none⟩ = some (.int .u32 102) := fun V => ((V.has hVx).cell 1).trans rfl
    have q12 : ∀ V : Gr X, V.1.cell? ⟨bx + 1, 2, none⟩ = some (.int .i64 9) := fun V => ((V.has hVx).cell 2).trans rfl
    have q13 : ∀ V : Gr X, V.1.cell? ⟨bx + 1, 3, none⟩ = some (.bool false) := fun V => ((V.has hVx).cell 3).trans rfl
    have q14 : ∀ V : Gr X, V.1.cell? ⟨bx + 1, 4, none⟩ = some (.int .u32 201) := fun V => ((V.has hVx).cell 4).trans rfl
    gi_wp2
    obtain ⟨V, hVX⟩ : ∃ V : Gr X, V.1 = X.drew := ⟨⟨X.drew, (Below.refl _ _).drew⟩, rfl⟩
    have hS0 : (fun W : World => W.cell? ⟨bx, 0, none⟩ = some (.pointer (some ⟨tb, 0, none⟩)) ∧ W.cell? ⟨tb, 325, none⟩ = some (.map (some mb)) ∧ W.cell? ⟨bx + 4, 0, none⟩ = some (.int .i64 17) ∧ W.cell? ⟨bx + 4, 1, none⟩ = some (.int .u32 102) ∧ W.cell? ⟨bx + 4, 2, none⟩ = some (.int .i64 9) ∧ W.cell? ⟨bx + 1, 0, none⟩ = some (.int .i64 17) ∧ W.cell? ⟨bx + 1, 1, none⟩ = some (.int .u32 102) ∧ W.cell? ⟨bx + 1, 2, none⟩ = some (.int .i64 9) ∧ W.cell? ⟨bx + 1, 3, none⟩ = some (.bool false) ∧ W.cell? ⟨bx + 1, 4, none⟩ = some (.int .u32 201)) X.drew := ⟨hVX ▸ q0 V, hVX ▸ q1 V, hVX ▸ q40 V, hVX ▸ q41 V, hVX ▸ q42 V, hVX ▸ q10 V, hVX ▸ q11 V, hVX ▸ q12 V, hVX ▸ q13 V, hVX ▸ q14 V⟩
    have hmo : Tryz.prog.follows .mixedOrders = true := by kernel_rfl
    refine wpIn_region_any hmo ?_
    change wpAnyIn _ _ _ _ _ _ _ _ _ (World.drew _)
    refine any_round (F := Fence.wide) (by kernel_rfl) _ _ _ _ (anyIn_of_any (by kernel_rfl) (by rintro ⟨_, _, h⟩; exact h) _ _ _ _ (wpAny_of_held (S := fun W : World => W.cell? ⟨bx, 0, none⟩ = some (.pointer (some ⟨tb, 0, none⟩)) ∧ W.cell? ⟨tb, 325, none⟩ = some (.map (some mb)) ∧ W.cell? ⟨bx + 4, 0, none⟩ = some (.int .i64 17) ∧ W.cell? ⟨bx + 4, 1, none⟩ = some (.int .u32 102) ∧ W.cell? ⟨bx + 4, 2, none⟩ = some (.int .i64 9) ∧ W.cell? ⟨bx + 1, 0, none⟩ = some (.int .i64 17) ∧ W.cell? ⟨bx + 1, 1, none⟩ = some (.int .u32 102) ∧ W.cell? ⟨bx + 1, 2, none⟩ = some (.int .i64 9) ∧ W.cell? ⟨bx + 1, 3, none⟩ = some (.bool false) ∧ W.cell? ⟨bx + 1, 4, none⟩ = some (.int .u32 201)) _ _ _ _ ?_))
    clear q0 q1 q40 q41 q42 q10 q11 q12 q13 q14 hVX V
    refine wpAnyH_take (i := 0) (v := .pointer (some ⟨tb, 0, none⟩)) rfl (by kernel_rfl) (by kernel_rfl) (by kernel_rfl) (fun _ _ _ h => h) (Or.inl ⟨by rfl, ?_⟩) hS0 ?_
    · rintro W0 ⟨s0, s1, s40, s41, s42, s10, s11, s12, s13, s14⟩
      go_simp
    refine wpAnyH_take (i := 1) (v := .int .i64 4) rfl (by kernel_rfl) (by kernel_rfl) (by kernel_rfl) (fun _ _ _ h => h) (Or.inl ⟨by rfl, ?_⟩) hS0 ?_
    · rintro W0 ⟨s0, s1, s40, s41, s42, s10, s11, s12, s13, s14⟩
      go_simp
    refine wpAnyH_take (i := 2) (v := .pointer (some ⟨tb, 0, none⟩)) rfl (by kernel_rfl) (by kernel_rfl) (by kernel_rfl) (fun _ _ _ h => h) (Or.inl ⟨by rfl, ?_⟩) hS0 ?_
    · rintro W0 ⟨s0, s1, s40, s41, s42, s10, s11, s12, s13, s14⟩
      go_simp
    refine wpAnyH_take (i := 3) (v := .pointer (some ⟨tb, 0, none⟩)) rfl (by kernel_rfl) (by kernel_rfl) (by kernel_rfl) (fun _ _ _ h => h) (Or.inl ⟨by rfl, ?_⟩) hS0 ?_
    · rintro W0 ⟨s0, s1, s40, s41, s42, s10, s11, s12, s13, s14⟩
      go_simp
    refine wpAnyH_take (i := 4) (v := .pointer (some ⟨tb, 325, none⟩)) rfl (by kernel_rfl) (by kernel_rfl) (by kernel_rfl) (fun _ _ _ h => h) (Or.inl ⟨by rfl, ?_⟩) hS0 ?_
    · rintro W0 ⟨s0, s1, s40, s41, s42, s10, s11, s12, s13, s14⟩
      go_simp
    refine wpAnyH_take (i := 5) (v := .map (some mb)) rfl (by kernel_rfl) (by kernel_rfl) (by kernel_rfl) (fun _ _ _ h => h) (Or.inl ⟨by rfl, ?_⟩) hS0 ?_
    · rintro W0 ⟨s0, s1, s40, s41, s42, s10, s11, s12, s13, s14⟩
      go_simp
    refine wpAnyH_take (i := 6) (v := .agg #[.int .i64 17, .int .u32 102, .int .i64 9]) rfl (by kernel_rfl) (by kernel_rfl) (by kernel_rfl) (fun _ _ _ h => h) (Or.inl ⟨by rfl, ?_⟩) hS0 ?_
    · rintro W0 ⟨s0, s1, s40, s41, s42, s10, s11, s12, s13, s14⟩
      go_simp
    refine wpAnyH_take (i := 7) (v := .agg #[.int .i64 17, .int .u32 102, .int .i64 9, .bool false, .int .u32 201]) rfl (by kernel_rfl) (by kernel_rfl) (by kernel_rfl) (fun _ _ _ h => h) (Or.inl ⟨by rfl, ?_⟩) hS0 ?_
    · rintro W0 ⟨s0, s1, s40, s41, s42, s10, s11, s12, s13, s14⟩
      go_simp
    refine wpAnyH_take (i := 8) (v := .int .i64 4) rfl (by kernel_rfl) (by kernel_rfl) (by kernel_rfl) (fun _ _ _ h => h) (Or.inl ⟨by rfl, ?_⟩) hS0 ?_
    · rintro W0 ⟨s0, s1, s40, s41, s42, s10, s11, s12, s13, s14⟩
      go_simp
    refine wpAnyH_take (i := 9) (v := .pointer (some ⟨tb, 0, none⟩)) rfl (by kernel_rfl) (by kernel_rfl) (by kernel_rfl) (fun _ _ _ h => h) (Or.inl ⟨by rfl, ?_⟩) hS0 ?_
    · rintro W0 ⟨s0, s1, s40, s41, s42, s10, s11, s12, s13, s14⟩
      go_simp
    refine wpAnyH_take (i := 10) (v := .pointer (some ⟨tb, 0, none⟩)) rfl (by kernel_rfl) (by kernel_rfl) (by kernel_rfl) (fun _ _ _ h => h) (Or.inl ⟨by rfl, ?_⟩) hS0 ?_
    · rintro W0 ⟨s0, s1, s40, s41, s42, s10, s11, s12, s13, s14⟩
      go_simp
    refine wpAnyH_take (i := 11) (v := .pointer (some ⟨tb, 20, none⟩)) rfl (by kernel_rfl) (by kernel_rfl) (by kernel_rfl) (fun _ _ _ h => h) (Or.inl ⟨by rfl, ?_⟩) hS0 ?_
    · rintro W0 ⟨s0, s1, s40, s41, s42, s10, s11, s12, s13, s14⟩
      go_simp
    have tlx := r1.lt
    have u0 : X.cell? ⟨tb, 20, none⟩ = some (.int .i64 0) := (r1.cell 20).trans (r4 4 0 (by decide) (by decide))
    have fu0 : X.frozen? ⟨tb, 20, none⟩ = false := r1.free 20
    have u1 : X.cell? ⟨tb, 21, none⟩ = some (.int .u32 0) := (r1.cell 21).trans (r4 4 1 (by decide) (by decide))
    have fu1 : X.frozen? ⟨tb, 21, none⟩ = false := r1.free 21
    have u2 : X.cell? ⟨tb, 22, none⟩ = some (.int .i64 0) := (r1.cell 22).trans (r4 4 2 (by decide) (by decide))
    have fu2 : X.frozen? ⟨tb, 22, none⟩ = false := r1.free 22
    have u3 : X.cell? ⟨tb, 23, none⟩ = some (.bool false) := (r1.cell 23).trans (r4 4 3 (by decide) (by decide))
    have fu3 : X.frozen? ⟨tb, 23, none⟩ = false := r1.free 23
    have u4 : X.cell? ⟨tb, 24, none⟩ = some (.int .u32 0) := (r1.cell 24).trans (r4 4 4 (by decide) (by decide))
    have fu4 : X.frozen? ⟨tb, 24, none⟩ = false := r1.free 24
    refine wpAnyH_ready (rs := [12]) (by kernel_rfl) (by simp) (AllReadyH.cons rfl (fun K hK => ?_) AllReadyH.nil)
    go_simp
    have y0 := ((((((hXx).setOther (c := tb) 20 (by omega) (.int .i64 17)).setOther (c := tb) 21 (by omega) (.int .u32 102)).setOther (c := tb) 22 (by omega) (.int .i64 9)).setOther (c := tb) 23 (by omega) (.bool false)).setOther (c := tb) 24 (by omega) (.int .u32 201)).drew
    have y1 := ((((((hVx).setOther (c := tb) 20 (by omega) (.int .i64 17)).setOther (c := tb) 21 (by omega) (.int .u32 102)).setOther (c := tb) 22 (by omega) (.int .i64 9)).setOther (c := tb) 23 (by omega) (.bool false)).setOther (c := tb) 24 (by omega) (.int .u32 201)).drew
    have y2 := ((((((hIx).setOther (c := tb) 20 (by omega) (.int .i64 17)).setOther (c := tb) 21 (by omega) (.int .u32 102)).setOther (c := tb) 22 (by omega) (.int .i64 9)).setOther (c := tb) 23 (by omega) (.bool false)).setOther (c := tb) 24 (by omega) (.int .u32 201)).drew
    have y3 := ((((((hEx).setOther (c := tb) 20 (by omega) (.int .i64 17)).setOther (c := tb) 21 (by omega) (.int .u32 102)).setOther (c := tb) 22 (by omega) (.int .i64 9)).setOther (c := tb) 23 (by omega) (.bool false)).setOther (c := tb) 24 (by omega) (.int .u32 201)).drew
    have y4 := ((((((hKx).setOther (c := tb) 20 (by omega) (.int .i64 17)).setOther (c := tb) 21 (by omega) (.int .u32 102)).setOther (c := tb) 22 (by omega) (.int .i64 9)).setOther (c := tb) 23 (by omega) (.bool false)).setOther (c := tb) 24 (by omega) (.int .u32 201)).drew
    have yT := ((((((r1).set 20 (.int .i64 17)).set 21 (.int .u32 102)).set 22 (.int .i64 9)).set 23 (.bool false)).set 24 (.int .u32 201)).drew
    have yC := (((((((Chg.refl (fun b => b = tb ∨ b = mb ∨ b = bx + 2 ∨ b = bx + 3) X)).set (b := tb) (.inl rfl) 20 (.int .i64 17)).set (b := tb) (.inl rfl) 21 (.int .u32 102)).set (b := tb) (.inl rfl) 22 (.int .i64 9)).set (b := tb) (.inl rfl) 23 (.bool false)).set (b := tb) (.inl rfl) 24 (.int .u32 201)).drew
    have yk : KMap S ((((((X).setCell ⟨tb, 20, none⟩ (.int .i64 17)).setCell ⟨tb, 21, none⟩ (.int .u32 102)).setCell ⟨tb, 22, none⟩ (.int .i64 9)).setCell ⟨tb, 23, none⟩ (.bool false)).setCell ⟨tb, 24, none⟩ (.int .u32 201)).drew 193 mb nn g := k1.keep1 ((Below.heap_setCell _ _ _ _ (k1.ne r1)).trans ((Below.heap_setCell _ _ _ _ (k1.ne r1)).trans ((Below.heap_setCell _ _ _ _ (k1.ne r1)).trans ((Below.heap_setCell _ _ _ _ (k1.ne r1)).trans (Below.heap_setCell _ _ _ _ (k1.ne r1))))))
    obtain ⟨W1, hW1⟩ : ∃ W, W = ((((((X).setCell ⟨tb, 20, none⟩ (.int .i64 17)).setCell ⟨tb, 21, none⟩ (.int .u32 102)).setCell ⟨tb, 22, none⟩ (.int .i64 9)).setCell ⟨tb, 23, none⟩ (.bool false)).setCell ⟨tb, 24, none⟩ (.int .u32 201)).drew := ⟨_, rfl⟩
    rw [← hW1] at y0 y1 y2 y3 y4 yT yC yk ⊢
    clear hW1 u0 u1 u2 u3 u4 fu0 fu1 fu2 fu3 fu4 hS0
    have hno : g (svcKey 4) = none := by rw [k3 4 (by decide) (by decide)]; rfl
    classical
    obtain ⟨wA, sA, rA, tA, nA⟩ := yk.entry (g' := fun v => if v = svcKey 4 then some (.int .i64 4) else g v) keyed193 Tryz.underlying174 zero3w (svcKey 4) keyOf4 hno (by omega) (.int .i64 4) (by simp) (fun v hv => by simp [hv])
    obtain ⟨wB, rB, kB, tB⟩ := nA wA rfl
    have rA : (Instr.mapEntry 174 (.map (some mb)) (.agg #[.int .i64 17, .int .u32 102, .int .i64 9])).run Tryz.prog W1 = .ok (.tuple #[.int .i64 0, .int .i64 sA]) wA := rA
    have T0 : Keep (fun _ => True) W1 W1 := fun _ _ _ _ h => h
    have T1 := T0.trans (Keep.turned tA)
    have T2 := T1.trans (Keep.turned tB)
    have KS : ∀ W, Keep (fun _ => True) W1 W → (fun W : World => W.cell? ⟨bx, 0, none⟩ = some (.pointer (some ⟨tb, 0, none⟩)) ∧ W.cell? ⟨tb, 325, none⟩ = some (.map (some mb)) ∧ W.cell? ⟨bx + 4, 0, none⟩ = some (.int .i64 17) ∧ W.cell? ⟨bx + 4, 1, none⟩ = some (.int .u32 102) ∧ W.cell? ⟨bx + 4, 2, none⟩ = some (.int .i64 9) ∧ W.cell? ⟨bx + 1, 0, none⟩ = some (.int .i64 17) ∧ W.cell? ⟨bx + 1, 1, none⟩ = some (.int .u32 102) ∧ W.cell? ⟨bx + 1, 2, none⟩ = some (.int .i64 9) ∧ W.cell? ⟨bx + 1, 3, none⟩ = some (.bool false) ∧ W.cell? ⟨bx + 1, 4, none⟩ = some (.int .u32 201)) W := fun W k => by
      have a0 := k _ _ _ trivial y0
      have a1 := k _ _ _ trivial y1
      have a4 := k _ _ _ trivial y4
      have aT := k _ _ _ trivial yT
      refine ⟨(a0.cell 0).trans rfl, (aT.cell 325).trans ?_, (a4.cell 0).trans rfl, (a4.cell 1).trans rfl, (a4.cell 2).trans rfl, (a1.cell 0).trans rfl, (a1.cell 1).trans rfl, (a1.cell 2).trans rfl, (a1.cell 3).trans rfl, (a1.cell 4).trans rfl⟩
      simp [Array.getElem?_setIfInBounds, r3]
    have z2 := T2 _ _ _ trivial y2
    have z3 := T2 _ _ _ trivial y3
    have zT := T2 _ _ _ trivial yT
    have zC := (yC.trans (Chg.turned tA (.inr (.inl rfl)))).trans (Chg.turned tB (.inr (.inl rfl)))
    refine hK.out _ _ (KS _ T0) (fun _ => ?_)
    clear hK K
    refine wpAnyH_ready (rs := [13]) (by kernel_rfl) (by simp) (AllReadyH.cons rfl (fun K hK => ?_) AllReadyH.nil)
    go_simp
    refine hK.out _ _ (KS _ T1) (fun _ => ?_)
    clear hK K
    refine wpAnyH_ready (rs := [14]) (by kernel_rfl) (by simp) (AllReadyH.cons rfl (fun K hK => ?_) AllReadyH.nil)
    go_simp
    refine hK.out _ _ (KS _ T1) (fun _ => ?_)
    clear hK K
    refine wpAnyH_ready (rs := [15]) (by kernel_rfl) (by simp) (AllReadyH.cons rfl (fun K hK => ?_) AllReadyH.nil)
    go_simp
    refine hK.out _ _ (KS _ T2) (fun _ => ?_)
    clear hK K
    refine wpAnyH_done (by kernel_rfl) ?_ _
    have i0 := z2.cell 0
    have fi0 := z2.free 0
    have e0 := z3.cell 0
    have fe0 := z3.free 0
    simp at i0 e0
    have n23 : bx + 2 ≠ bx + 3 := by omega
    gi_wp2
    have zF : Chg (fun b => b = tb ∨ b = mb ∨ b = bx + 2 ∨ b = bx + 3) X ((wB.setCell ⟨bx + 2, 0, none⟩ (.int .i64 4)).setCell ⟨bx + 3, 0, none⟩ (.int .i64 0)) := (zC.set (b := bx + 2) (.inr (.inr (.inl rfl))) 0 _).set (b := bx + 3) (.inr (.inr (.inr rfl))) 0 _
    refine ⟨(KB.refl _ _ X).chg zF (fun _ _ q => q) (fun b hb h o ho => ?_), rfl, ?_, ?_, ?_, ?_⟩
    · rcases h with rfl | rfl | rfl | rfl
      · exact r1.nl ho
      · exact k1.nl ho
      · exact hIx.nl ho
      · exact hEx.nl ho
    · refine ⟨zF.os.trans hX.os, zF.tape.trans hX.tape, zF.output.trans hX.output, Nat.le_trans hX.size zF.size, fun b hb hn => (zF.block b (Nat.lt_of_lt_of_le hb hX.size) ?_).trans (hX.block b hb)⟩
      rintro (rfl | rfl | h | h)
      · exact hn (.inl st)
      · exact hn (.inl sm)
      · exact hn (.inr (.inl h))
      · exact hn (.inr (.inr h))
    · have := (z2.set 0 (.int .i64 4)).setOther (c := bx + 3) 0 (by omega) (.int .i64 0)
      simpa using this
    · have := (z3.setOther (c := bx + 2) 0 (by omega) (.int .i64 4)).set 0 (.int .i64 0)
      simpa using this
    · have nb2 : mb ≠ bx + 2 := fun e => by have := hS _ sm; omega
      have nb3 : mb ≠ bx + 3 := fun e => by have := hS _ sm; omega
      refine ⟨so, ⟨_, (zT.setOther (c := bx + 2) 0 (by omega) (.int .i64 4)).setOther (c := bx + 3) 0 (by omega) (.int .i64 0), by simpa using r2, by simp [Array.getElem?_setIfInBounds, r3], fun id j hid hj => ?_⟩, ⟨nn + 1, _, kB.keep1 ((Below.heap_setCell _ _ _ _ nb3).trans (Below.heap_setCell _ _ _ _ nb2)), by omega, fun q hq1 hq4 => ?_⟩⟩
      · have h4 := r4 id j hid hj
        by_cases e : id = 4
        · subst e
          obtain rfl | rfl | rfl | rfl | rfl : j = 0 ∨ j = 1 ∨ j = 2 ∨ j = 3 ∨ j = 4 := by omega
          all_goals (simp [Array.getElem?_setIfInBounds, r2]; rfl)
        · rw [show (if id ≤ 4 then id else 0) = if id ≤ 3 then id else 0 by split <;> split <;> omega, ← h4]
          have w0 : 20 ≠ id * 5 + j := by omega
          have w1 : 21 ≠ id * 5 + j := by omega
          have w2 : 22 ≠ id * 5 + j := by omega
          have w3 : 23 ≠ id * 5 + j := by omega
          have w4 : 24 ≠ id * 5 + j := by omega
          simp [Array.getElem?_setIfInBounds_ne, w0, w1, w2, w3, w4]
      · obtain rfl | rfl | rfl | rfl : q = 1 ∨ q = 2 ∨ q = 3 ∨ q = 4 := by omega
        · rw [if_neg (by simp [svcKey, svcC]), k3 1 (by decide) (by decide)]
          rfl
        · rw [if_neg (by simp [svcKey, svcC]), k3 2 (by decide) (by decide)]
          rfl
        · rw [if_neg (by simp [svcKey, svcC]), k3 3 (by decide) (by decide)]
          rfl
        · simp
  · rintro D X hD ⟨h0, _⟩ hK
    simp [freeL] at h0
  rintro D c pre X hD hp ⟨rfl, hCx, hIx, hEx, hTx⟩ hK
  refine wpIn_wide.2 ?_
  go_wp2_with fail
  have K9 := Keep.putObj (S := fun _ => True) X D _ (.deferred none) hK rfl
  have i0 := (K9 _ _ _ trivial hIx).cell 0
  have e0 := (K9 _ _ _ trivial hEx).cell 0
  simp at i0 e0
  have hDb : bx ≤ D := by have : wz.heap.size ≤ D := hD; omega
  refine ⟨by simp, .inl ⟨_, _, rfl, run_takeDeferred hK, .tuple #[.int .i64 4, .int .i64 0], ?_, rfl, ?_, ?_⟩⟩
  · simp [results, Tryz.f34, go_sem, i0, e0]
  · exact hTx.keep (fun b hb hs => World.putObj_heap_other (by have := hS b hs; omega))
  · refine Chg.putObj ?_ D _ (by have := HBX.out; omega)
    have e := HBX.out
    exact ⟨hCx.os.trans hbz.os, hCx.tape.trans hbz.tape, hCx.output.trans hbz.output, by have := hCx.size; have := hbz.size; omega, fun b hb hn => (hCx.block b (by have := hbz.size; omega) (by rintro (h | h | h); exact hn h; omega; omega)).trans (hbz.block b (by omega))⟩
theorem sadd4_c (S : Nat → Prop) (tb mb : Nat) (w : World) (h : TblS S w tb mb 3) :
    Calls Tryz.prog 34 #[.pointer (some ⟨tb, 0, none⟩), .agg #[.int .i64 17, .int .u32 102, .int .i64 9, .bool false, .int .u32 201]] w fun e w' => e = .returned (.tuple #[.int .i64 4, .int .i64 0]) ∧ TblS S w' tb mb 4 ∧ Chg S w w' :=
  (sadd4_t _ tb mb w (fun b h => h.2) h.cut).mono fun e w' ⟨he, hp, hc⟩ => ⟨he, hp.mono (fun b h => h.1), hc.mono (fun b _ h => h.1)⟩
end Go.Proofs.YtngdebpaheejlaaGreatDoor
