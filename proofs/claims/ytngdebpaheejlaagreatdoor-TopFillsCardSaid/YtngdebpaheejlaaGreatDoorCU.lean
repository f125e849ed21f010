/- The cursor (chapter 14). Printed by genCU.py out of chapter 15's own texts. -/
import Derived.Test.YtngdebpaheejlaaGreatDoorPA
import Derived.BigQuiet
import Derived.Deep.OwnRows
import Derived.Deep.QuietTactic
import Derived.Deep.RegionHeld3
import Derived.Laws.Bits64
import Derived.Laws.BitsAllLaws
import Derived.Lib.TrailingZeros
import Derived.Shelf.Spec.TrailingZeros
import Derived.StillTailTactics
import Derived.WalkMore
namespace Go.Proofs.YtngdebpaheejlaaGreatDoor.CU
open Go.RowKit
set_option linter.unusedSimpArgs false
set_option linter.unusedVariables false
/- from text Pl -/
/-- The word's complement; the same from some bit on. -/
def cm (x : Nat) : Nat := 18446744073709551615 - x
def mk (a : Nat) : Nat := 18446744073709551615 * 2 ^ (a % 64) % 18446744073709551616
def fm (x a : Nat) : Nat := cm x &&& mk a
theorem cm_bit (x j : Nat) (hx : x < 18446744073709551616) (hj : j < 64) : (cm x).testBit j = !x.testBit j := by
  have h := Nat.testBit_two_pow_sub_succ (x := x) (n := 64) (by omega) j
  unfold cm
  rw [show 18446744073709551615 - x = 2 ^ 64 - (x + 1) from by omega, h]
  simp [hj]
theorem cm_lt (x : Nat) : cm x < 18446744073709551616 := by unfold cm; omega
theorem cm_run (x : Nat) (hx : x < 18446744073709551616) : bits BinOp.xor IntKind.u64 (if IntKind.u64.signed = true then -1 else IntKind.u64.max) (x : Int) = ((cm x : Nat) : Int) := by
  have e : (if IntKind.u64.signed = true then (-1 : Int) else IntKind.u64.max) = ((18446744073709551615 : Nat) : Int) := rfl
  rw [e, bits_xor_u64_nat _ _ (by omega) hx]
  congr 1
  apply Nat.eq_of_testBit_eq
  intro i
  rw [Nat.testBit_xor]
  by_cases hi : i < 64
  · rw [cm_bit x i hx hi]
    have : (18446744073709551615 : Nat).testBit i = true := by
      rw [show (18446744073709551615 : Nat) = 2 ^ 64 - 1 from rfl, Nat.testBit_two_pow_sub_one]
      simpa using hi
    rw [this]; simp
  · have h1 : (18446744073709551615 : Nat).testBit i = false := Nat.testBit_lt_two_pow (Nat.lt_of_lt_of_le (show (18446744073709551615 : Nat) < 2 ^ 64 by decide) (Nat.pow_le_pow_right (by decide) (by omega)))
    have h2 : x.testBit i = false := Nat.testBit_lt_two_pow (Nat.lt_of_lt_of_le (show x < 2 ^ 64 by omega) (Nat.pow_le_pow_right (by decide) (by omega)))
    have h3 : (cm x).testBit i = false := Nat.testBit_lt_two_pow (Nat.lt_of_lt_of_le (show cm x < 2 ^ 64 from cm_lt x) (Nat.pow_le_pow_right (by decide) (by omega)))
    rw [h1, h2, h3]; rfl
theorem mk_bit (a j : Nat) (hj : j < 64) : (mk a).testBit j = decide (a % 64 ≤ j) := by
  unfold mk
  rw [show (18446744073709551616 : Nat) = 2 ^ 64 from rfl, Nat.testBit_mod_two_pow, Nat.testBit_mul_two_pow]
  rw [show (18446744073709551615 : Nat) = 2 ^ 64 - 1 from rfl, Nat.testBit_two_pow_sub_one]
  simp only [hj, decide_true, Bool.true_and]
  by_cases h : a % 64 ≤ j
  · simp [h]; omega
  · simp [h]
theorem mk_lt (a : Nat) : mk a < 18446744073709551616 := Nat.mod_lt _ (by decide)
theorem fm_bit (x a j : Nat) (hx : x < 18446744073709551616) (hj : j < 64) : (fm x a).testBit j = (!x.testBit j && decide (a % 64 ≤ j)) := by
  unfold fm
  rw [Nat.testBit_and, cm_bit x j hx hj, mk_bit a j hj]
theorem fm_lt (x a : Nat) : fm x a < 18446744073709551616 := Nat.lt_of_le_of_lt Nat.and_le_left (cm_lt x)
theorem fm_run (x a : Nat) : bits BinOp.and IntKind.u64 ((cm x : Nat) : Int) (IntKind.u64.wrap (18446744073709551615 * 2 ^ (a % 64))) = ((fm x a : Nat) : Int) := by
  have e : IntKind.u64.wrap (18446744073709551615 * 2 ^ (a % 64)) = ((mk a : Nat) : Int) := by
    rw [IntKind.wrap_u64]; unfold mk; simp
  rw [e, Go.u64_and_nat _ _ (cm_lt x) (mk_lt a)]
  rfl
theorem ctz_bit (y : Nat) (h0 : y ≠ 0) (hy : y < 18446744073709551616) : Lib.ctz 64 y < 64 ∧ y.testBit (Lib.ctz 64 y) = true ∧ ∀ j, j < Lib.ctz 64 y → y.testBit j = false := by
  have e : Lib.ctz 64 y = Lib.ctzFrom 64 y := by unfold Lib.ctz; rw [if_neg h0]
  obtain ⟨m, hm, hk⟩ := Lib.ctzFrom_spec 64 y (by omega) hy
  rw [e]
  generalize Lib.ctzFrom 64 y = c at *
  refine ⟨hk, ?_, fun j hj => ?_⟩
  · rw [hm, Nat.testBit_two_pow_mul]; simp; try omega
  · rw [hm, Nat.testBit_two_pow_mul]; simp; try omega
theorem zero_bits (y : Nat) (h : y = 0) (j : Nat) : y.testBit j = false := by subst h; simp
/-- A bit read. -/
theorem shr_bit (x i : Nat) (hx : x < 18446744073709551616) : bits BinOp.and IntKind.u64 ((x : Int) / 2 ^ i) 1 = (((x / 2 ^ i % 2 : Nat)) : Int) := by
  have e : ((x : Int) / 2 ^ i) = ((x / 2 ^ i : Nat) : Int) := by simp
  rw [e, show (1 : Int) = ((1 : Nat) : Int) from rfl, Go.u64_and_nat _ _ (Nat.lt_of_le_of_lt (Nat.div_le_self _ _) hx) (by decide), Go.nat_mask1]
theorem bit_mod (x i : Nat) : x.testBit i = decide (x / 2 ^ i % 2 = 1) := by
  rw [Nat.testBit_eq_decide_div_mod_eq]
theorem wrap_pow (i : Nat) (hi : i < 64) : IntKind.u64.wrap (2 ^ i) = ((2 ^ i : Nat) : Int) := by
  have h : 2 ^ i < 18446744073709551616 := by
    have := Nat.pow_lt_pow_right (a := 2) (by decide) hi
    simpa using this
  rw [IntKind.wrap_u64]
  have e : ((2 : Int) ^ i) = ((2 ^ i : Nat) : Int) := by simp
  rw [e]
  exact Int.emod_eq_of_lt (Int.natCast_nonneg _) (Int.ofNat_lt.2 h)
theorem pow_lt64 (i : Nat) (hi : i < 64) : 2 ^ i < 18446744073709551616 := by
  have := Nat.pow_lt_pow_right (a := 2) (by decide) hi
  simpa using this
theorem clear_run (x i : Nat) (hx : x < 18446744073709551616) (hi : i < 64) :
    ∃ y : Nat, bits BinOp.andNot IntKind.u64 (x : Int) (IntKind.u64.wrap (2 ^ i)) = (y : Int) ∧ y < 18446744073709551616 ∧ ∀ j, j < 64 → y.testBit j = (x.testBit j && !decide (j = i)) := by
  refine ⟨x &&& cm (2 ^ i), ?_, Nat.lt_of_le_of_lt Nat.and_le_left hx, fun j hj => ?_⟩
  · rw [wrap_pow i hi, Go.u64_andNot_nat _ _ hx (pow_lt64 i hi)]; rfl
  · rw [Nat.testBit_and, cm_bit _ _ (pow_lt64 i hi) hj, Nat.testBit_two_pow]
    by_cases h : i = j
    · simp [h]
    · simp [h, Ne.symm h]
theorem set_run (x i : Nat) (hx : x < 18446744073709551616) (hi : i < 64) :
    ∃ y : Nat, bits BinOp.or IntKind.u64 (x : Int) (IntKind.u64.wrap (2 ^ i)) = (y : Int) ∧ y < 18446744073709551616 ∧ ∀ j, j < 64 → y.testBit j = (x.testBit j || decide (j = i)) := by
  refine ⟨x ||| 2 ^ i, ?_, ?_, fun j hj => ?_⟩
  · rw [wrap_pow i hi, Go.u64_or_nat _ _ hx (pow_lt64 i hi)]
  · exact Nat.or_lt_two_pow (n := 64) (by omega) (by have := pow_lt64 i hi; omega)
  · rw [Nat.testBit_or, Nat.testBit_two_pow]
    by_cases h : i = j
    · simp [h]
    · simp [h, Ne.symm h]
/- from text A -/
/-- The library's table where it lies. -/
def Tab (w : World) : Prop := TabAt 0 Lib.deBruijn64tab w
set_option maxHeartbeats 1000000 in
theorem tz_core (x k idx : Nat) (w : World) (hx0 : ((x : Int) == 0) = false)
    (key : IntKind.u64.wrap (bits BinOp.and IntKind.u64 (x : Int) (IntKind.u64.wrap (-(x : Int))) * 285870213051353865) / 288230376151711744 = (idx : Int))
    (hi : idx < 64) (hk : k < 64) (hcell : w.cell? ⟨0, idx, none⟩ = some (.int .u8 k)) :
    Calls Tryz.prog 214 #[.int .u64 x] w fun e w' => e = .returned (.int .i64 k) ∧ w = w' := by
  go_enter Tryz.func214, Tryz.ntmps214
  go_wp2_with (simp only [key])
  go_ret
  exact ⟨rfl, rfl⟩
theorem tz_zero (w : World) : Calls Tryz.prog 214 #[.int .u64 0] w fun e w' => e = .returned (.int .i64 64) ∧ w = w' := by
  go_enter Tryz.func214, Tryz.ntmps214
  go_wp2
  go_ret
  exact ⟨rfl, rfl⟩
theorem tz_c (x : Nat) (hx : x < 18446744073709551616) (w : World) (hT : Tab w) :
    Calls Tryz.prog 214 #[.int .u64 x] w fun e w' => e = .returned (.int .i64 (Lib.ctz 64 x)) ∧ w = w' := by
  by_cases hx0 : x = 0
  · subst hx0
    exact tz_zero w
  · obtain ⟨hlow, hk⟩ := Lib.lowest_bit 64 x hx0 hx
    obtain ⟨hi, htab⟩ := Lib.deBruijn64_at _ hk
    have hcell := hT _ hi
    rw [htab] at hcell
    exact tz_core x _ _ w (by simp; omega) (tz64_key x _ hx hx0 hlow) hi hk hcell
/- from text B -/
/-- The words say which numbers are used. -/
def Says (nw : Nat) (W : Nat → Nat) (U : Nat → Bool) : Prop := ∀ i, i < nw → W i < 18446744073709551616 ∧ ∀ j, j < 64 → (W i).testBit j = U (64 * i + j)
/-- All from a0 on are used, up to some one, and below to1. -/
def AllUsed (U : Nat → Bool) (a0 m to1 : Nat) : Prop := ∀ k, a0 ≤ k → k < m → k < to1 → U k = true
/-- What from comes to. -/
def FromPost (U : Nat → Bool) (a0 to1 : Nat) (w : World) (e : Ending) (w' : World) : Prop :=
  ∃ f : Nat, e = .returned (.tuple #[.int .i64 f, .bool (decide ((f : Int) < (to1 : Int)))]) ∧ f ≤ 131072 ∧ AllUsed U a0 f to1 ∧ (f < to1 → a0 ≤ f ∧ U f = false) ∧ w = w'
theorem AllUsed.step {U : Nat → Bool} {a0 k to1 y : Nat} {nw : Nat} {W : Nat → Nat} (h : AllUsed U a0 (64 * k) to1) (hs : Says nw W U) (hk : k < nw) (hy : y = if k = a0 / 64 then fm (W k) a0 else cm (W k)) (hka : a0 / 64 ≤ k) (j : Nat) (hj : j ≤ 64) (hz : ∀ i, i < j → y.testBit i = false) : AllUsed U a0 (64 * k + j) to1 := by
  intro m hm1 hm2 hm3
  by_cases hlt : m < 64 * k
  · exact h m hm1 hlt hm3
  · obtain ⟨i, rfl⟩ : ∃ i, m = 64 * k + i := ⟨m - 64 * k, by omega⟩
    obtain ⟨hx, hb⟩ := hs k hk
    have h1 := hb i (by omega)
    have h2 := hz i (by omega)
    rw [hy] at h2
    split at h2
    · rename_i he
      rw [fm_bit _ _ _ hx (by omega), h1] at h2
      have : a0 % 64 ≤ i := by omega
      simpa [this] using h2
    · rw [cm_bit _ _ hx (by omega), h1] at h2
      simpa using h2
theorem found_free {U : Nat → Bool} {a0 k y : Nat} {nw : Nat} {W : Nat → Nat} (hs : Says nw W U) (hk : k < nw) (hy : y = if k = a0 / 64 then fm (W k) a0 else cm (W k)) (hka : a0 / 64 ≤ k) (j : Nat) (hj : j < 64) (hz : y.testBit j = true) : a0 ≤ 64 * k + j ∧ U (64 * k + j) = false := by
  obtain ⟨hx, hb⟩ := hs k hk
  have h1 := hb j hj
  rw [hy] at hz
  split at hz
  · rename_i he
    rw [fm_bit _ _ _ hx hj, h1] at hz
    simp at hz
    exact ⟨by omega, hz.1⟩
  · rename_i he
    rw [cm_bit _ _ hx hj, h1] at hz
    simp at hz
    exact ⟨by omega, hz⟩
set_option maxHeartbeats 3200000 in
theorem from_w (cb wb n nw a0 to1 : Nat) (W : Nat → Nat) (U : Nat → Bool) (w : World) (hT : Tab w) (hn : n ≤ 65536) (ha : a0 ≤ n) (hto : to1 ≤ n) (hnw : nw = (n + 63) / 64)
    (c0 : w.cell? ⟨cb, 0, none⟩ = some (.slice (some ⟨wb, 0, none⟩) nw nw)) (HW : Hid (∀ i, i < nw → w.cell? ⟨wb, i, none⟩ = some (.int .u64 (W i)))) (HU : Hid (Says nw W U)) :
    Calls Tryz.prog 209 #[.pointer (some ⟨cb, 0, none⟩), .int .i64 a0, .int .i64 to1] w (FromPost U a0 to1 w) := by
  have HN := Lib.hid hnw
  have HT := Lib.hid hT
  clear hnw hT
  go_enter Tryz.func209, Tryz.ntmps209
  go_wp2_with fail
  go_step3
  go_wp2_with fail
  go_step3
  go_wp2_with fail
  go_loop [8, 9] (fun f i => ∃ k : Nat, a0 / 64 ≤ k ∧ k ≤ 1025 ∧ i = .int .i64 k ∧ f = .int .i64 to1 ∧ Hid (AllUsed U a0 (64 * k) to1)) (fun _ i => 2000 - (intOf i).toNat)
  case atStart => exact ⟨a0 / 64, Nat.le_refl _, by omega, by simp, rfl, fun m h1 h2 h3 => by omega⟩
  case round =>
    obtain ⟨k, hk, hk25, rfl, rfl, HA⟩ := hrel
    by_cases hlt : 64 * k < to1
    · have hkn : k < nw := by rw [HN.out]; omega
      have hk0 : (0 : Int) ≤ k := by omega
      have hkw : k ≤ 1024 := by omega
      have hw := HW.out k hkn
      have hxl := (HU.out k hkn).1
      obtain ⟨x, hx⟩ : ∃ x, x = W k := ⟨_, rfl⟩
      rw [← hx] at hw hxl
      have hcm := cm_run x hxl
      have hidx : (0 : Int) ≤ k ∧ (k : Int) < nw := ⟨hk0, by omega⟩
      by_cases he : k = a0 / 64
      · obtain ⟨y, hyd⟩ : ∃ y, y = fm x a0 := ⟨_, rfl⟩
        have hfm := fm_run x a0
        rw [← hyd] at hfm
        have hyl : y < 18446744073709551616 := by rw [hyd]; exact fm_lt x a0
        have hY : y = if k = a0 / 64 then fm (W k) a0 else cm (W k) := by rw [if_pos he, hyd, hx]
        have HY := Lib.hid hY
        have HYL := Lib.hid hyl
        clear hx hxl hyd hyl hY
        subst he
        have hb : ((a0 : Int) / 64 == (a0 : Int) / 64) = true := by simp
        by_cases hy0 : y = 0
        · subst hy0
          have st := AllUsed.step HA.out HU.out hkn HY.out hk 64 (by omega) (fun i _ => zero_bits 0 rfl i)
          have ST := Lib.hid st
          clear st
          go_wp2_with fail
          go_round
          case rel => exact ⟨a0 / 64 + 1, by omega, by omega, by simp, rfl, by exact ST.out⟩
          case measure => simp [intOf]; omega
        · have hy1 : ((y : Int) != 0) = true := by simp; omega
          obtain ⟨q1, q2, q3⟩ := ctz_bit y hy0 HYL.out
          have st := AllUsed.step HA.out HU.out hkn HY.out hk (Lib.ctz 64 y) (by omega) q3
          have fr := found_free HU.out hkn HY.out hk (Lib.ctz 64 y) q1 q2
          have tz := tz_c y HYL.out w HT.out
          generalize Lib.ctz 64 y = c at q1 q2 q3 st fr tz
          have ST := Lib.hid st
          have FR := Lib.hid fr
          have TZ := Lib.hid tz
          clear st q2 q3 fr tz
          go_wp2_with fail
          refine TZ.out.mono ?_
          rintro e w' ⟨rfl, rfl⟩
          have e1 : ((a0 : Int) / 64 * 64 + (c : Int)) = ((64 * (a0 / 64) + c : Nat) : Int) := by omega
          have E1 := Lib.hid e1
          clear e1
          go_wp2
          rw [Exit.noGoto_ret]
          go_ret2
          exact ⟨64 * (a0 / 64) + c, by rw [E1.out]; rfl, by omega, ST.out, fun _ => FR.out, rfl⟩
      · have hyl : cm x < 18446744073709551616 := cm_lt x
        obtain ⟨y, hyd⟩ : ∃ y, y = cm x := ⟨_, rfl⟩
        rw [← hyd] at hcm hyl
        have hY : y = if k = a0 / 64 then fm (W k) a0 else cm (W k) := by rw [if_neg he, hyd, hx]
        have HY := Lib.hid hY
        have HYL := Lib.hid hyl
        clear hx hxl hyd hyl hY
        have hb : ((k : Int) == (a0 : Int) / 64) = false := by simp; omega
        by_cases hy0 : y = 0
        · subst hy0
          have st := AllUsed.step HA.out HU.out hkn HY.out hk 64 (by omega) (fun i _ => zero_bits 0 rfl i)
          have ST := Lib.hid st
          clear st
          go_wp2_with fail
          go_round
          case rel => exact ⟨k + 1, by omega, by omega, by simp, rfl, by exact ST.out⟩
          case measure => simp [intOf]; omega
        · have hy1 : ((y : Int) != 0) = true := by simp; omega
          obtain ⟨q1, q2, q3⟩ := ctz_bit y hy0 HYL.out
          have st := AllUsed.step HA.out HU.out hkn HY.out hk (Lib.ctz 64 y) (by omega) q3
          have fr := found_free HU.out hkn HY.out hk (Lib.ctz 64 y) q1 q2
          have tz := tz_c y HYL.out w HT.out
          generalize Lib.ctz 64 y = c at q1 q2 q3 st fr tz
          have ST := Lib.hid st
          have FR := Lib.hid fr
          have TZ := Lib.hid tz
          clear st q2 q3 fr tz
          have HE := Lib.hid he
          clear he
          go_wp2_with fail
          refine TZ.out.mono ?_
          rintro e w' ⟨rfl, rfl⟩
          have e1 : ((k : Int) * 64 + (c : Int)) = ((64 * k + c : Nat) : Int) := by omega
          have E1 := Lib.hid e1
          clear e1
          go_wp2
          rw [Exit.noGoto_ret]
          go_ret2
          exact ⟨64 * k + c, by rw [E1.out]; rfl, by omega, ST.out, fun _ => FR.out, rfl⟩
    · have hge : to1 ≤ 64 * k := by omega
      go_wp2
      go_ret2
      exact ⟨to1, by simp, by omega, fun m h1 h2 h3 => HA.out m h1 (by omega) h3, fun h => by omega, rfl⟩
/- from text C -/
/-- How many are used. -/
def cnt (U : Nat → Bool) : Nat → Nat
  | 0 => 0
  | n + 1 => cnt U n + if U n then 1 else 0
theorem cnt_le (U : Nat → Bool) : ∀ n, cnt U n ≤ n
  | 0 => Nat.le_refl _
  | n + 1 => by have := cnt_le U n; unfold cnt; split <;> omega
def setU (U : Nat → Bool) (k : Nat) (b : Bool) : Nat → Bool := fun i => if i = k then b else U i
theorem cnt_above (U : Nat → Bool) (k : Nat) (b : Bool) : ∀ n, n ≤ k → cnt (setU U k b) n = cnt U n
  | 0, _ => rfl
  | n + 1, h => by
    have := cnt_above U k b n (by omega)
    unfold cnt; rw [this]; simp [setU, show n ≠ k from by omega]
theorem cnt_set (U : Nat → Bool) (k : Nat) (b : Bool) : ∀ n, k < n → cnt (setU U k b) n + (if U k then 1 else 0) = cnt U n + if b then 1 else 0
  | 0, h => by omega
  | n + 1, h => by
    by_cases e : n = k
    · subst e
      have := cnt_above U n b n (Nat.le_refl _)
      unfold cnt; rw [this]; simp [setU]; omega
    · have := cnt_set U k b n (by omega)
      unfold cnt; simp only [setU, e, if_false] at *; omega
def wordsA (nw : Nat) (W : Nat → Nat) : Array Value := ((List.range nw).map fun i => Value.int .u64 (W i)).toArray
theorem wordsA_get (nw : Nat) (W : Nat → Nat) (i : Nat) (h : i < nw) : (wordsA nw W)[i]? = some (.int .u64 (W i)) := by
  simp [wordsA, h]
theorem wordsA_set (nw : Nat) (W : Nat → Nat) (i v : Nat) : (wordsA nw W).setIfInBounds i (.int .u64 v) = wordsA nw (fun j => if j = i then v else W j) := by
  apply Array.ext'
  apply List.ext_getElem?
  intro j
  simp only [wordsA, Array.toList_setIfInBounds, List.getElem?_set, List.getElem?_map, List.length_map, List.length_range, List.getElem?_range']
  by_cases h : i = j
  · subst h
    by_cases h2 : i < nw
    · simp [h2]
    · simp [h2]
  · by_cases h2 : j < nw
    · simp [h, h2, Ne.symm h]
    · simp [h, h2]
structure Cur (w : World) (cb wb n at1 : Nat) (U : Nat → Bool) : Prop where
  head : Has w cb 366 #[.slice (some ⟨wb, 0, none⟩) ((n + 63) / 64) ((n + 63) / 64), .int .i64 n, .int .i64 at1, .int .i64 (cnt U n)]
  words : ∃ W, Has w wb 244 (wordsA ((n + 63) / 64) W) ∧ Says ((n + 63) / 64) W U
  lo : 1 ≤ n
  hi : n ≤ 65536
  hat : at1 < n
  top : ∀ k, U k = true → k < n
  ne : cb ≠ wb
theorem Cur.below {w w1 : World} {cb wb n at1 : Nat} {U : Nat → Bool} (h : Cur w cb wb n at1 U) (hb : Below w.heap.size w w1) : Cur w1 cb wb n at1 U := by
  obtain ⟨hd, ⟨W, h1, h2⟩, lo, hi, hat, top, ne⟩ := h
  exact ⟨hd.below hb, ⟨W, h1.below hb, h2⟩, lo, hi, hat, top, ne⟩
theorem shr_ne (x i : Nat) : (((x : Int) / 2 ^ i % 2) != 0) = decide (x / 2 ^ i % 2 = 1) := by
  have e : ((x : Int) / 2 ^ i % 2) = ((x / 2 ^ i % 2 : Nat) : Int) := by simp
  rw [e]
  rcases Nat.mod_two_eq_zero_or_one (x / 2 ^ i) with h | h <;> rw [h] <;> rfl
/-- Is the number used? -/
def usedB (U : Nat → Bool) (n : Nat) (i : Int) : Bool := decide (0 ≤ i) && (decide (i < n) && U i.toNat)
set_option maxHeartbeats 1600000 in
theorem used_c (cb wb n at1 : Nat) (U : Nat → Bool) (i : Int) (w : World) (h : Cur w cb wb n at1 U) :
    Calls Tryz.prog 208 #[.pointer (some ⟨cb, 0, none⟩), .int .i64 i] w fun e w' => e = .returned (.bool (usedB U n i)) ∧ w = w' := by
  obtain ⟨hd, ⟨W, hw, hs⟩, h1, h2, h3, h4, h5⟩ := h
  have c0 := hd.cell 0
  have c1 := hd.cell 1
  simp at c0 c1
  by_cases g0 : 0 ≤ i
  · by_cases g1 : i < n
    · obtain ⟨k, rfl⟩ := Int.eq_ofNat_of_zero_le g0
      have hk : k < n := by omega
      have hkn : k / 64 < (n + 63) / 64 := by omega
      have hc := (hw.cell (k / 64)).trans (wordsA_get _ W _ hkn)
      obtain ⟨hx, hb⟩ := hs _ hkn
      have hbit := hb (k % 64) (Nat.mod_lt _ (by decide))
      rw [show 64 * (k / 64) + k % 64 = k from by omega, bit_mod] at hbit
      obtain ⟨x, hxd⟩ : ∃ x, x = W (k / 64) := ⟨_, rfl⟩
      rw [← hxd] at hc hx hbit
      have hsb := shr_bit x (k % 64) hx
      obtain ⟨nw, hnw⟩ : ∃ nw, nw = (n + 63) / 64 := ⟨_, rfl⟩
      rw [← hnw] at c0 hkn
      have HB := Lib.hid hbit
      have HX := Lib.hid hx
      clear hw hs hb hxd hd hnw hx hbit
      have hi0 : (0 : Int) ≤ (k : Int) / 64 ∧ (k : Int) / 64 < nw := by omega
      go_enter Tryz.func208, Tryz.ntmps208
      go_wp2
      go_ret
      exact ⟨by simp only [shr_ne]; rw [HB.out]; simp [usedB, hk], rfl⟩
    · go_enter Tryz.func208, Tryz.ntmps208
      go_wp2
      go_ret
      exact ⟨by simp [usedB, show ¬ i < n by omega], rfl⟩
  · go_enter Tryz.func208, Tryz.ntmps208
    go_wp2
    go_ret
    exact ⟨by simp [usedB, show ¬ 0 ≤ i by omega], rfl⟩
theorem new_bad (n : Int) (h : n < 1 ∨ 65536 < n) (w : World) : Calls Tryz.prog 187 #[.int .i64 n] w fun e w' => e = .returned (.tuple #[.pointer none, .int .i64 1]) ∧ w = w' := by
  by_cases h1 : n < 1
  · clear h
    go_enter Tryz.func187, Tryz.ntmps187
    go_wp2
    go_ret2
    exact ⟨rfl, rfl⟩
  · have h2 : 65536 < n := by omega
    clear h
    go_enter Tryz.func187, Tryz.ntmps187
    go_wp2
    go_ret2
    exact ⟨rfl, rfl⟩
theorem info244 : (Tryz.prog.info? 244).map (fun i => (i.zero, i.size, i.bytes)) = some (some (.int .u64 0), 1, 8) := by kernel_rfl
theorem made_words (nw : Nat) : madeCells #[.int .u64 0] nw = wordsA nw (fun _ => 0) := by
  apply Array.ext'
  apply List.ext_getElem?
  intro j
  simp only [madeCells, wordsA, Array.toList_map, Array.toList_range, List.getElem?_map]
  by_cases h : j < nw <;> simp [h, Nat.mod_one]
theorem cnt_none : ∀ n, cnt (fun _ => false) n = 0
  | 0 => rfl
  | n + 1 => by unfold cnt; rw [cnt_none n]; rfl
set_option maxHeartbeats 1600000 in
theorem new_c (n : Nat) (h1 : 1 ≤ n) (h2 : n ≤ 65536) (w : World) : Calls Tryz.prog 187 #[.int .i64 n] w fun e w' => e = .returned (.tuple #[.pointer (some ⟨w.heap.size + 1, 0, none⟩), .int .i64 0]) ∧ Cur w' (w.heap.size + 1) w.heap.size n 0 (fun _ => false) ∧ Below w.heap.size w w' := by
  obtain ⟨nw, hnw⟩ : ∃ nw, nw = (n + 63) / 64 := ⟨_, rfl⟩
  have hsum : ((n : Int) + 64 - 1) / 64 = ((nw : Nat) : Int) := by omega
  have hmk := fun w : World => run_make_row' (P := Tryz.prog) 364 244 (.int .u64 0) 8 Tryz.underlying364 info244 rfl .i64 .i64 nw (by omega) (by omega) w
  have HN := Lib.hid hnw
  clear hnw
  rw [made_words] at hmk
  have A0 := (Has.new w (wordsA nw (fun _ => 0)) 244).alloc (.cells #[.slice (some ⟨w.heap.size, 0, none⟩) nw nw, .int .i64 n, .int .i64 0, .int .i64 0] 366)
  have B0 := Has.new (w.alloc (.cells (wordsA nw (fun _ => 0)) 244)) #[.slice (some ⟨w.heap.size, 0, none⟩) nw nw, .int .i64 n, .int .i64 0, .int .i64 0] 366
  go_enter Tryz.func187, Tryz.ntmps187
  go_wp2
  go_ret2
  refine ⟨by simp, ⟨?_, ⟨fun _ => 0, ?_, ?_⟩, h1, h2, h1, by simp, by omega⟩, ?_⟩
  · rw [← HN.out, cnt_none]; simpa using B0
  · rw [← HN.out]; exact A0
  · intro i hi; exact ⟨by simp, fun j hj => by simp⟩
  · exact ((Below.refl _ _).alloc (Nat.le_refl _) _).alloc (by simp) _
/- from text D2 -/
namespace V2
/-- Nothing but blocks cb and wb was written. -/
def Only (cb wb : Nat) (w w' : World) : Prop := (∀ B, B ≤ cb → B ≤ wb → Below B w w') ∧ w'.heap.size = w.heap.size ∧ ∀ b, b ≠ cb → b ≠ wb → w'.heap[b]? = w.heap[b]?
theorem Only.refl (cb wb : Nat) (w : World) : Only cb wb w w := ⟨fun B _ _ => Below.refl _ _, rfl, fun _ _ _ => rfl⟩
theorem Only.setC {cb wb : Nat} {w w' : World} (h : Only cb wb w w') (i : Nat) (v : Value) : Only cb wb w (w'.setCell ⟨cb, i, none⟩ v) :=
  ⟨fun B b1 b2 => (h.1 B b1 b2).setCell b1 _, by simp [h.2.1], fun b n1 n2 => (Below.heap_setCell _ _ _ _ n1).trans (h.2.2 b n1 n2)⟩
theorem Only.setW {cb wb : Nat} {w w' : World} (h : Only cb wb w w') (i : Nat) (v : Value) : Only cb wb w (w'.setCell ⟨wb, i, none⟩ v) :=
  ⟨fun B b1 b2 => (h.1 B b1 b2).setCell b2 _, by simp [h.2.1], fun b n1 n2 => (Below.heap_setCell _ _ _ _ n2).trans (h.2.2 b n1 n2)⟩
theorem Only.drew {cb wb : Nat} {w w' : World} (h : Only cb wb w w') : Only cb wb w w'.drew := ⟨fun B b1 b2 => (h.1 B b1 b2).drew, h.2.1, h.2.2⟩
/-- The state behind a word that was written. -/
theorem Cur.wrote {w : World} {wb n : Nat} {U : Nat → Bool} {W : Nat → Nat} {k y : Nat} {b : Bool} (hw : Has w wb 244 (wordsA ((n + 63) / 64) W)) (hs : Says ((n + 63) / 64) W U) (hk : k < n) (hy : y < 18446744073709551616)
    (hbit : ∀ j, j < 64 → y.testBit j = if j = k % 64 then b else (W (k / 64)).testBit j) :
    ∃ W', Has (w.setCell ⟨wb, k / 64, none⟩ (.int .u64 y)) wb 244 (wordsA ((n + 63) / 64) W') ∧ Says ((n + 63) / 64) W' (setU U k b) := by
  refine ⟨fun j => if j = k / 64 then y else W j, ?_, ?_⟩
  · rw [← wordsA_set]; exact hw.set _ _
  · intro i hi
    obtain ⟨hx, hb⟩ := hs i hi
    by_cases e : i = k / 64
    · subst e
      refine ⟨by simpa using hy, fun j hj => ?_⟩
      simp only [if_true]
      rw [hbit j hj, hb j hj]
      simp only [setU]
      by_cases e2 : j = k % 64
      · rw [if_pos e2, if_pos (by omega)]
      · rw [if_neg e2, if_neg (by omega)]
    · refine ⟨by simpa [e] using hx, fun j hj => ?_⟩
      simp only [e, if_false]
      rw [hb j hj]
      simp only [setU]
      rw [if_neg (by omega)]
theorem free_no (cb wb n at1 : Nat) (U : Nat → Bool) (i : Int) (w : World) (h : Cur w cb wb n at1 U) (hu : usedB U n i = false) :
    Calls Tryz.prog 189 #[.pointer (some ⟨cb, 0, none⟩), .int .i64 i] w fun e w' => e = .returned (.bool false) ∧ w = w' := by
  have H := Lib.hid h
  have HU := Lib.hid hu
  clear h hu
  go_enter Tryz.func189, Tryz.ntmps189
  go_wp2_with fail
  refine (used_c cb wb n at1 U i _ H.out).mono ?_
  rintro e w' ⟨rfl, rfl⟩
  rw [HU.out]
  go_wp2
  go_ret
  exact ⟨rfl, rfl⟩
set_option maxHeartbeats 1600000 in
theorem free_yes (cb wb n at1 : Nat) (U : Nat → Bool) (k : Nat) (w : World) (h : Cur w cb wb n at1 U) (hk : k < n) (hu : U k = true) :
    Calls Tryz.prog 189 #[.pointer (some ⟨cb, 0, none⟩), .int .i64 k] w fun e w' => e = .returned (.bool true) ∧ Cur w' cb wb n at1 (setU U k false) ∧ Only cb wb w w' := by
  have HUB : Hid (usedB U n k = true) := by show usedB U n k = true; simp [usedB, hk, hu]
  have H := Lib.hid h
  obtain ⟨hd, ⟨W, hw, hs⟩, h1, h2, h3, h4, h5⟩ := h
  have hkn : k / 64 < (n + 63) / 64 := by omega
  have hc := (hw.cell (k / 64)).trans (wordsA_get _ W _ hkn)
  obtain ⟨x, hxd⟩ : ∃ x, x = W (k / 64) := ⟨_, rfl⟩
  rw [← hxd] at hc
  have c0 := hd.cell 0
  have c3 := hd.cell 3
  simp at c0 c3
  have f0 := hw.free (k / 64)
  have f3 := hd.free 3
  obtain ⟨nw, hnw⟩ : ∃ nw, nw = (n + 63) / 64 := ⟨_, rfl⟩
  rw [← hnw] at c0 hkn
  have hi0 : (0 : Int) ≤ (k : Int) / 64 ∧ (k : Int) / 64 < nw := by omega
  obtain ⟨us, hus⟩ : ∃ us, us = cnt U n := ⟨_, rfl⟩
  rw [← hus] at c3
  have husn : us ≤ n := by rw [hus]; exact cnt_le U n
  obtain ⟨hxl, hxb⟩ := hs _ (show k / 64 < (n + 63) / 64 by omega)
  rw [← hxd] at hxl
  obtain ⟨y, hyr, hyl, hyb⟩ := clear_run x (k % 64) hxl (Nat.mod_lt _ (by decide))
  have wr := Cur.wrote (b := false) hw hs hk hyl (fun j hj => by rw [hyb j hj, hxd]; by_cases e : j = k % 64 <;> simp [e])
  have WR := Lib.hid wr
  have hD := Lib.hid hd
  clear hxb wr hyb hyl
  have HX := Lib.hid hxd
  have HUS := Lib.hid hus
  have HNW := Lib.hid hnw
  have HU := Lib.hid hu
  clear hd hw hs hxd hus hnw hu
  go_enter Tryz.func189, Tryz.ntmps189
  go_wp2_with fail
  refine (used_c cb wb n at1 U k _ H.out).mono ?_
  rintro e w' ⟨rfl, rfl⟩
  rw [HUB.out]
  go_wp2_with fail
  go_region
  go_wp2
  go_ret
  refine ⟨rfl, ?_, ?_⟩
  · obtain ⟨W', q1, q2⟩ := WR.out
    refine ⟨?_, ⟨W', ?_, q2⟩, h1, h2, h3, ?_, h5⟩
    · have := ((hD.out.setOther (k / 64) h5 (.int .u64 y)).set 3 (.int .i64 ((us : Int) - 1))).drew
      have e : cnt (setU U k false) n + 1 = us := by
        have := cnt_set U k false n hk
        rw [HU.out] at this; rw [HUS.out]; simpa using this
      rw [show ((cnt (setU U k false) n : Nat) : Int) = (us : Int) - 1 by omega]
      simpa using this
    · exact (q1.setOther 3 (Ne.symm h5) _)
    · intro j hj; unfold setU at hj; split at hj
      · cases hj
      · exact h4 j hj
  · exact (((Only.refl _ _ _).setW _ _).setC _ _).drew
theorem Cur.drew {w : World} {cb wb n at1 : Nat} {U : Nat → Bool} (h : Cur w cb wb n at1 U) : Cur w.drew cb wb n at1 U := h.below ((Below.refl _ _).drew)
theorem from_cur (cb wb n at1 a0 to1 : Nat) (U : Nat → Bool) (w : World) (hT : Tab w) (h : Cur w cb wb n at1 U) (ha : a0 ≤ n) (hto : to1 ≤ n) :
    Calls Tryz.prog 209 #[.pointer (some ⟨cb, 0, none⟩), .int .i64 a0, .int .i64 to1] w (FromPost U a0 to1 w) := by
  obtain ⟨hd, ⟨W, hw, hs⟩, h1, h2, h3, h4, h5⟩ := h
  have c0 := hd.cell 0
  simp at c0
  exact from_w cb wb n ((n + 63) / 64) a0 to1 W U w hT h2 ha hto rfl c0 (fun i hi => (hw.cell i).trans (wordsA_get _ W i hi)) hs
/-- The next number that is free. -/
def Next (U : Nat → Bool) (n at1 k : Nat) : Prop := k < n ∧ U k = false ∧ ((at1 ≤ k ∧ ∀ j, at1 ≤ j → j < k → U j = true) ∨ (k < at1 ∧ (∀ j, at1 ≤ j → j < n → U j = true) ∧ ∀ j, j < k → U j = true))
def TakePost (cb wb n at1 : Nat) (U : Nat → Bool) (w : World) (e : Ending) (w' : World) : Prop :=
  ((∀ k, k < n → U k = true) ∧ e = .returned (.tuple #[.int .i64 0, .bool false]) ∧ Cur w' cb wb n at1 U ∧ Only cb wb w w') ∨
  ∃ k, Next U n at1 k ∧ e = .returned (.tuple #[.int .i64 k, .bool true]) ∧ Cur w' cb wb n ((k + 1) % n) (setU U k true) ∧ Only cb wb w w'
/-- What Take does behind the search. -/
theorem Cur.taken {w : World} {cb wb n at1 k : Nat} {U : Nat → Bool} (h : Cur w cb wb n at1 U) (hk : k < n) (hu : U k = false) :
    ∃ (x y us : Nat), w.cell? ⟨wb, k / 64, none⟩ = some (.int .u64 x) ∧ bits BinOp.or IntKind.u64 (x : Int) (IntKind.u64.wrap (2 ^ (k % 64))) = (y : Int) ∧ us < n ∧ w.cell? ⟨cb, 3, none⟩ = some (.int .i64 us) ∧
      Cur ((((w.setCell ⟨wb, k / 64, none⟩ (.int .u64 y)).setCell ⟨cb, 3, none⟩ (.int .i64 ((us : Int) + 1))).setCell ⟨cb, 2, none⟩ (.int .i64 (((k + 1) % n : Nat) : Int))).drew) cb wb n ((k + 1) % n) (setU U k true) := by
  obtain ⟨hd, ⟨W, hw, hs⟩, h1, h2, h3, h4, h5⟩ := h
  have hkn : k / 64 < (n + 63) / 64 := by omega
  have hc := (hw.cell (k / 64)).trans (wordsA_get _ W _ hkn)
  obtain ⟨hxl, hxb⟩ := hs _ hkn
  obtain ⟨y, hyr, hyl, hyb⟩ := set_run (W (k / 64)) (k % 64) hxl (Nat.mod_lt _ (by decide))
  obtain ⟨W', q1, q2⟩ := Cur.wrote (b := true) hw hs hk hyl (fun j hj => by rw [hyb j hj]; by_cases e : j = k % 64 <;> simp [e])
  have e := cnt_set U k true n hk
  rw [hu] at e
  simp at e
  have hle := cnt_le (setU U k true) n
  have c3 := hd.cell 3
  simp at c3
  refine ⟨W (k / 64), y, cnt U n, hc, hyr, by omega, c3, ?_, ⟨W', ?_, q2⟩, h1, h2, Nat.mod_lt _ h1, ?_, h5⟩
  · have := (((hd.setOther (k / 64) h5 (.int .u64 y)).set 3 (.int .i64 ((cnt U n : Int) + 1))).set 2 (.int .i64 (((k + 1) % n : Nat) : Int))).drew
    rw [show ((cnt (setU U k true) n : Nat) : Int) = (cnt U n : Int) + 1 by omega]
    simpa using this
  · exact ((q1.setOther 3 (Ne.symm h5) _).setOther 2 (Ne.symm h5) _).drew
  · intro j hj; unfold setU at hj; split at hj
    · omega
    · exact h4 j hj
set_option maxHeartbeats 3200000 in
theorem take_c (cb wb n at1 : Nat) (U : Nat → Bool) (w : World) (hT : Tab w) (h : Cur w cb wb n at1 U) :
    Calls Tryz.prog 190 #[.pointer (some ⟨cb, 0, none⟩)] w (TakePost cb wb n at1 U w) := by
  have H := Lib.hid h
  have HT := Lib.hid hT
  have c0 := h.head.cell 0
  have c1 := h.head.cell 1
  have c2 := h.head.cell 2
  have f2 := h.head.free 2
  have f3 := h.head.free 3
  simp at c0 c1 c2
  have h1 := h.lo
  have h2 := h.hi
  have h3 := h.hat
  obtain ⟨nw, hnw⟩ : ∃ nw, nw = (n + 63) / 64 := ⟨_, rfl⟩
  rw [← hnw] at c0
  have HNW := Lib.hid hnw
  have HT2 : Hid (Tab w.drew) := hT
  have HD2 := Lib.hid (Cur.drew h)
  clear h hT hnw
  go_enter Tryz.func190, Tryz.ntmps190
  go_wp2_with fail
  go_region_held3 (fun W => W.cell? ⟨cb, 1, none⟩ = some (.int .i64 n) ∧ W.cell? ⟨cb, 2, none⟩ = some (.int .i64 at1)) (go_keep)
    (first | (go_at_call 209; refine (from_cur cb wb n at1 at1 n U w.drew HT2.out HD2.out (by omega) (by omega)).mono ?_; rintro e w' ⟨f, rfl, hf, hA, hF, rfl⟩))
  rename_i hx
  clear hx
  by_cases hlt : f < n
  · have FX := hF hlt
    have hk1 := hlt
    have hk2 := FX.2
    have NX : Hid (Next U n at1 f) := ⟨hk1, hk2, .inl ⟨FX.1, fun j a b => hA j a b (by omega)⟩⟩
    have hl : ((f : Int) < (n : Int)) := by omega
    clear hF FX
    obtain ⟨x, y, us, hcx, hor, hus, c3, hC⟩ := Cur.taken H.out hk1 hk2
    have hi0 : (0 : Int) ≤ (f : Int) / 64 ∧ (f : Int) / 64 < nw := by have := HNW.out; omega
    have f0 : w.frozen? ⟨wb, f / 64, none⟩ = false := by
      obtain ⟨_, ⟨W, hw, _⟩, _⟩ := H.out
      exact hw.free _
    have hne := H.out.ne
    have em : ((f + 1) % n : Nat) = (((f : Int) + 1) % n) := by simp
    rw [em] at hC
    have HC := Lib.hid hC
    clear hC em
    go_wp2_with fail
    go_region
    go_wp2
    go_ret2
    refine .inr ⟨f, NX.out, rfl, ?_, ?_⟩
    · exact Cur.drew HC.out
    · exact (((((Only.refl _ _ w).setW _ _).setC _ _).setC _ _).drew).drew
  · have hl : ¬ ((f : Int) < (n : Int)) := by omega
    have A1 : Hid (∀ j, at1 ≤ j → j < n → U j = true) := fun j a b => hA j a (by omega) b
    clear hF hA
    go_wp2_with fail
    refine (from_cur cb wb n at1 0 at1 U w.drew HT2.out HD2.out (by omega) (by omega)).mono ?_
    rintro e w' ⟨g, rfl, hg, hA, hF, rfl⟩
    by_cases hlt2 : g < at1
    · have FX := hF hlt2
      have hk1 : g < n := by omega
      have hk2 := FX.2
      have NX : Hid (Next U n at1 g) := ⟨hk1, hk2, .inr ⟨hlt2, A1.out, fun j b => hA j (Nat.zero_le _) b (by omega)⟩⟩
      have hl2 : ((g : Int) < (at1 : Int)) := by omega
      clear hF FX
      obtain ⟨x, y, us, hcx, hor, hus, c3, hC⟩ := Cur.taken H.out hk1 hk2
      have hi0 : (0 : Int) ≤ (g : Int) / 64 ∧ (g : Int) / 64 < nw := by have := HNW.out; omega
      have f0 : w.frozen? ⟨wb, g / 64, none⟩ = false := by
        obtain ⟨_, ⟨W, hw, _⟩, _⟩ := H.out
        exact hw.free _
      have hne := H.out.ne
      have em : ((g + 1) % n : Nat) = (((g : Int) + 1) % n) := by simp
      rw [em] at hC
      have HC := Lib.hid hC
      clear hC em
      go_wp2_with fail
      go_region
      go_wp2
      go_ret2
      refine .inr ⟨g, NX.out, rfl, ?_, ?_⟩
      · exact Cur.drew HC.out
      · exact (((((Only.refl _ _ w).setW _ _).setC _ _).setC _ _).drew).drew
    · have hl2 : ¬ ((g : Int) < (at1 : Int)) := by omega
      have A2 : Hid (∀ j, j < n → U j = true) := by
        intro j hj
        by_cases h : at1 ≤ j
        · exact A1.out j h hj
        · exact hA j (Nat.zero_le _) (by omega) (by omega)
      clear hF hA
      go_wp2
      go_ret2
      exact .inl ⟨A2.out, rfl, HD2.out, (Only.refl _ _ _).drew⟩
end V2
end Go.Proofs.YtngdebpaheejlaaGreatDoor.CU
