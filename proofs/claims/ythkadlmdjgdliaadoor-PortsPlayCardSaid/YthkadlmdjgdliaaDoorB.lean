/- The walk of from. -/
import Derived.Test.YthkadlmdjgdliaaDoorA
import Derived.Test.YthkadlmdjgdliaaDoorPl
import Derived.WalkMore
namespace Go.Proofs.YthkadlmdjgdliaaDoor
open Go.RowKit
set_option linter.unusedSimpArgs false
set_option linter.unusedVariables false

/-- The words say which numbers are used. -/
def Says (nw : Nat) (W : Nat → Nat) (U : Nat → Bool) : Prop := ∀ i, i < nw → W i < 18446744073709551616 ∧ ∀ j, j < 64 → (W i).testBit j = U (64 * i + j)
/-- All from a0 on are used, up to some one, and below to1. -/
def AllUsed (U : Nat → Bool) (a0 m to1 : Nat) : Prop := ∀ k, a0 ≤ k → k < m → k < to1 → U k = true
/-- What from comes to. -/
def FromPost (U : Nat → Bool) (a0 to1 : Nat) (w : World) (e : Ending) (w' : World) : Prop :=
  ∃ f : Nat, e = .returned (.tuple #[.int .i64 f, .bool (decide ((f : Int) < (to1 : Int)))]) ∧ f ≤ 131072 ∧ AllUsed U a0 f to1 ∧ (f < to1 → a0 ≤ f ∧ U f = false) ∧ w = w'

theorem AllUsed.step {U : Nat → Bool} {a0 k to1 y : Nat} {nw : Nat} {W : Nat → Nat} (h : AllUsed U a0 (64 * k) to1) (hs : Says nw W U) (hk : k < nw) (hy : y = if k = a0 / 64 then fm (W k) a0 else cm (W k)) (hka : a0 / 64 ≤ k) (j : Nat) (hj : j ≤ 64) (hz : ∀ i, i < j → y.testBit i = false) : AllUsed U a0 (64 * k + j) to1 := by
  intro m hm1 hm2 hm3
  by_cases hlt : m < 64 * k
  · exact h m hm1 hlt hm3
  · obtain ⟨i, rfl⟩ : ∃ i, m = 64 * k + i := ⟨m - 64 * k, by omega⟩
    obtain ⟨hx, hb⟩ := hs k hk
    have h1 := hb i (by omega)
    have h2 := hz i (by omega)
    rw [hy] at h2
    split at h2
    · rename_i he
      rw [fm_bit _ _ _ hx (by omega), h1] at h2
      have : a0 % 64 ≤ i := by omega
      simpa [this] using h2
    · rw [cm_bit _ _ hx (by omega), h1] at h2
      simpa using h2
theorem found_free {U : Nat → Bool} {a0 k y : Nat} {nw : Nat} {W : Nat → Nat} (hs : Says nw W U) (hk : k < nw) (hy : y = if k = a0 / 64 then fm (W k) a0 else cm (W k)) (hka : a0 / 64 ≤ k) (j : Nat) (hj : j < 64) (hz : y.testBit j = true) : a0 ≤ 64 * k + j ∧ U (64 * k + j) = false := by
  obtain ⟨hx, hb⟩ := hs k hk
  have h1 := hb j hj
  rw [hy] at hz
  split at hz
  · rename_i he
    rw [fm_bit _ _ _ hx hj, h1] at hz
    simp at hz
    exact ⟨by omega, hz.1⟩
  · rename_i he
    rw [cm_bit _ _ hx hj, h1] at hz
    simp at hz
    exact ⟨by omega, hz⟩

set_option maxHeartbeats 3200000 in
theorem from_w (cb wb n nw a0 to1 : Nat) (W : Nat → Nat) (U : Nat → Bool) (w : World) (hT : Tab w) (hn : n ≤ 65536) (ha : a0 ≤ n) (hto : to1 ≤ n) (hnw : nw = (n + 63) / 64)
    (c0 : w.cell? ⟨cb, 0, none⟩ = some (.slice (some ⟨wb, 0, none⟩) nw nw)) (HW : Hid (∀ i, i < nw → w.cell? ⟨wb, i, none⟩ = some (.int .u64 (W i)))) (HU : Hid (Says nw W U)) :
    Calls Tryd.prog 27 #[.pointer (some ⟨cb, 0, none⟩), .int .i64 a0, .int .i64 to1] w (FromPost U a0 to1 w) := by
  have HN := Lib.hid hnw
  have HT := Lib.hid hT
  clear hnw hT
  go_enter Tryd.func27, Tryd.ntmps27
  go_wp2_with fail
  go_step3
  go_wp2_with fail
  go_step3
  go_wp2_with fail
  go_loop [8, 9] (fun f i => ∃ k : Nat, a0 / 64 ≤ k ∧ k ≤ 1025 ∧ i = .int .i64 k ∧ f = .int .i64 to1 ∧ Hid (AllUsed U a0 (64 * k) to1)) (fun _ i => 2000 - (intOf i).toNat)
  case atStart => exact ⟨a0 / 64, Nat.le_refl _, by omega, by simp, rfl, fun m h1 h2 h3 => by omega⟩
  case round =>
    obtain ⟨k, hk, hk25, rfl, rfl, HA⟩ := hrel
    by_cases hlt : 64 * k < to1
    · have hkn : k < nw := by rw [HN.out]; omega
      have hk0 : (0 : Int) ≤ k := by omega
      have hkw : k ≤ 1024 := by omega
      have hw := HW.out k hkn
      have hxl := (HU.out k hkn).1
      obtain ⟨x, hx⟩ : ∃ x, x = W k := ⟨_, rfl⟩
      rw [← hx] at hw hxl
      have hcm := cm_run x hxl
      have hidx : (0 : Int) ≤ k ∧ (k : Int) < nw := ⟨hk0, by omega⟩
      by_cases he : k = a0 / 64
      · obtain ⟨y, hyd⟩ : ∃ y, y = fm x a0 := ⟨_, rfl⟩
        have hfm := fm_run x a0
        rw [← hyd] at hfm
        have hyl : y < 18446744073709551616 := by rw [hyd]; exact fm_lt x a0
        have hY : y = if k = a0 / 64 then fm (W k) a0 else cm (W k) := by rw [if_pos he, hyd, hx]
        have HY := Lib.hid hY
        have HYL := Lib.hid hyl
        clear hx hxl hyd hyl hY
        subst he
        have hb : ((a0 : Int) / 64 == (a0 : Int) / 64) = true := by simp
        by_cases hy0 : y = 0
        · subst hy0
          have st := AllUsed.step HA.out HU.out hkn HY.out hk 64 (by omega) (fun i _ => zero_bits 0 rfl i)
          have ST := Lib.hid st
          clear st
          go_wp2_with fail
          go_round
          case rel => exact ⟨a0 / 64 + 1, by omega, by omega, by simp, rfl, by exact ST.out⟩
          case measure => simp [intOf]; omega
        · have hy1 : ((y : Int) != 0) = true := by simp; omega
          obtain ⟨q1, q2, q3⟩ := ctz_bit y hy0 HYL.out
          have st := AllUsed.step HA.out HU.out hkn HY.out hk (Lib.ctz 64 y) (by omega) q3
          have fr := found_free HU.out hkn HY.out hk (Lib.ctz 64 y) q1 q2
          have tz := tz_c y HYL.out w HT.out
          generalize Lib.ctz 64 y = c at q1 q2 q3 st fr tz
          have ST := Lib.hid st
          have FR := Lib.hid fr
          have TZ := Lib.hid tz
          clear st q2 q3 fr tz
          go_wp2_with fail
          refine TZ.out.mono ?_
          rintro e w' ⟨rfl, rfl⟩
          have e1 : ((a0 : Int) / 64 * 64 + (c : Int)) = ((64 * (a0 / 64) + c : Nat) : Int) := by omega
          have E1 := Lib.hid e1
          clear e1
          go_wp2
          rw [Exit.noGoto_ret]
          go_ret2
          exact ⟨64 * (a0 / 64) + c, by rw [E1.out]; rfl, by omega, ST.out, fun _ => FR.out, rfl⟩
      · have hyl : cm x < 18446744073709551616 := cm_lt x
        obtain ⟨y, hyd⟩ : ∃ y, y = cm x := ⟨_, rfl⟩
        rw [← hyd] at hcm hyl
        have hY : y = if k = a0 / 64 then fm (W k) a0 else cm (W k) := by rw [if_neg he, hyd, hx]
        have HY := Lib.hid hY
        have HYL := Lib.hid hyl
        clear hx hxl hyd hyl hY
        have hb : ((k : Int) == (a0 : Int) / 64) = false := by simp; omega
        by_cases hy0 : y = 0
        · subst hy0
          have st := AllUsed.step HA.out HU.out hkn HY.out hk 64 (by omega) (fun i _ => zero_bits 0 rfl i)
          have ST := Lib.hid st
          clear st
          go_wp2_with fail
          go_round
          case rel => exact ⟨k + 1, by omega, by omega, by simp, rfl, by exact ST.out⟩
          case measure => simp [intOf]; omega
        · have hy1 : ((y : Int) != 0) = true := by simp; omega
          obtain ⟨q1, q2, q3⟩ := ctz_bit y hy0 HYL.out
          have st := AllUsed.step HA.out HU.out hkn HY.out hk (Lib.ctz 64 y) (by omega) q3
          have fr := found_free HU.out hkn HY.out hk (Lib.ctz 64 y) q1 q2
          have tz := tz_c y HYL.out w HT.out
          generalize Lib.ctz 64 y = c at q1 q2 q3 st fr tz
          have ST := Lib.hid st
          have FR := Lib.hid fr
          have TZ := Lib.hid tz
          clear st q2 q3 fr tz
          have HE := Lib.hid he
          clear he
          go_wp2_with fail
          refine TZ.out.mono ?_
          rintro e w' ⟨rfl, rfl⟩
          have e1 : ((k : Int) * 64 + (c : Int)) = ((64 * k + c : Nat) : Int) := by omega
          have E1 := Lib.hid e1
          clear e1
          go_wp2
          rw [Exit.noGoto_ret]
          go_ret2
          exact ⟨64 * k + c, by rw [E1.out]; rfl, by omega, ST.out, fun _ => FR.out, rfl⟩
    · have hge : to1 ≤ 64 * k := by omega
      go_wp2
      go_ret2
      exact ⟨to1, by simp, by omega, fun m h1 h2 h3 => HA.out m h1 (by omega) h3, fun h => by omega, rfl⟩
end Go.Proofs.YthkadlmdjgdliaaDoor
