/- The walks of Free and Take. -/
import Derived.Test.YthkadlmdjgdliaaDoorC
import Derived.Deep.RegionHeld3
namespace Go.Proofs.YthkadlmdjgdliaaDoor
open Go.RowKit
set_option linter.unusedSimpArgs false
set_option linter.unusedVariables false

/-- The state behind a word that was written. -/
theorem Cur.wrote {w : World} {wb n : Nat} {U : Nat → Bool} {W : Nat → Nat} {k y : Nat} {b : Bool} (hw : Has w wb 79 (wordsA ((n + 63) / 64) W)) (hs : Says ((n + 63) / 64) W U) (hk : k < n) (hy : y < 18446744073709551616)
    (hbit : ∀ j, j < 64 → y.testBit j = if j = k % 64 then b else (W (k / 64)).testBit j) :
    ∃ W', Has (w.setCell ⟨wb, k / 64, none⟩ (.int .u64 y)) wb 79 (wordsA ((n + 63) / 64) W') ∧ Says ((n + 63) / 64) W' (setU U k b) := by
  refine ⟨fun j => if j = k / 64 then y else W j, ?_, ?_⟩
  · rw [← wordsA_set]; exact hw.set _ _
  · intro i hi
    obtain ⟨hx, hb⟩ := hs i hi
    by_cases e : i = k / 64
    · subst e
      refine ⟨by simpa using hy, fun j hj => ?_⟩
      simp only [if_true]
      rw [hbit j hj, hb j hj]
      simp only [setU]
      by_cases e2 : j = k % 64
      · rw [if_pos e2, if_pos (by omega)]
      · rw [if_neg e2, if_neg (by omega)]
    · refine ⟨by simpa [e] using hx, fun j hj => ?_⟩
      simp only [e, if_false]
      rw [hb j hj]
      simp only [setU]
      rw [if_neg (by omega)]

theorem free_no (cb wb n at1 : Nat) (U : Nat → Bool) (i : Int) (w : World) (h : Cur w cb wb n at1 U) (hu : usedB U n i = false) :
    Calls Tryd.prog 20 #[.pointer (some ⟨cb, 0, none⟩), .int .i64 i] w fun e w' => e = .returned (.bool false) ∧ w = w' := by
  have H := Lib.hid h
  have HU := Lib.hid hu
  clear h hu
  go_enter Tryd.func20, Tryd.ntmps20
  go_wp2_with fail
  refine (used_c cb wb n at1 U i _ H.out).mono ?_
  rintro e w' ⟨rfl, rfl⟩
  rw [HU.out]
  go_wp2
  go_ret
  exact ⟨rfl, rfl⟩

set_option maxHeartbeats 1600000 in
theorem free_yes (cb wb n at1 : Nat) (U : Nat → Bool) (k : Nat) (w : World) (h : Cur w cb wb n at1 U) (hk : k < n) (hu : U k = true) :
    Calls Tryd.prog 20 #[.pointer (some ⟨cb, 0, none⟩), .int .i64 k] w fun e w' => e = .returned (.bool true) ∧ Cur w' cb wb n at1 (setU U k false) ∧ (∀ B, B ≤ cb → B ≤ wb → Below B w w') := by
  have HUB : Hid (usedB U n k = true) := by show usedB U n k = true; simp [usedB, hk, hu]
  have H := Lib.hid h
  obtain ⟨hd, ⟨W, hw, hs⟩, h1, h2, h3, h4, h5⟩ := h
  have hkn : k / 64 < (n + 63) / 64 := by omega
  have hc := (hw.cell (k / 64)).trans (wordsA_get _ W _ hkn)
  obtain ⟨x, hxd⟩ : ∃ x, x = W (k / 64) := ⟨_, rfl⟩
  rw [← hxd] at hc
  have c0 := hd.cell 0
  have c3 := hd.cell 3
  simp at c0 c3
  have f0 := hw.free (k / 64)
  have f3 := hd.free 3
  obtain ⟨nw, hnw⟩ : ∃ nw, nw = (n + 63) / 64 := ⟨_, rfl⟩
  rw [← hnw] at c0 hkn
  have hi0 : (0 : Int) ≤ (k : Int) / 64 ∧ (k : Int) / 64 < nw := by omega
  obtain ⟨us, hus⟩ : ∃ us, us = cnt U n := ⟨_, rfl⟩
  rw [← hus] at c3
  have husn : us ≤ n := by rw [hus]; exact cnt_le U n
  obtain ⟨hxl, hxb⟩ := hs _ (show k / 64 < (n + 63) / 64 by omega)
  rw [← hxd] at hxl
  obtain ⟨y, hyr, hyl, hyb⟩ := clear_run x (k % 64) hxl (Nat.mod_lt _ (by decide))
  have wr := Cur.wrote (b := false) hw hs hk hyl (fun j hj => by rw [hyb j hj, hxd]; by_cases e : j = k % 64 <;> simp [e])
  have WR := Lib.hid wr
  have hD := Lib.hid hd
  clear hxb wr hyb hyl
  have HX := Lib.hid hxd
  have HUS := Lib.hid hus
  have HNW := Lib.hid hnw
  have HU := Lib.hid hu
  clear hd hw hs hxd hus hnw hu
  go_enter Tryd.func20, Tryd.ntmps20
  go_wp2_with fail
  refine (used_c cb wb n at1 U k _ H.out).mono ?_
  rintro e w' ⟨rfl, rfl⟩
  rw [HUB.out]
  go_wp2_with fail
  go_region
  go_wp2
  go_ret
  refine ⟨rfl, ?_, ?_⟩
  · obtain ⟨W', q1, q2⟩ := WR.out
    refine ⟨?_, ⟨W', ?_, q2⟩, h1, h2, h3, ?_, h5⟩
    · have := ((hD.out.setOther (k / 64) h5 (.int .u64 y)).set 3 (.int .i64 ((us : Int) - 1))).drew
      have e : cnt (setU U k false) n + 1 = us := by
        have := cnt_set U k false n hk
        rw [HU.out] at this; rw [HUS.out]; simpa using this
      rw [show ((cnt (setU U k false) n : Nat) : Int) = (us : Int) - 1 by omega]
      simpa using this
    · exact (q1.setOther 3 (Ne.symm h5) _)
    · intro j hj; unfold setU at hj; split at hj
      · cases hj
      · exact h4 j hj
  · intro B b1 b2
    exact (((Below.refl _ _).setCell b2 _).setCell b1 _).drew

theorem Cur.drew {w : World} {cb wb n at1 : Nat} {U : Nat → Bool} (h : Cur w cb wb n at1 U) : Cur w.drew cb wb n at1 U := h.below ((Below.refl _ _).drew)
theorem from_cur (cb wb n at1 a0 to1 : Nat) (U : Nat → Bool) (w : World) (hT : Tab w) (h : Cur w cb wb n at1 U) (ha : a0 ≤ n) (hto : to1 ≤ n) :
    Calls Tryd.prog 27 #[.pointer (some ⟨cb, 0, none⟩), .int .i64 a0, .int .i64 to1] w (FromPost U a0 to1 w) := by
  obtain ⟨hd, ⟨W, hw, hs⟩, h1, h2, h3, h4, h5⟩ := h
  have c0 := hd.cell 0
  simp at c0
  exact from_w cb wb n ((n + 63) / 64) a0 to1 W U w hT h2 ha hto rfl c0 (fun i hi => (hw.cell i).trans (wordsA_get _ W i hi)) hs

/-- The next number that is free. -/
def Next (U : Nat → Bool) (n at1 k : Nat) : Prop := k < n ∧ U k = false ∧ ((at1 ≤ k ∧ ∀ j, at1 ≤ j → j < k → U j = true) ∨ (k < at1 ∧ (∀ j, at1 ≤ j → j < n → U j = true) ∧ ∀ j, j < k → U j = true))
def TakePost (cb wb n at1 : Nat) (U : Nat → Bool) (w : World) (e : Ending) (w' : World) : Prop :=
  ((∀ k, k < n → U k = true) ∧ e = .returned (.tuple #[.int .i64 0, .bool false]) ∧ Cur w' cb wb n at1 U ∧ ∀ B, Below B w w') ∨
  ∃ k, Next U n at1 k ∧ e = .returned (.tuple #[.int .i64 k, .bool true]) ∧ Cur w' cb wb n ((k + 1) % n) (setU U k true) ∧ ∀ B, B ≤ cb → B ≤ wb → Below B w w'

/-- What Take does behind the search. -/
theorem Cur.taken {w : World} {cb wb n at1 k : Nat} {U : Nat → Bool} (h : Cur w cb wb n at1 U) (hk : k < n) (hu : U k = false) :
    ∃ (x y us : Nat), w.cell? ⟨wb, k / 64, none⟩ = some (.int .u64 x) ∧ bits BinOp.or IntKind.u64 (x : Int) (IntKind.u64.wrap (2 ^ (k % 64))) = (y : Int) ∧ us < n ∧ w.cell? ⟨cb, 3, none⟩ = some (.int .i64 us) ∧
      Cur ((((w.setCell ⟨wb, k / 64, none⟩ (.int .u64 y)).setCell ⟨cb, 3, none⟩ (.int .i64 ((us : Int) + 1))).setCell ⟨cb, 2, none⟩ (.int .i64 (((k + 1) % n : Nat) : Int))).drew) cb wb n ((k + 1) % n) (setU U k true) := by
  obtain ⟨hd, ⟨W, hw, hs⟩, h1, h2, h3, h4, h5⟩ := h
  have hkn : k / 64 < (n + 63) / 64 := by omega
  have hc := (hw.cell (k / 64)).trans (wordsA_get _ W _ hkn)
  obtain ⟨hxl, hxb⟩ := hs _ hkn
  obtain ⟨y, hyr, hyl, hyb⟩ := set_run (W (k / 64)) (k % 64) hxl (Nat.mod_lt _ (by decide))
  obtain ⟨W', q1, q2⟩ := Cur.wrote (b := true) hw hs hk hyl (fun j hj => by rw [hyb j hj]; by_cases e : j = k % 64 <;> simp [e])
  have e := cnt_set U k true n hk
  rw [hu] at e
  simp at e
  have hle := cnt_le (setU U k true) n
  have c3 := hd.cell 3
  simp at c3
  refine ⟨W (k / 64), y, cnt U n, hc, hyr, by omega, c3, ?_, ⟨W', ?_, q2⟩, h1, h2, Nat.mod_lt _ h1, ?_, h5⟩
  · have := (((hd.setOther (k / 64) h5 (.int .u64 y)).set 3 (.int .i64 ((cnt U n : Int) + 1))).set 2 (.int .i64 (((k + 1) % n : Nat) : Int))).drew
    rw [show ((cnt (setU U k true) n : Nat) : Int) = (cnt U n : Int) + 1 by omega]
    simpa using this
  · exact ((q1.setOther 3 (Ne.symm h5) _).setOther 2 (Ne.symm h5) _).drew
  · intro j hj; unfold setU at hj; split at hj
    · omega
    · exact h4 j hj

set_option maxHeartbeats 3200000 in
theorem take_c (cb wb n at1 : Nat) (U : Nat → Bool) (w : World) (hT : Tab w) (h : Cur w cb wb n at1 U) :
    Calls Tryd.prog 21 #[.pointer (some ⟨cb, 0, none⟩)] w (TakePost cb wb n at1 U w) := by
  have H := Lib.hid h
  have HT := Lib.hid hT
  have c0 := h.head.cell 0
  have c1 := h.head.cell 1
  have c2 := h.head.cell 2
  have f2 := h.head.free 2
  have f3 := h.head.free 3
  simp at c0 c1 c2
  have h1 := h.lo
  have h2 := h.hi
  have h3 := h.hat
  obtain ⟨nw, hnw⟩ : ∃ nw, nw = (n + 63) / 64 := ⟨_, rfl⟩
  rw [← hnw] at c0
  have HNW := Lib.hid hnw
  have HT2 : Hid (Tab w.drew) := hT
  have HD2 := Lib.hid h.drew
  clear h hT hnw
  go_enter Tryd.func21, Tryd.ntmps21
  go_wp2_with fail
  go_region_held3 (fun W => W.cell? ⟨cb, 1, none⟩ = some (.int .i64 n) ∧ W.cell? ⟨cb, 2, none⟩ = some (.int .i64 at1)) (go_keep)
    (first | (go_at_call 27; refine (from_cur cb wb n at1 at1 n U w.drew HT2.out HD2.out (by omega) (by omega)).mono ?_; rintro e w' ⟨f, rfl, hf, hA, hF, rfl⟩))
  rename_i hx
  clear hx
  by_cases hlt : f < n
  · have FX := hF hlt
    have hk1 := hlt
    have hk2 := FX.2
    have NX : Hid (Next U n at1 f) := ⟨hk1, hk2, .inl ⟨FX.1, fun j a b => hA j a b (by omega)⟩⟩
    have hl : ((f : Int) < (n : Int)) := by omega
    clear hF FX
    obtain ⟨x, y, us, hcx, hor, hus, c3, hC⟩ := Cur.taken H.out hk1 hk2
    have hi0 : (0 : Int) ≤ (f : Int) / 64 ∧ (f : Int) / 64 < nw := by have := HNW.out; omega
    have f0 : w.frozen? ⟨wb, f / 64, none⟩ = false := by
      obtain ⟨_, ⟨W, hw, _⟩, _⟩ := H.out
      exact hw.free _
    have hne := H.out.ne
    have em : ((f + 1) % n : Nat) = (((f : Int) + 1) % n) := by simp
    rw [em] at hC
    have HC := Lib.hid hC
    clear hC em
    go_wp2_with fail
    go_region
    go_wp2
    go_ret2
    refine .inr ⟨f, NX.out, rfl, ?_, ?_⟩
    · exact HC.out.drew
    · intro B b1 b2
      exact (((((Below.refl _ _).setCell b2 _).setCell b1 _).setCell b1 _).drew).drew
  · have hl : ¬ ((f : Int) < (n : Int)) := by omega
    have A1 : Hid (∀ j, at1 ≤ j → j < n → U j = true) := fun j a b => hA j a (by omega) b
    clear hF hA
    go_wp2_with fail
    refine (from_cur cb wb n at1 0 at1 U w.drew HT2.out HD2.out (by omega) (by omega)).mono ?_
    rintro e w' ⟨g, rfl, hg, hA, hF, rfl⟩
    by_cases hlt2 : g < at1
    · have FX := hF hlt2
      have hk1 : g < n := by omega
      have hk2 := FX.2
      have NX : Hid (Next U n at1 g) := ⟨hk1, hk2, .inr ⟨hlt2, A1.out, fun j b => hA j (Nat.zero_le _) b (by omega)⟩⟩
      have hl2 : ((g : Int) < (at1 : Int)) := by omega
      clear hF FX
      obtain ⟨x, y, us, hcx, hor, hus, c3, hC⟩ := Cur.taken H.out hk1 hk2
      have hi0 : (0 : Int) ≤ (g : Int) / 64 ∧ (g : Int) / 64 < nw := by have := HNW.out; omega
      have f0 : w.frozen? ⟨wb, g / 64, none⟩ = false := by
        obtain ⟨_, ⟨W, hw, _⟩, _⟩ := H.out
        exact hw.free _
      have hne := H.out.ne
      have em : ((g + 1) % n : Nat) = (((g : Int) + 1) % n) := by simp
      rw [em] at hC
      have HC := Lib.hid hC
      clear hC em
      go_wp2_with fail
      go_region
      go_wp2
      go_ret2
      refine .inr ⟨g, NX.out, rfl, ?_, ?_⟩
      · exact HC.out.drew
      · intro B b1 b2
        exact (((((Below.refl _ _).setCell b2 _).setCell b1 _).setCell b1 _).drew).drew
    · have hl2 : ¬ ((g : Int) < (at1 : Int)) := by omega
      have A2 : Hid (∀ j, j < n → U j = true) := by
        intro j hj
        by_cases h : at1 ≤ j
        · exact A1.out j h hj
        · exact hA j (Nat.zero_le _) (by omega) (by omega)
      clear hF hA
      go_wp2
      go_ret2
      exact .inl ⟨A2.out, rfl, HD2.out, fun B => (Below.refl _ _).drew⟩
end Go.Proofs.YthkadlmdjgdliaaDoor
