/- The document's table of services (chapter 19): Add of the four services. The document's balancer (chapter 23): state, New. -/
import Derived.Test.YtngdebpaheejlaaGreatDoorZs
namespace Go.Proofs.YtngdebpaheejlaaGreatDoor
open Go.RowKit Go.Shelf
set_option linter.unusedSimpArgs false
set_option linter.unusedVariables false
def rowsV : Nat → List Value
  | 0 => []
  | 1 => [.int .i64 1, .int .i64 6, .int .u32 100, .int .i64 80, .bool false, .int .u32 200]
  | 2 => [.int .i64 1, .int .i64 6, .int .u32 100, .int .i64 80, .bool false, .int .u32 200, .int .i64 2, .int .i64 17, .int .u32 100, .int .i64 53, .bool false, .int .u32 200]
  | 3 => [.int .i64 1, .int .i64 6, .int .u32 100, .int .i64 80, .bool false, .int .u32 200, .int .i64 2, .int .i64 17, .int .u32 100, .int .i64 53, .bool false, .int .u32 200, .int .i64 3, .int .i64 6, .int .u32 101, .int .i64 80, .bool true, .int .u32 0]
  | _ => [.int .i64 1, .int .i64 6, .int .u32 100, .int .i64 80, .bool false, .int .u32 200, .int .i64 2, .int .i64 17, .int .u32 100, .int .i64 53, .bool false, .int .u32 200, .int .i64 3, .int .i64 6, .int .u32 101, .int .i64 80, .bool true, .int .u32 0, .int .i64 4, .int .i64 17, .int .u32 102, .int .i64 9, .bool false, .int .u32 201]
def DTab (c : Nat → Nat) (d : Nat) (w : World) (tb n : Nat) : Prop := c tb = d ∧ ∃ sL, Has w tb 113 #[sL] ∧ (n = 0 → sL = .slice none 0 0) ∧ (1 ≤ n → Row (fun b => c b = d + 1) w 199 6 sL n (rowsV n))
theorem DTab.keep {c : Nat → Nat} {d : Nat} {w w' : World} {tb n : Nat} (h : DTab c d w tb n) (hk : ∀ b, b < w.heap.size → d ≤ c b → c b ≤ d + 1 → w'.heap[b]? = w.heap[b]?) : DTab c d w' tb n := by
  obtain ⟨h1, sL, h2, h3, h4⟩ := h
  exact ⟨h1, sL, (hk tb h2.lt (by omega) (by omega)).trans h2, h3, fun e => (h4 e).keep (fun b hb (q : c b = d + 1) => hk b hb (by omega) (by omega))⟩
theorem DTab.re {c c2 : Nat → Nat} {d : Nat} {w : World} {tb n : Nat} (h : DTab c d w tb n) (he : ∀ b, b < w.heap.size → d ≤ c b → c b ≤ d + 1 → c2 b = c b) : DTab c2 d w tb n := by
  obtain ⟨h1, sL, h2, h3, h4⟩ := h
  exact ⟨(he tb h2.lt (by omega) (by omega)).trans h1, sL, h2, h3, fun e => (h4 e).cut.mono (fun b (q : c b = d + 1 ∧ b < w.heap.size) => (he b q.2 (by omega) (by omega)).trans q.1)⟩
set_option maxRecDepth 100000 in
set_option maxHeartbeats 6400000 in
theorem dtadd1_c (c : Nat → Nat) (d tb : Nat) (hd : 1 ≤ d) (w : World) (h : DTab c d w tb 0) :
    Calls Tryz.prog 35 #[.pointer (some ⟨tb, 0, none⟩), .agg #[.int .i64 6, .int .u32 100, .int .i64 80, .bool false, .int .u32 200]] w fun e w' => e = .returned (.tuple #[.int .i64 1, .int .i64 0]) ∧ ∃ c', (∀ b, b < w.heap.size → c' b = c b) ∧ (∀ b, w.heap.size ≤ b → c' b = d + 1) ∧ DTab c' d w' tb 1 ∧ Chg (fun b => d ≤ c b ∧ c b ≤ d + 1) w w' := by
  have h1 := h.re (c2 := owner c w.heap.size (d + 1)) (fun b hb _ _ => own_lt hb)
  obtain ⟨c1, hc1⟩ : ∃ c1, c1 = owner c w.heap.size (d + 1) := ⟨_, rfl⟩
  rw [← hc1] at h1
  have EL : Hid (∀ b, b < w.heap.size → c1 b = c b) := fun b hb => by rw [hc1]; exact own_lt hb
  have EB : Hid (∀ b, w.heap.size ≤ b → c1 b = d + 1) := fun b hb => by rw [hc1]; exact own_back hb
  clear h hc1
  obtain ⟨ct, sL, hH, hn, hr⟩ := h1
  obtain rfl := hn rfl
  clear hn hr
  have tlt := hH.lt
  have hX := Has.new w #[.int .i64 6, .int .u32 100, .int .i64 80, .bool false, .int .u32 200] 66
  have b1 : GG w (w.alloc (.cells #[.int .i64 6, .int .u32 100, .int .i64 80, .bool false, .int .u32 200] 66)) := (GG.refl _).alloc _
  have hH := hH.alloc (.cells #[.int .i64 6, .int .u32 100, .int .i64 80, .bool false, .int .u32 200] 66)
  go_enter Tryz.func35, Tryz.ntmps35
  go_wp2_with fail
  obtain ⟨w1, hw⟩ : ∃ W, W = w.alloc (.cells #[.int .i64 6, .int .u32 100, .int .i64 80, .bool false, .int .u32 200] 66) := ⟨_, rfl⟩
  obtain ⟨bx, hbx⟩ : ∃ b, b = w.heap.size := ⟨_, rfl⟩
  have LO := Lib.hid hbx
  rw [← hw] at hX b1 hH  ⊢
  rw [← hbx] at hX ⊢
  clear hw hbx
  refine (dright1_c w1).mono ?_
  rintro e w2 ⟨rfl, b2⟩
  have hX := hX.below b2
  have hH := hH.below b2
  have b2 := b1.step b2
  clear b1
  have x0 := (hX.cell 0).trans rfl
  have x1 := (hX.cell 1).trans rfl
  have x2 := (hX.cell 2).trans rfl
  have x3 := (hX.cell 3).trans rfl
  have x4 := (hX.cell 4).trans rfl
  go_wp2_with fail
  refine (dfind1_c tb  w2 ((hH.cell 0).trans rfl) ).mono ?_
  rintro e w3 ⟨rfl, rfl⟩
  have t0 := (hH.cell 0).trans rfl
  go_wp2_with fail
  go_loopw [9] (fun i wr => ∃ j : Nat, j ≤ 0 ∧ i = .int .i64 (j : Int) ∧ wr = w3) (fun i _ => 0 - (intOf i).toNat)
  case atStart => exact ⟨0, by omega, rfl, rfl⟩
  case round =>
    obtain ⟨j, hj, rfl, rfl⟩ := hrel
    have hj' : j = 0 := by omega
    clear hj
    rcases hj' with rfl
    · obtain ⟨i0, hi0, hz0, hs0, hb0⟩ := info_parts info199
      have STOP : ∀ {p : Prop}, Hid p → p := fun h => h.out
      have hrn := Row.nil (fun _ => False) wr 199 6
      have HCN : Hid (∀ (j : Nat) (u : Value), [.int .i64 1, .int .i64 6, .int .u32 100, .int .i64 80, .bool false, .int .u32 200][j]? = some u → (wr.alloc (.cells #[.int .i64 1, .int .i64 6, .int .u32 100, .int .i64 80, .bool false, .int .u32 200] 199)).cell? ((⟨wr.heap.size, 0, none⟩ : Addr).add j) = some u) := fun j u hj => by
        have := (Has.new wr #[.int .i64 1, .int .i64 6, .int .u32 100, .int .i64 80, .bool false, .int .u32 200] 199).cell j
        rw [add_none, Nat.zero_add, this]
        simpa using hj
      go_wp2_with (at_builtin; refine STOP ?_)
      refine Lib.hid ?_
      refine wpList_appr rfl _ _ 111 rfl rfl rfl (app111_nil _ _ none 0 0 0 (Nat.le_refl _)) ?_
      go_wp2_with (at_builtin; refine STOP ?_)
      refine Lib.hid ?_
      refine wpList_append_lies _ rfl _ _ 111 rfl 0 199 i0 _ 6 40 Tryz.underlying111 hi0 hz0 hs0 hb0 rfl (by decide) (.slice none 0 0) 0 _ rfl (hrn.1.alloc _) ⟨wr.heap.size, 0, none⟩ 1 1 [.int .i64 1, .int .i64 6, .int .u32 100, .int .i64 80, .bool false, .int .u32 200] rfl rfl HCN.out (by simp [Value.oneCell']) (by omega) (by decide) (by omega) (by simp) (wr.heap.size + 1) (by simp) ?_
      intro g cap w4 own G hat hlt
      obtain ⟨RN0, hC, hz, up⟩ := hrn.app own G (by simpa using hat)
      have RN : Row (fun b => wr.heap.size ≤ b) w4 199 6 (.slice (some ⟨g, 0, none⟩) 1 cap) 1 (rowsV 1) := RN0.mono (fun b h => h.elim (fun h => h.elim) id)
      have hH4 : Has w4 tb 113 _ := hH.chg hC (fun e => e)
      have C4 : Chg (fun b => d ≤ c b ∧ c b ≤ d + 1) w w4 := (Chg.of_below b2).trans (hC.mono (fun b _ h => h.elim))
      have t0' := (hH4.cell 0).trans rfl
      have tf := hH4.free 0
      have hcap : 1 ≤ cap := RN.blk.2.2
      have gt : g ≠ tb := fun e => by
        have h1 := hH4
        rw [← e] at h1
        exact RN.ne h1 (by decide) rfl
      have FIN : Hid (DTab c1 d (w4.setCell ⟨tb, 0, none⟩ (.slice (some ⟨g, 0, none⟩) 1 cap)) tb 1) := by
        have hH5 := hH4.set 0 (.slice (some ⟨g, 0, none⟩) 1 cap)
        simp only [List.setIfInBounds_toArray, List.set] at hH5
        refine ⟨ct, _, hH5, fun e => by omega, fun _ => (RN.setOther (b := tb) (fun e => gt (by cases e; rfl)) 0 _).mono (fun b (hb : wr.heap.size ≤ b) => ?_)⟩
        have : w.heap.size ≤ wr.heap.size := b2.size
        exact EB.out b (by omega)
      have CC : Hid (Chg (fun b => d ≤ c b ∧ c b ≤ d + 1) w (w4.setCell ⟨tb, 0, none⟩ (.slice (some ⟨g, 0, none⟩) 1 cap))) := C4.set (b := tb) (by have := EL.out tb tlt; omega) _ _
      clear RN hH4 C4 own G hat hlt hC
      go_wp2_with (at_builtin; refine STOP ?_)
      all_goals
        refine Lib.hid ?_
        refine wpList_appr rfl _ _ 111 rfl (by first | rfl | simp) rfl (app111_nil _ _ _ _ _ 0 hcap) ?_
        go_wp2_with fail
        go_ret2
        exact ⟨rfl, c1, EL.out, EB.out, FIN.out, CC.out⟩
set_option maxRecDepth 100000 in
set_option maxHeartbeats 6400000 in
theorem dtadd2_c (c : Nat → Nat) (d tb : Nat) (hd : 1 ≤ d) (w : World) (h : DTab c d w tb 1) :
    Calls Tryz.prog 35 #[.pointer (some ⟨tb, 0, none⟩), .agg #[.int .i64 17, .int .u32 100, .int .i64 53, .bool false, .int .u32 200]] w fun e w' => e = .returned (.tuple #[.int .i64 2, .int .i64 0]) ∧ ∃ c', (∀ b, b < w.heap.size → c' b = c b) ∧ (∀ b, w.heap.size ≤ b → c' b = d + 1) ∧ DTab c' d w' tb 2 ∧ Chg (fun b => d ≤ c b ∧ c b ≤ d + 1) w w' := by
  have h1 := h.re (c2 := owner c w.heap.size (d + 1)) (fun b hb _ _ => own_lt hb)
  obtain ⟨c1, hc1⟩ : ∃ c1, c1 = owner c w.heap.size (d + 1) := ⟨_, rfl⟩
  rw [← hc1] at h1
  have EL : Hid (∀ b, b < w.heap.size → c1 b = c b) := fun b hb => by rw [hc1]; exact own_lt hb
  have EB : Hid (∀ b, w.heap.size ≤ b → c1 b = d + 1) := fun b hb => by rw [hc1]; exact own_back hb
  clear h hc1
  obtain ⟨ct, sL, hH, hn, hr⟩ := h1
  have hL := hr (by decide)
  clear hn hr
  obtain ⟨g0, cap0, rfl⟩ := hL.form (by decide)
  have hcap0 : 1 ≤ cap0 := hL.blk.2.2
  have tlt := hH.lt
  have hX := Has.new w #[.int .i64 17, .int .u32 100, .int .i64 53, .bool false, .int .u32 200] 66
  have b1 : GG w (w.alloc (.cells #[.int .i64 17, .int .u32 100, .int .i64 53, .bool false, .int .u32 200] 66)) := (GG.refl _).alloc _
  have hH := hH.alloc (.cells #[.int .i64 17, .int .u32 100, .int .i64 53, .bool false, .int .u32 200] 66)
  have hL := hL.keep (KeepM.below b1)
  go_enter Tryz.func35, Tryz.ntmps35
  go_wp2_with fail
  obtain ⟨w1, hw⟩ : ∃ W, W = w.alloc (.cells #[.int .i64 17, .int .u32 100, .int .i64 53, .bool false, .int .u32 200] 66) := ⟨_, rfl⟩
  obtain ⟨bx, hbx⟩ : ∃ b, b = w.heap.size := ⟨_, rfl⟩
  have LO := Lib.hid hbx
  rw [← hw] at hX b1 hH hL ⊢
  rw [← hbx] at hX ⊢
  clear hw hbx
  refine (dright2_c w1).mono ?_
  rintro e w2 ⟨rfl, b2⟩
  have hX := hX.below b2
  have hH := hH.below b2
  have hL := hL.keep (KeepM.below b2)
  have b2 := b1.step b2
  clear b1
  have x0 := (hX.cell 0).trans rfl
  have x1 := (hX.cell 1).trans rfl
  have x2 := (hX.cell 2).trans rfl
  have x3 := (hX.cell 3).trans rfl
  have x4 := (hX.cell 4).trans rfl
  go_wp2_with fail
  refine (dfind2_c tb g0 cap0 _ w2 ((hH.cell 0).trans rfl) hL).mono ?_
  rintro e w3 ⟨rfl, rfl⟩
  have t0 := (hH.cell 0).trans rfl
  have e0 : w3.cell? ⟨g0, 0, none⟩ = some (.int .i64 1) := hL.cellAt (by decide)
  go_wp2_with fail
  go_loopw [9] (fun i wr => ∃ j : Nat, j ≤ 1 ∧ i = .int .i64 (j : Int) ∧ wr = w3) (fun i _ => 1 - (intOf i).toNat)
  case atStart => exact ⟨0, by omega, rfl, rfl⟩
  case round =>
    obtain ⟨j, hj, rfl, rfl⟩ := hrel
    have hj' : j = 0 ∨ j = 1 := by omega
    clear hj
    rcases hj' with rfl | rfl
    · go_wp2_with fail
      go_roundw
      case rel => exact ⟨1, by omega, by first | rfl | trivial, by first | rfl | trivial⟩
      case measure => simp [intOf]
    · obtain ⟨i0, hi0, hz0, hs0, hb0⟩ := info_parts info199
      have STOP : ∀ {p : Prop}, Hid p → p := fun h => h.out
      have hrn := Row.nil (fun _ => False) wr 199 6
      go_wp2_with (at_builtin; refine STOP ?_)
      refine Lib.hid ?_
      refine wpList_append_lies _ rfl _ _ 111 rfl 0 199 i0 _ 6 40 Tryz.underlying111 hi0 hz0 hs0 hb0 rfl (by decide) (.slice none 0 0) 0 _ rfl hrn.1 ⟨g0, 0, none⟩ 1 cap0 (rowsV 1) rfl rfl (fun j u hj => ?_) (by decide) (by decide) (by decide) (by decide) (Nat.zero_le _) wr.heap.size rfl ?_
      · rw [add_none, Nat.zero_add]
        have hj5 : j < 1 * 6 := by
          have := (List.getElem?_eq_some_iff.1 hj).1
          simpa [rowsV] using this
        exact (hL.cellAt hj5).trans hj
      intro g1 cap1 w31 own G hat hlt
      obtain ⟨RM0, hC3⟩ := hrn.app0 own G hat
      have RM : Row (fun b => wr.heap.size ≤ b) w31 199 6 (.slice (some ⟨g1, 0, none⟩) 1 cap1) 1 (rowsV 1) := by
        have := RM0.mono (T := fun b => wr.heap.size ≤ b) (fun b h => h.elim (fun h => h.elim) id)
        simpa using this
      have hH3 := hH.chg hC3 (fun e => e)
      have hX3 := hX.chg hC3 (fun e => e)
      have C3 : Chg (fun b => d ≤ c b ∧ c b ≤ d + 1) w w31 := (Chg.of_below b2).trans (hC3.mono (fun b _ h => h.elim))
      clear own G hat hlt RM0 x0 x1 x2 x3 x4 t0
      have x0 := (hX3.cell 0).trans rfl
      have x1 := (hX3.cell 1).trans rfl
      have x2 := (hX3.cell 2).trans rfl
      have x3 := (hX3.cell 3).trans rfl
      have x4 := (hX3.cell 4).trans rfl
      have HCN : Hid (∀ (j : Nat) (u : Value), [.int .i64 2, .int .i64 17, .int .u32 100, .int .i64 53, .bool false, .int .u32 200][j]? = some u → (w31.alloc (.cells #[.int .i64 2, .int .i64 17, .int .u32 100, .int .i64 53, .bool false, .int .u32 200] 199)).cell? ((⟨w31.heap.size, 0, none⟩ : Addr).add j) = some u) := fun j u hj => by
        have := (Has.new w31 #[.int .i64 2, .int .i64 17, .int .u32 100, .int .i64 53, .bool false, .int .u32 200] 199).cell j
        rw [add_none, Nat.zero_add, this]
        simpa using hj
      go_wp2_with (at_builtin; refine STOP ?_)
      refine Lib.hid ?_
      refine wpList_append_lies _ rfl _ _ 111 rfl 0 199 i0 _ 6 40 Tryz.underlying111 hi0 hz0 hs0 hb0 rfl (by decide) (.slice (some ⟨g1, 0, none⟩) 1 cap1) 1 _ (by first | rfl | simp) (RM.1.alloc _) ⟨w31.heap.size, 0, none⟩ 1 1 [.int .i64 2, .int .i64 17, .int .u32 100, .int .i64 53, .bool false, .int .u32 200] rfl rfl HCN.out (by simp [Value.oneCell']) (by omega) (by decide) (by omega) (by simp) (w31.heap.size + 1) (by simp) ?_
      intro g cap w4 own G hat hlt
      obtain ⟨RN0, hC, hz, up⟩ := RM.app own G (by simpa using hat)
      have z31 : wr.heap.size ≤ w31.heap.size := hC3.size
      have RN : Row (fun b => wr.heap.size ≤ b) w4 199 6 (.slice (some ⟨g, 0, none⟩) 2 cap) 2 (rowsV 2) := RN0.mono (fun b h => h.elim id (fun h => Nat.le_trans z31 h))
      have hH4 : Has w4 tb 113 _ := (up tb hH3.lt (RM.ne hH3 (by decide))).trans hH3
      have wrw : w.heap.size ≤ wr.heap.size := b2.size
      have C4 : Chg (fun b => d ≤ c b ∧ c b ≤ d + 1) w w4 := C3.then hC (fun b hb (e : wr.heap.size ≤ b) => absurd (Nat.le_trans wrw e) (by omega))
      have t0' := (hH4.cell 0).trans rfl
      have tf := hH4.free 0
      have hcap : 2 ≤ cap := RN.blk.2.2
      have gt : g ≠ tb := fun e => by
        have h1 := hH4
        rw [← e] at h1
        exact RN.ne h1 (by decide) rfl
      have FIN : Hid (DTab c1 d (w4.setCell ⟨tb, 0, none⟩ (.slice (some ⟨g, 0, none⟩) 2 cap)) tb 2) := by
        have hH5 := hH4.set 0 (.slice (some ⟨g, 0, none⟩) 2 cap)
        simp only [List.setIfInBounds_toArray, List.set] at hH5
        refine ⟨ct, _, hH5, fun e => by omega, fun _ => (RN.setOther (b := tb) (fun e => gt (by cases e; rfl)) 0 _).mono (fun b (hb : wr.heap.size ≤ b) => ?_)⟩
        have : w.heap.size ≤ wr.heap.size := b2.size
        exact EB.out b (by omega)
      have CC : Hid (Chg (fun b => d ≤ c b ∧ c b ≤ d + 1) w (w4.setCell ⟨tb, 0, none⟩ (.slice (some ⟨g, 0, none⟩) 2 cap))) := C4.set (b := tb) (by have := EL.out tb tlt; omega) _ _
      clear RN hH4 C4 own G hat hlt hC
      go_wp2_with (at_builtin; refine STOP ?_)
      all_goals
        refine Lib.hid ?_
        refine wpList_appr rfl _ _ 111 rfl (by first | rfl | simp) rfl (app111_zero _ _ _ _ _ _ _ hcap) ?_
        go_wp2_with fail
        go_ret2
        exact ⟨rfl, c1, EL.out, EB.out, FIN.out, CC.out⟩
set_option maxRecDepth 100000 in
set_option maxHeartbeats 6400000 in
theorem dtadd3_c (c : Nat → Nat) (d tb : Nat) (hd : 1 ≤ d) (w : World) (h : DTab c d w tb 2) :
    Calls Tryz.prog 35 #[.pointer (some ⟨tb, 0, none⟩), .agg #[.int .i64 6, .int .u32 101, .int .i64 80, .bool true, .int .u32 0]] w fun e w' => e = .returned (.tuple #[.int .i64 3, .int .i64 0]) ∧ ∃ c', (∀ b, b < w.heap.size → c' b = c b) ∧ (∀ b, w.heap.size ≤ b → c' b = d + 1) ∧ DTab c' d w' tb 3 ∧ Chg (fun b => d ≤ c b ∧ c b ≤ d + 1) w w' := by
  have h1 := h.re (c2 := owner c w.heap.size (d + 1)) (fun b hb _ _ => own_lt hb)
  obtain ⟨c1, hc1⟩ : ∃ c1, c1 = owner c w.heap.size (d + 1) := ⟨_, rfl⟩
  rw [← hc1] at h1
  have EL : Hid (∀ b, b < w.heap.size → c1 b = c b) := fun b hb => by rw [hc1]; exact own_lt hb
  have EB : Hid (∀ b, w.heap.size ≤ b → c1 b = d + 1) := fun b hb => by rw [hc1]; exact own_back hb
  clear h hc1
  obtain ⟨ct, sL, hH, hn, hr⟩ := h1
  have hL := hr (by decide)
  clear hn hr
  obtain ⟨g0, cap0, rfl⟩ := hL.form (by decide)
  have hcap0 : 2 ≤ cap0 := hL.blk.2.2
  have tlt := hH.lt
  have hX := Has.new w #[.int .i64 6, .int .u32 101, .int .i64 80, .bool true, .int .u32 0] 66
  have b1 : GG w (w.alloc (.cells #[.int .i64 6, .int .u32 101, .int .i64 80, .bool true, .int .u32 0] 66)) := (GG.refl _).alloc _
  have hH := hH.alloc (.cells #[.int .i64 6, .int .u32 101, .int .i64 80, .bool true, .int .u32 0] 66)
  have hL := hL.keep (KeepM.below b1)
  go_enter Tryz.func35, Tryz.ntmps35
  go_wp2_with fail
  obtain ⟨w1, hw⟩ : ∃ W, W = w.alloc (.cells #[.int .i64 6, .int .u32 101, .int .i64 80, .bool true, .int .u32 0] 66) := ⟨_, rfl⟩
  obtain ⟨bx, hbx⟩ : ∃ b, b = w.heap.size := ⟨_, rfl⟩
  have LO := Lib.hid hbx
  rw [← hw] at hX b1 hH hL ⊢
  rw [← hbx] at hX ⊢
  clear hw hbx
  refine (dright3_c w1).mono ?_
  rintro e w2 ⟨rfl, b2⟩
  have hX := hX.below b2
  have hH := hH.below b2
  have hL := hL.keep (KeepM.below b2)
  have b2 := b1.step b2
  clear b1
  have x0 := (hX.cell 0).trans rfl
  have x1 := (hX.cell 1).trans rfl
  have x2 := (hX.cell 2).trans rfl
  have x3 := (hX.cell 3).trans rfl
  have x4 := (hX.cell 4).trans rfl
  go_wp2_with fail
  refine (dfind3_c tb g0 cap0 _ w2 ((hH.cell 0).trans rfl) hL).mono ?_
  rintro e w3 ⟨rfl, rfl⟩
  have t0 := (hH.cell 0).trans rfl
  have e0 : w3.cell? ⟨g0, 0, none⟩ = some (.int .i64 1) := hL.cellAt (by decide)
  have e1 : w3.cell? ⟨g0, 6, none⟩ = some (.int .i64 2) := hL.cellAt (by decide)
  go_wp2_with fail
  go_loopw [9] (fun i wr => ∃ j : Nat, j ≤ 2 ∧ i = .int .i64 (j : Int) ∧ wr = w3) (fun i _ => 2 - (intOf i).toNat)
  case atStart => exact ⟨0, by omega, rfl, rfl⟩
  case round =>
    obtain ⟨j, hj, rfl, rfl⟩ := hrel
    have hj' : j = 0 ∨ j = 1 ∨ j = 2 := by omega
    clear hj
    rcases hj' with rfl | rfl | rfl
    · go_wp2_with fail
      go_roundw
      case rel => exact ⟨1, by omega, by first | rfl | trivial, by first | rfl | trivial⟩
      case measure => simp [intOf]
    · go_wp2_with fail
      go_roundw
      case rel => exact ⟨2, by omega, by first | rfl | trivial, by first | rfl | trivial⟩
      case measure => simp [intOf]
    · obtain ⟨i0, hi0, hz0, hs0, hb0⟩ := info_parts info199
      have STOP : ∀ {p : Prop}, Hid p → p := fun h => h.out
      have hrn := Row.nil (fun _ => False) wr 199 6
      go_wp2_with (at_builtin; refine STOP ?_)
      refine Lib.hid ?_
      refine wpList_append_lies _ rfl _ _ 111 rfl 0 199 i0 _ 6 40 Tryz.underlying111 hi0 hz0 hs0 hb0 rfl (by decide) (.slice none 0 0) 0 _ rfl hrn.1 ⟨g0, 0, none⟩ 2 cap0 (rowsV 2) rfl rfl (fun j u hj => ?_) (by decide) (by decide) (by decide) (by decide) (Nat.zero_le _) wr.heap.size rfl ?_
      · rw [add_none, Nat.zero_add]
        have hj5 : j < 2 * 6 := by
          have := (List.getElem?_eq_some_iff.1 hj).1
          simpa [rowsV] using this
        exact (hL.cellAt hj5).trans hj
      intro g1 cap1 w31 own G hat hlt
      obtain ⟨RM0, hC3⟩ := hrn.app0 own G hat
      have RM : Row (fun b => wr.heap.size ≤ b) w31 199 6 (.slice (some ⟨g1, 0, none⟩) 2 cap1) 2 (rowsV 2) := by
        have := RM0.mono (T := fun b => wr.heap.size ≤ b) (fun b h => h.elim (fun h => h.elim) id)
        simpa using this
      have hH3 := hH.chg hC3 (fun e => e)
      have hX3 := hX.chg hC3 (fun e => e)
      have C3 : Chg (fun b => d ≤ c b ∧ c b ≤ d + 1) w w31 := (Chg.of_below b2).trans (hC3.mono (fun b _ h => h.elim))
      clear own G hat hlt RM0 x0 x1 x2 x3 x4 t0
      have x0 := (hX3.cell 0).trans rfl
      have x1 := (hX3.cell 1).trans rfl
      have x2 := (hX3.cell 2).trans rfl
      have x3 := (hX3.cell 3).trans rfl
      have x4 := (hX3.cell 4).trans rfl
      have HCN : Hid (∀ (j : Nat) (u : Value), [.int .i64 3, .int .i64 6, .int .u32 101, .int .i64 80, .bool true, .int .u32 0][j]? = some u → (w31.alloc (.cells #[.int .i64 3, .int .i64 6, .int .u32 101, .int .i64 80, .bool true, .int .u32 0] 199)).cell? ((⟨w31.heap.size, 0, none⟩ : Addr).add j) = some u) := fun j u hj => by
        have := (Has.new w31 #[.int .i64 3, .int .i64 6, .int .u32 101, .int .i64 80, .bool true, .int .u32 0] 199).cell j
        rw [add_none, Nat.zero_add, this]
        simpa using hj
      go_wp2_with (at_builtin; refine STOP ?_)
      refine Lib.hid ?_
      refine wpList_append_lies _ rfl _ _ 111 rfl 0 199 i0 _ 6 40 Tryz.underlying111 hi0 hz0 hs0 hb0 rfl (by decide) (.slice (some ⟨g1, 0, none⟩) 2 cap1) 2 _ (by first | rfl | simp) (RM.1.alloc _) ⟨w31.heap.size, 0, none⟩ 1 1 [.int .i64 3, .int .i64 6, .int .u32 101, .int .i64 80, .bool true, .int .u32 0] rfl rfl HCN.out (by simp [Value.oneCell']) (by omega) (by decide) (by omega) (by simp) (w31.heap.size + 1) (by simp) ?_
      intro g cap w4 own G hat hlt
      obtain ⟨RN0, hC, hz, up⟩ := RM.app own G (by simpa using hat)
      have z31 : wr.heap.size ≤ w31.heap.size := hC3.size
      have RN : Row (fun b => wr.heap.size ≤ b) w4 199 6 (.slice (some ⟨g, 0, none⟩) 3 cap) 3 (rowsV 3) := RN0.mono (fun b h => h.elim id (fun h => Nat.le_trans z31 h))
      have hH4 : Has w4 tb 113 _ := (up tb hH3.lt (RM.ne hH3 (by decide))).trans hH3
      have wrw : w.heap.size ≤ wr.heap.size := b2.size
      have C4 : Chg (fun b => d ≤ c b ∧ c b ≤ d + 1) w w4 := C3.then hC (fun b hb (e : wr.heap.size ≤ b) => absurd (Nat.le_trans wrw e) (by omega))
      have t0' := (hH4.cell 0).trans rfl
      have tf := hH4.free 0
      have hcap : 3 ≤ cap := RN.blk.2.2
      have gt : g ≠ tb := fun e => by
        have h1 := hH4
        rw [← e] at h1
        exact RN.ne h1 (by decide) rfl
      have FIN : Hid (DTab c1 d (w4.setCell ⟨tb, 0, none⟩ (.slice (some ⟨g, 0, none⟩) 3 cap)) tb 3) := by
        have hH5 := hH4.set 0 (.slice (some ⟨g, 0, none⟩) 3 cap)
        simp only [List.setIfInBounds_toArray, List.set] at hH5
        refine ⟨ct, _, hH5, fun e => by omega, fun _ => (RN.setOther (b := tb) (fun e => gt (by cases e; rfl)) 0 _).mono (fun b (hb : wr.heap.size ≤ b) => ?_)⟩
        have : w.heap.size ≤ wr.heap.size := b2.size
        exact EB.out b (by omega)
      have CC : Hid (Chg (fun b => d ≤ c b ∧ c b ≤ d + 1) w (w4.setCell ⟨tb, 0, none⟩ (.slice (some ⟨g, 0, none⟩) 3 cap))) := C4.set (b := tb) (by have := EL.out tb tlt; omega) _ _
      clear RN hH4 C4 own G hat hlt hC
      go_wp2_with (at_builtin; refine STOP ?_)
      all_goals
        refine Lib.hid ?_
        refine wpList_appr rfl _ _ 111 rfl (by first | rfl | simp) rfl (app111_zero _ _ _ _ _ _ _ hcap) ?_
        go_wp2_with fail
        go_ret2
        exact ⟨rfl, c1, EL.out, EB.out, FIN.out, CC.out⟩
set_option maxRecDepth 100000 in
set_option maxHeartbeats 6400000 in
theorem dtadd4_c (c : Nat → Nat) (d tb : Nat) (hd : 1 ≤ d) (w : World) (h : DTab c d w tb 3) :
    Calls Tryz.prog 35 #[.pointer (some ⟨tb, 0, none⟩), .agg #[.int .i64 17, .int .u32 102, .int .i64 9, .bool false, .int .u32 201]] w fun e w' => e = .returned (.tuple #[.int .i64 4, .int .i64 0]) ∧ ∃ c', (∀ b, b < w.heap.size → c' b = c b) ∧ (∀ b, w.heap.size ≤ b → c' b = d + 1) ∧ DTab c' d w' tb 4 ∧ Chg (fun b => d ≤ c b ∧ c b ≤ d + 1) w w' := by
  have h1 := h.re (c2 := owner c w.heap.size (d + 1)) (fun b hb _ _ => own_lt hb)
  obtain ⟨c1, hc1⟩ : ∃ c1, c1 = owner c w.heap.size (d + 1) := ⟨_, rfl⟩
  rw [← hc1] at h1
  have EL : Hid (∀ b, b < w.heap.size → c1 b = c b) := fun b hb => by rw [hc1]; exact own_lt hb
  have EB : Hid (∀ b, w.heap.size ≤ b → c1 b = d + 1) := fun b hb => by rw [hc1]; exact own_back hb
  clear h hc1
  obtain ⟨ct, sL, hH, hn, hr⟩ := h1
  have hL := hr (by decide)
  clear hn hr
  obtain ⟨g0, cap0, rfl⟩ := hL.form (by decide)
  have hcap0 : 3 ≤ cap0 := hL.blk.2.2
  have tlt := hH.lt
  have hX := Has.new w #[.int .i64 17, .int .u32 102, .int .i64 9, .bool false, .int .u32 201] 66
  have b1 : GG w (w.alloc (.cells #[.int .i64 17, .int .u32 102, .int .i64 9, .bool false, .int .u32 201] 66)) := (GG.refl _).alloc _
  have hH := hH.alloc (.cells #[.int .i64 17, .int .u32 102, .int .i64 9, .bool false, .int .u32 201] 66)
  have hL := hL.keep (KeepM.below b1)
  go_enter Tryz.func35, Tryz.ntmps35
  go_wp2_with fail
  obtain ⟨w1, hw⟩ : ∃ W, W = w.alloc (.cells #[.int .i64 17, .int .u32 102, .int .i64 9, .bool false, .int .u32 201] 66) := ⟨_, rfl⟩
  obtain ⟨bx, hbx⟩ : ∃ b, b = w.heap.size := ⟨_, rfl⟩
  have LO := Lib.hid hbx
  rw [← hw] at hX b1 hH hL ⊢
  rw [← hbx] at hX ⊢
  clear hw hbx
  refine (dright4_c w1).mono ?_
  rintro e w2 ⟨rfl, b2⟩
  have hX := hX.below b2
  have hH := hH.below b2
  have hL := hL.keep (KeepM.below b2)
  have b2 := b1.step b2
  clear b1
  have x0 := (hX.cell 0).trans rfl
  have x1 := (hX.cell 1).trans rfl
  have x2 := (hX.cell 2).trans rfl
  have x3 := (hX.cell 3).trans rfl
  have x4 := (hX.cell 4).trans rfl
  go_wp2_with fail
  refine (dfind4_c tb g0 cap0 _ w2 ((hH.cell 0).trans rfl) hL).mono ?_
  rintro e w3 ⟨rfl, rfl⟩
  have t0 := (hH.cell 0).trans rfl
  have e0 : w3.cell? ⟨g0, 0, none⟩ = some (.int .i64 1) := hL.cellAt (by decide)
  have e1 : w3.cell? ⟨g0, 6, none⟩ = some (.int .i64 2) := hL.cellAt (by decide)
  have e2 : w3.cell? ⟨g0, 12, none⟩ = some (.int .i64 3) := hL.cellAt (by decide)
  go_wp2_with fail
  go_loopw [9] (fun i wr => ∃ j : Nat, j ≤ 3 ∧ i = .int .i64 (j : Int) ∧ wr = w3) (fun i _ => 3 - (intOf i).toNat)
  case atStart => exact ⟨0, by omega, rfl, rfl⟩
  case round =>
    obtain ⟨j, hj, rfl, rfl⟩ := hrel
    have hj' : j = 0 ∨ j = 1 ∨ j = 2 ∨ j = 3 := by omega
    clear hj
    rcases hj' with rfl | rfl | rfl | rfl
    · go_wp2_with fail
      go_roundw
      case rel => exact ⟨1, by omega, by first | rfl | trivial, by first | rfl | trivial⟩
      case measure => simp [intOf]
    · go_wp2_with fail
      go_roundw
      case rel => exact ⟨2, by omega, by first | rfl | trivial, by first | rfl | trivial⟩
      case measure => simp [intOf]
    · go_wp2_with fail
      go_roundw
      case rel => exact ⟨3, by omega, by first | rfl | trivial, by first | rfl | trivial⟩
      case measure => simp [intOf]
    · obtain ⟨i0, hi0, hz0, hs0, hb0⟩ := info_parts info199
      have STOP : ∀ {p : Prop}, Hid p → p := fun h => h.out
      have hrn := Row.nil (fun _ => False) wr 199 6
      go_wp2_with (at_builtin; refine STOP ?_)
      refine Lib.hid ?_
      refine wpList_append_lies _ rfl _ _ 111 rfl 0 199 i0 _ 6 40 Tryz.underlying111 hi0 hz0 hs0 hb0 rfl (by decide) (.slice none 0 0) 0 _ rfl hrn.1 ⟨g0, 0, none⟩ 3 cap0 (rowsV 3) rfl rfl (fun j u hj => ?_) (by decide) (by decide) (by decide) (by decide) (Nat.zero_le _) wr.heap.size rfl ?_
      · rw [add_none, Nat.zero_add]
        have hj5 : j < 3 * 6 := by
          have := (List.getElem?_eq_some_iff.1 hj).1
          simpa [rowsV] using this
        exact (hL.cellAt hj5).trans hj
      intro g1 cap1 w31 own G hat hlt
      obtain ⟨RM0, hC3⟩ := hrn.app0 own G hat
      have RM : Row (fun b => wr.heap.size ≤ b) w31 199 6 (.slice (some ⟨g1, 0, none⟩) 3 cap1) 3 (rowsV 3) := by
        have := RM0.mono (T := fun b => wr.heap.size ≤ b) (fun b h => h.elim (fun h => h.elim) id)
        simpa using this
      have hH3 := hH.chg hC3 (fun e => e)
      have hX3 := hX.chg hC3 (fun e => e)
      have C3 : Chg (fun b => d ≤ c b ∧ c b ≤ d + 1) w w31 := (Chg.of_below b2).trans (hC3.mono (fun b _ h => h.elim))
      clear own G hat hlt RM0 x0 x1 x2 x3 x4 t0
      have x0 := (hX3.cell 0).trans rfl
      have x1 := (hX3.cell 1).trans rfl
      have x2 := (hX3.cell 2).trans rfl
      have x3 := (hX3.cell 3).trans rfl
      have x4 := (hX3.cell 4).trans rfl
      have HCN : Hid (∀ (j : Nat) (u : Value), [.int .i64 4, .int .i64 17, .int .u32 102, .int .i64 9, .bool false, .int .u32 201][j]? = some u → (w31.alloc (.cells #[.int .i64 4, .int .i64 17, .int .u32 102, .int .i64 9, .bool false, .int .u32 201] 199)).cell? ((⟨w31.heap.size, 0, none⟩ : Addr).add j) = some u) := fun j u hj => by
        have := (Has.new w31 #[.int .i64 4, .int .i64 17, .int .u32 102, .int .i64 9, .bool false, .int .u32 201] 199).cell j
        rw [add_none, Nat.zero_add, this]
        simpa using hj
      go_wp2_with (at_builtin; refine STOP ?_)
      refine Lib.hid ?_
      refine wpList_append_lies _ rfl _ _ 111 rfl 0 199 i0 _ 6 40 Tryz.underlying111 hi0 hz0 hs0 hb0 rfl (by decide) (.slice (some ⟨g1, 0, none⟩) 3 cap1) 3 _ (by first | rfl | simp) (RM.1.alloc _) ⟨w31.heap.size, 0, none⟩ 1 1 [.int .i64 4, .int .i64 17, .int .u32 102, .int .i64 9, .bool false, .int .u32 201] rfl rfl HCN.out (by simp [Value.oneCell']) (by omega) (by decide) (by omega) (by simp) (w31.heap.size + 1) (by simp) ?_
      intro g cap w4 own G hat hlt
      obtain ⟨RN0, hC, hz, up⟩ := RM.app own G (by simpa using hat)
      have z31 : wr.heap.size ≤ w31.heap.size := hC3.size
      have RN : Row (fun b => wr.heap.size ≤ b) w4 199 6 (.slice (some ⟨g, 0, none⟩) 4 cap) 4 (rowsV 4) := RN0.mono (fun b h => h.elim id (fun h => Nat.le_trans z31 h))
      have hH4 : Has w4 tb 113 _ := (up tb hH3.lt (RM.ne hH3 (by decide))).trans hH3
      have wrw : w.heap.size ≤ wr.heap.size := b2.size
      have C4 : Chg (fun b => d ≤ c b ∧ c b ≤ d + 1) w w4 := C3.then hC (fun b hb (e : wr.heap.size ≤ b) => absurd (Nat.le_trans wrw e) (by omega))
      have t0' := (hH4.cell 0).trans rfl
      have tf := hH4.free 0
      have hcap : 4 ≤ cap := RN.blk.2.2
      have gt : g ≠ tb := fun e => by
        have h1 := hH4
        rw [← e] at h1
        exact RN.ne h1 (by decide) rfl
      have FIN : Hid (DTab c1 d (w4.setCell ⟨tb, 0, none⟩ (.slice (some ⟨g, 0, none⟩) 4 cap)) tb 4) := by
        have hH5 := hH4.set 0 (.slice (some ⟨g, 0, none⟩) 4 cap)
        simp only [List.setIfInBounds_toArray, List.set] at hH5
        refine ⟨ct, _, hH5, fun e => by omega, fun _ => (RN.setOther (b := tb) (fun e => gt (by cases e; rfl)) 0 _).mono (fun b (hb : wr.heap.size ≤ b) => ?_)⟩
        have : w.heap.size ≤ wr.heap.size := b2.size
        exact EB.out b (by omega)
      have CC : Hid (Chg (fun b => d ≤ c b ∧ c b ≤ d + 1) w (w4.setCell ⟨tb, 0, none⟩ (.slice (some ⟨g, 0, none⟩) 4 cap))) := C4.set (b := tb) (by have := EL.out tb tlt; omega) _ _
      clear RN hH4 C4 own G hat hlt hC
      go_wp2_with (at_builtin; refine STOP ?_)
      all_goals
        refine Lib.hid ?_
        refine wpList_appr rfl _ _ 111 rfl (by first | rfl | simp) rfl (app111_zero _ _ _ _ _ _ _ hcap) ?_
        go_wp2_with fail
        go_ret2
        exact ⟨rfl, c1, EL.out, EB.out, FIN.out, CC.out⟩
end Go.Proofs.YtngdebpaheejlaaGreatDoor
namespace Go.Proofs.YtngdebpaheejlaaGreatDoor
open Go.RowKit Go.Shelf
set_option linter.unusedSimpArgs false
set_option linter.unusedVariables false
def partsV (ps : Nat → Nat) : Nat → List Value
  | 0 => []
  | n + 1 => partsV ps n ++ [.int .i64 ((n + 1 : Nat) : Int), .pointer (some ⟨ps (n + 1), 0, none⟩)]
/-- The document's balancer in memory: n services, their pools in the states T. -/
structure DX (c : Nat → Nat) (w : World) (xb tb n : Nat) (T : Nat → Nat) : Prop where
  own : c xb = 40
  head : ∃ xs sP ps, Has w xb 120 xs ∧ xs[9]? = some (.string (bs kk)) ∧ xs[10]? = some (.int .i64 5) ∧ xs[11]? = some (.pointer (some ⟨tb, 0, none⟩)) ∧ xs[12]? = some sP ∧ Row (fun b => c b = 41) w 122 2 sP n (partsV ps n) ∧ ∀ j, 1 ≤ j → j ≤ n → DPool c (50 + 10 * j) w (ps j) (T j)
  tab : DTab c 42 w tb n
theorem DX.keep {c : Nat → Nat} {w w' : World} {xb tb n : Nat} {T : Nat → Nat} (h : DX c w xb tb n T) (hs : w.heap.size ≤ w'.heap.size) (hk : ∀ b, b < w.heap.size → 40 ≤ c b → w'.heap[b]? = w.heap[b]?) : DX c w' xb tb n T := by
  obtain ⟨h1, ⟨xs, sP, ps, h2, h3, h4, h5, h6, h7, h8⟩, h9⟩ := h
  exact ⟨h1, ⟨xs, sP, ps, (hk xb h2.lt (by omega)).trans h2, h3, h4, h5, h6, h7.keep (fun b hb (e : c b = 41) => hk b hb (by omega)), fun j j1 j2 => (h8 j j1 j2).keep hs (fun b hb e1 e2 => hk b hb (by omega))⟩, h9.keep (fun b hb e1 e2 => hk b hb (by omega))⟩
theorem DX.re {c c2 : Nat → Nat} {w : World} {xb tb n : Nat} {T : Nat → Nat} (h : DX c w xb tb n T) (he : ∀ b, b < w.heap.size → 40 ≤ c b → c2 b = c b) : DX c2 w xb tb n T := by
  obtain ⟨h1, ⟨xs, sP, ps, h2, h3, h4, h5, h6, h7, h8⟩, h9⟩ := h
  exact ⟨(he xb h2.lt (by omega)).trans h1, ⟨xs, sP, ps, h2, h3, h4, h5, h6, h7.cut.mono (fun b (e : c b = 41 ∧ b < w.heap.size) => (he b e.2 (by omega)).trans e.1), fun j j1 j2 => (h8 j j1 j2).re (fun b hb e1 e2 => he b hb (by omega))⟩, h9.re (fun b hb e1 e2 => he b hb (by omega))⟩
theorem dx_leaf {w F : World} {tb : Nat} {xs : Array Value} (g : GG w F) (hT : Has F tb 113 #[.slice none 0 0]) (ht : w.heap.size ≤ tb) (h9 : xs[9]? = some (.string (bs kk))) (h10 : xs[10]? = some (.int .i64 5)) (h11 : xs[11]? = some (.pointer (some ⟨tb, 0, none⟩))) (h12 : xs[12]? = some (.slice none 0 0)) :
    ∃ c, (∀ b, b < w.heap.size → c b = 0) ∧ (∀ b, w.heap.size ≤ b → 39 ≤ c b) ∧ DX c (F.alloc (.cells xs 120)).drew F.heap.size tb 0 (fun _ => 0) := by
  have z1 := hT.lt
  have z2 : w.heap.size ≤ F.heap.size := g.size
  obtain ⟨c, hc⟩ : ∃ c : Nat → Nat, c = fun b => if b < w.heap.size then 0 else if b = F.heap.size then 40 else if b = tb then 42 else 39 := ⟨_, rfl⟩
  have ce : ∀ b, c b = if b < w.heap.size then 0 else if b = F.heap.size then 40 else if b = tb then 42 else 39 := fun b => by rw [hc]
  refine ⟨c, fun b hb => by rw [ce, if_pos hb], fun b hb => ?_, ⟨?_, ⟨xs, _, fun _ => 0, (Has.new F xs 120).drew, h9, h10, h11, h12, Row.nil _ _ _ _, fun j j1 j2 => by omega⟩, ⟨?_, _, (hT.alloc _).drew, fun _ => rfl, fun e => by omega⟩⟩⟩
  · rw [ce, if_neg (by omega)]
    split
    · omega
    · split <;> omega
  · rw [ce, if_neg (by omega), if_pos rfl]
  · rw [ce, if_neg (by omega), if_neg (by omega), if_pos rfl]
theorem d15new_c (k : Nat) (h1 : 1 ≤ k) (h2 : k ≤ 30) (w : World) : Calls Tryz.prog 61 #[.int .i64 2000, .int .i64 (k : Int), .int .i64 10] w fun e w' => ∃ p, e = .returned (.pointer (some ⟨p, 0, none⟩)) ∧ Below w.heap.size w w' := by
  have i1 : ¬ (k : Int) < 1 := by omega
  have i2 : ¬ (65536 : Int) < (k : Int) := by omega
  have i3 : ¬ (65536 : Int) < 2000 + (k : Int) := by omega
  go_enter Tryz.func61, Tryz.ntmps61
  go_wp2_with fail
  go_ret
  first
    | exact ⟨_, rfl, (Below.refl _ _).alloc (Nat.le_refl _) _⟩
    | exact ⟨⟨_, rfl⟩, (Below.refl _ _).alloc (Nat.le_refl _) _⟩
set_option maxRecDepth 100000 in
theorem d20new_c (r k : Nat) (h1 : 1 ≤ r) (h2 : r ≤ 40) (h3 : 1 ≤ k) (h4 : k ≤ 30) (w : World) : Calls Tryz.prog 32 #[.int .i64 (r : Int), .int .i64 2000, .int .i64 (k : Int), .int .i64 10, .agg #[.int .i64 5, .int .i64 50, .int .i64 9, .int .i64 7, .int .i64 20]] w fun e w' => ∃ p, e = .returned (.pointer (some ⟨p, 0, none⟩)) ∧ Below w.heap.size w w' := by
  have i1 : ¬ (r : Int) < 1 := by omega
  have i2 : ¬ (65536 : Int) < (r : Int) := by omega
  have hX := Has.new w #[.int .i64 5, .int .i64 50, .int .i64 9, .int .i64 7, .int .i64 20] 55
  have b1 : GG w (w.alloc (.cells #[.int .i64 5, .int .i64 50, .int .i64 9, .int .i64 7, .int .i64 20] 55)) := (GG.refl _).alloc _
  go_enter Tryz.func32, Tryz.ntmps32
  go_wp2_with fail
  refine (d15new_c k h3 h4 _).mono ?_
  rintro e w2 ⟨p, rfl, b2⟩
  have hX2 := hX.below b2
  have b2 := b1.step b2
  have x0 := (hX2.cell 0).trans rfl
  have x1 := (hX2.cell 1).trans rfl
  have x2 := (hX2.cell 2).trans rfl
  have x3 := (hX2.cell 3).trans rfl
  have x4 := (hX2.cell 4).trans rfl
  have HF : Hid (Calls Tryz.prog 62 #[.agg #[.int .i64 5, .int .i64 50, .int .i64 9, .int .i64 7, .int .i64 20]] w2 fun e w' => e = .returned (.bool true) ∧ Below w2.heap.size w2 w') := fits_c 5 50 9 7 20 w2
  clear hX b1
  go_wp2_with fail
  refine HF.out.mono ?_
  rintro e w3 ⟨rfl, b3⟩
  clear HF x0 x1 x2 x3 x4
  have hX3 := hX2.below b3
  have b3 := b2.step b3
  have x0 := (hX3.cell 0).trans rfl
  have x1 := (hX3.cell 1).trans rfl
  have x2 := (hX3.cell 2).trans rfl
  have x3 := (hX3.cell 3).trans rfl
  have x4 := (hX3.cell 4).trans rfl
  have B3 := Lib.hid b3
  have hlt := hX3.lt
  clear hX2 b2 b3 hX3
  go_wp2_with fail
  go_ret
  first
    | exact ⟨_, rfl, (B3.out.alloc _).alloc _⟩
    | exact ⟨⟨_, rfl⟩, (B3.out.alloc _).alloc _⟩
set_option maxRecDepth 100000 in
set_option maxHeartbeats 6400000 in
theorem dxnew_c (r k : Nat) (h1 : 1 ≤ r) (h2 : r ≤ 40) (h3 : 1 ≤ k) (h4 : k ≤ 30) (key : ByteArray) (hkey : key = bs kk) (w : World) :
    Calls Tryz.prog 13 #[.agg #[.int .i64 (r : Int), .int .i64 2000, .int .i64 (k : Int), .int .i64 10, .int .i64 5, .int .i64 50, .int .i64 9, .int .i64 7, .int .i64 20, .string key, .int .i64 5]] w fun e w' => ∃ xb, e = .returned (.pointer (some ⟨xb, 0, none⟩)) ∧ ∃ c tb, (∀ b, b < w.heap.size → c b = 0) ∧ (∀ b, w.heap.size ≤ b → 39 ≤ c b) ∧ DX c w' xb tb 0 (fun _ => 0) ∧ Below w.heap.size w w' := by
  have hk16 : key.size = 16 := by rw [hkey]; kernel_rfl
  have HK := Lib.hid hkey
  clear hkey
  have hmk : ∀ W : World, (Instr.makeSlice 114 (.int .i64 22) (.int .i64 22)).run Tryz.prog W = .ok (.slice (some ⟨W.heap.size, 0, none⟩) 22 22) (W.alloc (.cells #[.int .i64 0, .int .i64 0, .int .i64 0, .int .i64 0, .int .i64 0, .int .i64 0, .int .i64 0, .int .i64 0, .int .i64 0, .int .i64 0, .int .i64 0, .int .i64 0, .int .i64 0, .int .i64 0, .int .i64 0, .int .i64 0, .int .i64 0, .int .i64 0, .int .i64 0, .int .i64 0, .int .i64 0, .int .i64 0] 3)) := fun W => by kernel_rfl
  have hX := Has.new w #[.int .i64 (r : Int), .int .i64 2000, .int .i64 (k : Int), .int .i64 10, .int .i64 5, .int .i64 50, .int .i64 9, .int .i64 7, .int .i64 20, .string key, .int .i64 5] 57
  have b1 : GG w (w.alloc (.cells #[.int .i64 (r : Int), .int .i64 2000, .int .i64 (k : Int), .int .i64 10, .int .i64 5, .int .i64 50, .int .i64 9, .int .i64 7, .int .i64 20, .string key, .int .i64 5] 57)) := (GG.refl _).alloc _
  go_enter Tryz.func13, Tryz.ntmps13
  go_wp2_with fail
  generalize w.alloc (.cells #[.int .i64 (r : Int), .int .i64 2000, .int .i64 (k : Int), .int .i64 10, .int .i64 5, .int .i64 50, .int .i64 9, .int .i64 7, .int .i64 20, .string key, .int .i64 5] 57) = w1 at hX b1 ⊢
  obtain ⟨bx, hbx⟩ : ∃ b, b = w.heap.size := ⟨_, rfl⟩
  rw [← hbx] at hX ⊢
  have HBX := Lib.hid hbx
  clear hbx
  refine (d20new_c r k h1 h2 h3 h4 w1).mono ?_
  rintro e w2 ⟨fp, rfl, b2⟩
  have hX2 := hX.below b2
  have b2 := b1.step b2
  clear hX b1
  have x0 := (hX2.cell 0).trans rfl
  have x1 := (hX2.cell 1).trans rfl
  have x2 := (hX2.cell 2).trans rfl
  have x3 := (hX2.cell 3).trans rfl
  have x4 := (hX2.cell 4).trans rfl
  have x5 := (hX2.cell 5).trans rfl
  have x6 := (hX2.cell 6).trans rfl
  have x7 := (hX2.cell 7).trans rfl
  have x8 := (hX2.cell 8).trans rfl
  have x9 := (hX2.cell 9).trans rfl
  have x10 := (hX2.cell 10).trans rfl
  have HP := Lib.hid (dpnew_c 1 (by decide) key hk16 w2)
  go_wp2_with fail
  refine HP.out.mono ?_
  rintro e w3 ⟨pp, rfl, _, _, _, b3⟩
  clear HP x0 x1 x2 x3 x4 x5 x6 x7 x8 x9 x10
  have hX3 := hX2.below b3
  have b3 := b2.step b3
  clear hX2 b2
  go_wp2_with fail
  have KA : Hid (∀ W, GG w3 W → W.cell? ⟨bx, 0, none⟩ = some (.int .i64 (r : Int)) ∧ W.cell? ⟨bx, 1, none⟩ = some (.int .i64 2000) ∧ W.cell? ⟨bx, 2, none⟩ = some (.int .i64 (k : Int)) ∧ W.cell? ⟨bx, 3, none⟩ = some (.int .i64 10) ∧ W.cell? ⟨bx, 4, none⟩ = some (.int .i64 5) ∧ W.cell? ⟨bx, 5, none⟩ = some (.int .i64 50) ∧ W.cell? ⟨bx, 6, none⟩ = some (.int .i64 9) ∧ W.cell? ⟨bx, 7, none⟩ = some (.int .i64 7) ∧ W.cell? ⟨bx, 8, none⟩ = some (.int .i64 20) ∧ W.cell? ⟨bx, 9, none⟩ = some (.string key) ∧ W.cell? ⟨bx, 10, none⟩ = some (.int .i64 5)) := fun W hW => by
    have x := hX3.below hW
    exact ⟨(x.cell 0).trans rfl, (x.cell 1).trans rfl, (x.cell 2).trans rfl, (x.cell 3).trans rfl, (x.cell 4).trans rfl, (x.cell 5).trans rfl, (x.cell 6).trans rfl, (x.cell 7).trans rfl, (x.cell 8).trans rfl, (x.cell 9).trans rfl, (x.cell 10).trans rfl⟩
  go_region_held3 (fun W => W.cell? ⟨bx, 0, none⟩ = some (.int .i64 (r : Int)) ∧ W.cell? ⟨bx, 1, none⟩ = some (.int .i64 2000) ∧ W.cell? ⟨bx, 2, none⟩ = some (.int .i64 (k : Int)) ∧ W.cell? ⟨bx, 3, none⟩ = some (.int .i64 10) ∧ W.cell? ⟨bx, 4, none⟩ = some (.int .i64 5) ∧ W.cell? ⟨bx, 5, none⟩ = some (.int .i64 50) ∧ W.cell? ⟨bx, 6, none⟩ = some (.int .i64 9) ∧ W.cell? ⟨bx, 7, none⟩ = some (.int .i64 7) ∧ W.cell? ⟨bx, 8, none⟩ = some (.int .i64 20) ∧ W.cell? ⟨bx, 9, none⟩ = some (.string key) ∧ W.cell? ⟨bx, 10, none⟩ = some (.int .i64 5)) (exact KA.out _ (by repeat' (first | with_reducible exact GG.refl _ | with_reducible refine GG.alloc ?_ _ | with_reducible refine GG.drew ?_))) (fail)
  all_goals
    have B3 := Lib.hid b3
    have key_eq := HK.out
    clear KA hX3 b3
    go_wp2_with fail
    go_ret
    rw [key_eq]
    refine ⟨_, rfl, ?_⟩
    first
      | (obtain ⟨c, c1, c2, c3⟩ := dx_leaf (w := w) (F := (w3.alloc (.cells #[.slice none 0 0] 113)).alloc (.cells #[.int .i64 0, .int .i64 0, .int .i64 0, .int .i64 0, .int .i64 0, .int .i64 0, .int .i64 0, .int .i64 0, .int .i64 0, .int .i64 0, .int .i64 0, .int .i64 0, .int .i64 0, .int .i64 0, .int .i64 0, .int .i64 0, .int .i64 0, .int .i64 0, .int .i64 0, .int .i64 0, .int .i64 0, .int .i64 0] 3)) (tb := w3.heap.size) (xs := #[.int .i64 (r : Int), .int .i64 2000, .int .i64 (k : Int), .int .i64 10, .int .i64 5, .int .i64 50, .int .i64 9, .int .i64 7, .int .i64 20, .string (bs kk), .int .i64 5, .pointer (some ⟨w3.heap.size, 0, none⟩), .slice none 0 0, .pointer (some ⟨fp, 0, none⟩), .slice none 0 0, .slice (some ⟨w3.heap.size + 1, 0, none⟩) 22 22, .int .i64 0, .int .i64 0, .int .u32 0, .int .u32 0, .int .i64 0, .int .i64 0, .int .i64 0, .int .u32 0, .int .u32 0, .int .i64 0, .int .i64 0, .int .i64 0, .int .i64 0, .int .i64 0, .bool false]) ((B3.out.alloc _).alloc _) ((Has.new w3 #[.slice none 0 0] 113).alloc _) B3.out.size rfl rfl rfl rfl
         exact ⟨c, _, c1, c2, by simpa using c3, (((B3.out.alloc _).alloc _).alloc _).drew⟩)
      | (obtain ⟨c, c1, c2, c3⟩ := dx_leaf (w := w) (F := (w3.alloc (.cells #[.int .i64 0, .int .i64 0, .int .i64 0, .int .i64 0, .int .i64 0, .int .i64 0, .int .i64 0, .int .i64 0, .int .i64 0, .int .i64 0, .int .i64 0, .int .i64 0, .int .i64 0, .int .i64 0, .int .i64 0, .int .i64 0, .int .i64 0, .int .i64 0, .int .i64 0, .int .i64 0, .int .i64 0, .int .i64 0] 3)).alloc (.cells #[.slice none 0 0] 113)) (tb := w3.heap.size + 1) (xs := #[.int .i64 (r : Int), .int .i64 2000, .int .i64 (k : Int), .int .i64 10, .int .i64 5, .int .i64 50, .int .i64 9, .int .i64 7, .int .i64 20, .string (bs kk), .int .i64 5, .pointer (some ⟨w3.heap.size + 1, 0, none⟩), .slice none 0 0, .pointer (some ⟨fp, 0, none⟩), .slice none 0 0, .slice (some ⟨w3.heap.size, 0, none⟩) 22 22, .int .i64 0, .int .i64 0, .int .u32 0, .int .u32 0, .int .i64 0, .int .i64 0, .int .i64 0, .int .u32 0, .int .u32 0, .int .i64 0, .int .i64 0, .int .i64 0, .int .i64 0, .int .i64 0, .bool false]) ((B3.out.alloc _).alloc _) (has_made (by simp)) (by have := B3.out.size; omega) rfl rfl rfl rfl
         exact ⟨c, _, c1, c2, by simpa using c3, (((B3.out.alloc _).alloc _).alloc _).drew⟩)
end Go.Proofs.YtngdebpaheejlaaGreatDoor
