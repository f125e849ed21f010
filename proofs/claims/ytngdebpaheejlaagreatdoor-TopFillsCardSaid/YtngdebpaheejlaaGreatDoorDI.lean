/- The document's balancer (chapter 23): Serve. -/
import Derived.Test.YtngdebpaheejlaaGreatDoorZt
import Derived.Deep.RegionLaw
namespace Go.Proofs.YtngdebpaheejlaaGreatDoor
open Go.RowKit Go.Shelf
set_option linter.unusedSimpArgs false
set_option linter.unusedVariables false
theorem info122 : (Tryz.prog.info? 122).map (fun i => (i.zero, i.size, i.bytes)) = some (some (.agg #[.int .i64 0, .pointer none]), 2, 16) := by kernel_rfl
theorem dpnew_app (S : Nat → Prop) (d : Nat) (hd : 1 ≤ d) (key : ByteArray) (hk : key.size = 16) (n : Nat) (hn : n < 10) (sP : Value) (L : List Value) (x : Int) (w W : World) (hG : GG w W) (hR : Row S w 122 2 sP n L) :
    Calls Tryz.prog 33 #[.int .i64 5, .string key] W fun e w' => ∃ p c2 g cap wA, e = .returned (.pointer (some ⟨p, 0, none⟩)) ∧ Below W.heap.size W w' ∧ (Builtin.append_ #[115, 115] 115 #[sP, .slice (some ⟨w'.heap.size, 0, none⟩) 1 1]).run Tryz.prog (w'.alloc (.cells #[.int .i64 x, .pointer (some ⟨p, 0, none⟩)] 122)) = .ok (.slice (some ⟨g, 0, none⟩) (n + 1) cap) wA ∧
      Row (fun b => S b ∨ w'.heap.size ≤ b) wA 122 2 (.slice (some ⟨g, 0, none⟩) (n + 1) cap) (n + 1) (L ++ [.int .i64 x, .pointer (some ⟨p, 0, none⟩)]) ∧ w'.heap.size ≤ wA.heap.size ∧ Chg S w wA ∧ Ext (fun x => d ≤ x ∧ x ≤ d + 8) (fun _ => 0) c2 W.heap.size ∧ DPool c2 d w' p 0 ∧ (∀ k, k < w'.heap.size → sP.ownBlock ≠ some k → wA.heap[k]? = w'.heap[k]?) := by
  refine (dpnew_c d hd key hk W).mono ?_
  rintro e w' ⟨p, rfl, c2, hE, hD, hb⟩
  obtain ⟨i0, hi0, hz0, hs0, hb0⟩ := info_parts info122
  have g' : GG w w' := hG.step hb
  have hR' := hR.keep (KeepM.below g')
  obtain ⟨v', wA, h1, h2, h3, _, h5⟩ := run_append_own_at (P := Tryz.prog) (w'.alloc (.cells #[.int .i64 x, .pointer (some ⟨p, 0, none⟩)] 122)) 0 115 115 122 i0 _ 2 16 Tryz.underlying115 hi0 hz0 hs0 hb0 rfl (by decide) sP n L (hR'.1.alloc _) ⟨w'.heap.size, 0, none⟩ 1 1 [.int .i64 x, .pointer (some ⟨p, 0, none⟩)] rfl
    (fun j u hj => by
      rw [add_none, Nat.zero_add, (Has.new w' #[.int .i64 x, .pointer (some ⟨p, 0, none⟩)] 122).cell]
      simpa using hj)
    (fun u hu => by
      simp at hu
      rcases hu with rfl | rfl <;> rfl)
    (by unfold maxLen; omega) (by omega) (Nat.zero_le _)
  rcases h2.2 with ⟨_, e⟩ | ⟨g, cap, cur, rfl, _⟩
  · omega
  · have hat : sP.ownBlock = some g ∨ g = w'.heap.size + 1 := by
      rcases h5 with e | e
      · exact .inl e.symm
      · right
        cases e
        simp
    obtain ⟨RN, hC, hz, up⟩ := hR'.app h2 h3 hat
    exact ⟨p, c2, g, cap, wA, rfl, hb, h1, RN, by omega, (Chg.of_below g').trans hC, hE, hD, up⟩
theorem partsV_ext {ps ps' : Nat → Nat} : ∀ n, (∀ j, 1 ≤ j → j ≤ n → ps j = ps' j) → partsV ps n = partsV ps' n
  | 0, _ => rfl
  | n + 1, h => by
    unfold partsV
    rw [partsV_ext n (fun j j1 j2 => h j j1 (by omega)), h (n + 1) (by omega) (Nat.le_refl _)]
set_option maxRecDepth 100000 in
set_option maxHeartbeats 6400000 in
theorem dserve1_c (c : Nat → Nat) (xb tb : Nat) (T : Nat → Nat) (hT : T 1 = 0) (w : World) (h : DX c w xb tb 0 T) :
    Calls Tryz.prog 16 #[.pointer (some ⟨xb, 0, none⟩), .agg #[.int .i64 6, .int .u32 100, .int .i64 80, .bool false, .int .u32 200]] w fun e w' => e = .returned (.tuple #[.int .i64 1, .int .i64 0]) ∧ ∃ c', (∀ b, b < w.heap.size → c' b = c b) ∧ (∀ b, w.heap.size ≤ b → 39 ≤ c' b) ∧ DX c' w' xb tb 1 T ∧ Chg (fun b => 39 ≤ c b) w w' := by
  have h1 := h.re (c2 := owner c w.heap.size 39) (fun b hb _ => own_lt hb)
  obtain ⟨c1, hc1⟩ : ∃ c1, c1 = owner c w.heap.size 39 := ⟨_, rfl⟩
  rw [← hc1] at h1
  have EL : Hid (∀ b, b < w.heap.size → c1 b = c b) := fun b hb => by rw [hc1]; exact own_lt hb
  have EB : Hid (∀ b, w.heap.size ≤ b → c1 b = 39) := fun b hb => by rw [hc1]; exact own_back hb
  clear h hc1
  have hX := Has.new w #[.int .i64 6, .int .u32 100, .int .i64 80, .bool false, .int .u32 200] 66
  have b1 : GG w (w.alloc (.cells #[.int .i64 6, .int .u32 100, .int .i64 80, .bool false, .int .u32 200] 66)) := (GG.refl _).alloc _
  have h1 := h1.keep (w' := w.alloc (.cells #[.int .i64 6, .int .u32 100, .int .i64 80, .bool false, .int .u32 200] 66)) b1.size (fun b hb _ => Below.block b1 b hb)
  go_enter Tryz.func16, Tryz.ntmps16
  go_wp2_with fail
  obtain ⟨w1, hw⟩ : ∃ W, W = w.alloc (.cells #[.int .i64 6, .int .u32 100, .int .i64 80, .bool false, .int .u32 200] 66) := ⟨_, rfl⟩
  obtain ⟨bx, hbx⟩ : ∃ b, b = w.heap.size := ⟨_, rfl⟩
  have LO := Lib.hid hbx
  rw [← hw] at hX b1 h1 ⊢
  rw [← hbx] at hX ⊢
  clear hw hbx
  obtain ⟨cx, ⟨xs, sP, ps, hH, k9, k10, k11, k12, hR, hPs⟩, hTab⟩ := h1
  have x11 : ∀ V : Gr w1, V.1.cell? ⟨xb, 11, none⟩ = some (.pointer (some ⟨tb, 0, none⟩)) := fun V => ((V.has hH).cell 11).trans k11
  have y0 : ∀ V : Gr w1, V.1.cell? ⟨bx, 0, none⟩ = some (.int .i64 6) := fun V => ((V.has hX).cell 0).trans rfl
  have y1 : ∀ V : Gr w1, V.1.cell? ⟨bx, 1, none⟩ = some (.int .u32 100) := fun V => ((V.has hX).cell 1).trans rfl
  have y2 : ∀ V : Gr w1, V.1.cell? ⟨bx, 2, none⟩ = some (.int .i64 80) := fun V => ((V.has hX).cell 2).trans rfl
  have y3 : ∀ V : Gr w1, V.1.cell? ⟨bx, 3, none⟩ = some (.bool false) := fun V => ((V.has hX).cell 3).trans rfl
  have y4 : ∀ V : Gr w1, V.1.cell? ⟨bx, 4, none⟩ = some (.int .u32 200) := fun V => ((V.has hX).cell 4).trans rfl
  refine wp_region_grows_mid 5 (by kernel_rfl) (by kernel_rfl) ?_
  simp only [List.take_succ_cons, List.take_zero, List.drop_succ_cons, List.drop_zero]
  repeat (go_big_quiet_step (fail))
  refine wpQuiet_nil ?_
  intro V
  have hH2 := V.has hH
  have hR2 := hR.keep (KeepM.below V.2)
  have hPs2 := fun j j1 j2 => (hPs j j1 j2).keep V.2.size (fun b hb _ _ => V.2.block b hb)
  have hTab2 := hTab.keep (fun b hb _ _ => V.2.block b hb)
  have b2 := b1.step V.2
  clear x11 y0 y1 y2 y3 y4 hH hR hPs hTab hX b1
  obtain ⟨w2, hw⟩ : ∃ W, W = V.1 := ⟨_, rfl⟩
  rw [← hw] at hH2 hR2 hPs2 hTab2 b2 ⊢
  clear hw V
  have HA := Lib.hid (dtadd1_c c1 42 tb (by decide) w2 hTab2)
  go_wp2_with fail
  refine HA.out.mono ?_
  clear HA hTab2
  rintro e w3 ⟨rfl, c3, u1, u2, hTab3, hC3⟩
  have s23 := hC3.size
  have hH3 := hH2.chg hC3 (fun e => by omega)
  have hR3 : Row (fun b => c1 b = 41) w3 122 2 sP 0 (partsV ps 0) := hR2.keep (fun b hb (e : c1 b = 41) => hC3.block b hb (fun e2 => by omega))
  have hPs3 : ∀ j, 1 ≤ j → j ≤ 0 → DPool c1 (50 + 10 * j) w3 (ps j) (T j) := fun j j1 j2 => (hPs2 j j1 j2).keep hC3.size (fun b hb e1 e2 => hC3.block b hb (fun e3 => by omega))
  have C3 : Chg (fun b => 39 ≤ c b) w w3 := (Chg.of_below b2).then hC3 (fun b hb (e : 42 ≤ c1 b ∧ c1 b ≤ 42 + 1) => by have := EL.out b hb; omega)
  clear hH2 hR2 hPs2 hC3
  go_wp2_with fail
  repeat (go_big_quiet_step (fail))
  refine wpQuiet_nil ?_
  go_wp2_with fail
  obtain ⟨key, hkey⟩ : ∃ x, x = bs kk := ⟨_, rfl⟩
  have hk16 : key.size = 16 := by rw [hkey]; kernel_rfl
  have HK := Lib.hid hkey
  rw [← hkey] at k9
  clear hkey
  have KA : Hid (∀ W, Has W xb 120 xs → W.cell? ⟨xb, 10, none⟩ = some (.int .i64 5) ∧ W.cell? ⟨xb, 9, none⟩ = some (.string key)) := fun W x => ⟨(x.cell 10).trans k10, (x.cell 9).trans k9⟩
  have HP := Lib.hid (dpnew_app (fun b => c1 b = 41) 60 (by decide) key hk16 0 (by decide) sP (partsV ps 0) 1 w3 w3.drew ((GG.refl _).drew) hR3)
  have d12 := (hH3.cell 12).trans k12
  have dlt := hH3.lt
  have own41 : sP.ownBlock ≠ some xb := fun e => by have : c1 xb = 41 := hR3.2 xb e; omega
  have KX : Hid (∀ w', Below w3.heap.size w3 w' → Has w' xb 120 xs) := fun w' hb => hH3.below hb
  have ARM : Hid True := trivial
  have d10 := (hH3.cell 10).trans k10
  have d9 := (hH3.cell 9).trans k9
  go_region_law (first
      | (rw [if_pos (by rfl)]; refine wp_appr _ _ 115 rfl rfl rfl rA ?_)
      | (go_simp; go_at_call 33; refine HP.out.mono ?_; rintro _ wN ⟨p, c2, g, cap, wA, rfl, bN, rA, RN, zA, cA, hE, hD, up⟩; have xN : Has wN xb 120 xs := KX.out wN (GG.step (GG.drew (GG.refl w3)) bN); have n12 := (xN.cell 12).trans k12; have nl := xN.lt; have xA : Has wA xb 120 xs := (up xb nl own41).trans xN; have a12 := (xA.cell 12).trans k12; have af := xA.free 12))
  all_goals
    have s3N : w3.heap.size ≤ wN.heap.size := bN.size
    have sw2 : w.heap.size ≤ w2.heap.size := b2.size
    obtain ⟨c', hc'⟩ : ∃ c' : Nat → Nat, c' = fun b => if b < w3.heap.size then c3 b else if b < wN.heap.size then c2 b else 41 := ⟨_, rfl⟩
    have ce : ∀ b, c' b = if b < w3.heap.size then c3 b else if b < wN.heap.size then c2 b else 41 := fun b => by rw [hc']
    have c1w : ∀ b, 40 ≤ c1 b → b < w.heap.size := fun b hb => by
      rcases Nat.lt_or_ge b w.heap.size with q | q
      · exact q
      · have := EB.out b q; omega
    have HC : ∀ b, 40 ≤ c1 b → c' b = c1 b := fun b hb => by
      have := c1w b hb
      rw [ce, if_pos (by omega), u1 b (by omega)]
    have xw := c1w xb (by omega)
    have gx : g ≠ xb := fun e => by
      have h1 := xA
      rw [← e] at h1
      exact RN.ne h1 (by decide) rfl
    have hX' : c' xb = 40 := (HC xb (by omega)).trans cx
    have kA : ∀ b, b < w3.heap.size → c1 b ≠ 41 → wA.heap[b]? = w3.heap[b]? := fun b hb e => cA.block b hb e
    have kS : ∀ b, c' b ≠ 40 → (wA.setCell ⟨xb, 12, none⟩ (.slice (some ⟨g, 0, none⟩) (0 + 1) cap)).heap[b]? = wA.heap[b]? := fun b e => Below.heap_setCell _ _ _ _ (fun q => by have q : b = xb := q; rw [q] at e; exact e hX')
    have sF : wA.heap.size ≤ (wA.setCell ⟨xb, 12, none⟩ (.slice (some ⟨g, 0, none⟩) (0 + 1) cap)).heap.size := by simp
    have FIN : Hid ((∀ b, b < w.heap.size → c' b = c b) ∧ (∀ b, w.heap.size ≤ b → 39 ≤ c' b) ∧ DX c' (wA.setCell ⟨xb, 12, none⟩ (.slice (some ⟨g, 0, none⟩) (0 + 1) cap)) xb tb 1 T ∧ Chg (fun b => 39 ≤ c b) w (wA.setCell ⟨xb, 12, none⟩ (.slice (some ⟨g, 0, none⟩) (0 + 1) cap))) := by
      refine ⟨fun b hb => ?_, fun b hb => ?_, ⟨hX', ⟨_, _, fun j => if j = 1 then p else ps j, xA.set 12 _, by rw [← HK.out]; simpa using k9, by simpa using k10, by simpa using k11, Array.getElem?_setIfInBounds_self_of_lt (Array.getElem?_eq_some_iff.1 k12).1, ?_, fun j j1 j2 => ?_⟩, ?_⟩, (C3.then cA (fun b hb (e : c1 b = 41) => by have := EL.out b hb; omega)).set (b := xb) (by have := EL.out xb xw; omega) _ _⟩
      · rw [ce, if_pos (by omega), u1 b (by omega)]; exact EL.out b hb
      · rw [ce]
        by_cases e1 : b < w3.heap.size
        · rw [if_pos e1]
          by_cases e2 : b < w2.heap.size
          · rw [u1 b e2, EB.out b hb]; exact Nat.le_refl _
          · rw [u2 b (by omega)]; omega
        · rw [if_neg e1]
          by_cases e2 : b < wN.heap.size
          · rw [if_pos e2]; have := hE.2 b (Nat.le_of_not_lt e1); omega
          · rw [if_neg e2]; omega
      · have e : partsV (fun j => if j = 1 then p else ps j) 1 = partsV ps 0 ++ [.int .i64 1, .pointer (some ⟨p, 0, none⟩)] := by
          show partsV _ 0 ++ [.int .i64 ((0 + 1 : Nat) : Int), .pointer (some ⟨if 0 + 1 = 1 then p else ps (0 + 1), 0, none⟩)] = _
          rw [partsV_ext 0 (fun j j1 j2 => if_neg (by omega)), if_pos rfl]
          rfl
        rw [e]
        refine (RN.setOther (b := xb) (fun e => gx (by cases e; rfl)) 12 _).mono (fun b hb => ?_)
        rcases hb with hb | hb
        · have hb : c1 b = 41 := hb
          exact (HC b (by omega)).trans hb
        · show c' b = 41
          rw [ce, if_neg (by omega), if_neg (by omega)]
      · by_cases e : j = 1
        · subst e
          rw [hT]
          show DPool c' (50 + 10 * 1) _ (if (1 : Nat) = 1 then p else ps 1) 0
          rw [if_pos rfl]
          have hc2 : ∀ b, 60 ≤ c2 b → w3.heap.size ≤ b := fun b hb => by
            rcases Nat.lt_or_ge b w3.heap.size with q | q
            · have : c2 b = 0 := hE.1 b q
              omega
            · exact q
          have hDr : DPool c' 60 wN p 0 := hD.re (fun b hb e1 e2 => by have := hc2 b e1; rw [ce, if_neg (by omega), if_pos hb])
          refine (hDr.keep zA (fun b hb e1 e2 => up b hb (fun q => ?_))).keep sF (fun b hb e1 e2 => kS b (by omega))
          have q3 := hR3.cut.2 b q
          have q4 : c1 b = 41 := q3.1
          have := HC b (by omega)
          omega
        · have hj := hPs3 j j1 (by omega)
          show DPool c' (50 + 10 * j) _ (if j = 1 then p else ps j) (T j)
          rw [if_neg e]
          refine (((hj.keep cA.size (fun b hb e1 e2 => kA b hb (by omega))).re (fun b hb e1 e2 => HC b (by omega)))).keep sF (fun b hb e1 e2 => kS b (by omega))
      · have ht : DTab c' 42 w3 tb 1 := hTab3.re (fun b hb e1 e2 => by rw [ce, if_pos hb])
        refine (ht.keep (fun b hb e1 e2 => kA b hb (fun e => ?_))).keep (fun b hb e1 e2 => kS b (by omega))
        have := HC b (by omega)
        omega
    have FIN := FIN
    clear KA HP d12 KX ARM rA RN zA cA hE hD up n12 a12 af xA xN hR3 hPs3 hTab3 C3 hH3 ce c1w HC kA kS
    go_wp2_with fail
    go_ret2
    exact ⟨rfl, c', FIN.out⟩
set_option maxRecDepth 100000 in
set_option maxHeartbeats 6400000 in
theorem dserve2_c (c : Nat → Nat) (xb tb : Nat) (T : Nat → Nat) (hT : T 2 = 0) (w : World) (h : DX c w xb tb 1 T) :
    Calls Tryz.prog 16 #[.pointer (some ⟨xb, 0, none⟩), .agg #[.int .i64 17, .int .u32 100, .int .i64 53, .bool false, .int .u32 200]] w fun e w' => e = .returned (.tuple #[.int .i64 2, .int .i64 0]) ∧ ∃ c', (∀ b, b < w.heap.size → c' b = c b) ∧ (∀ b, w.heap.size ≤ b → 39 ≤ c' b) ∧ DX c' w' xb tb 2 T ∧ Chg (fun b => 39 ≤ c b) w w' := by
  have h1 := h.re (c2 := owner c w.heap.size 39) (fun b hb _ => own_lt hb)
  obtain ⟨c1, hc1⟩ : ∃ c1, c1 = owner c w.heap.size 39 := ⟨_, rfl⟩
  rw [← hc1] at h1
  have EL : Hid (∀ b, b < w.heap.size → c1 b = c b) := fun b hb => by rw [hc1]; exact own_lt hb
  have EB : Hid (∀ b, w.heap.size ≤ b → c1 b = 39) := fun b hb => by rw [hc1]; exact own_back hb
  clear h hc1
  have hX := Has.new w #[.int .i64 17, .int .u32 100, .int .i64 53, .bool false, .int .u32 200] 66
  have b1 : GG w (w.alloc (.cells #[.int .i64 17, .int .u32 100, .int .i64 53, .bool false, .int .u32 200] 66)) := (GG.refl _).alloc _
  have h1 := h1.keep (w' := w.alloc (.cells #[.int .i64 17, .int .u32 100, .int .i64 53, .bool false, .int .u32 200] 66)) b1.size (fun b hb _ => Below.block b1 b hb)
  go_enter Tryz.func16, Tryz.ntmps16
  go_wp2_with fail
  obtain ⟨w1, hw⟩ : ∃ W, W = w.alloc (.cells #[.int .i64 17, .int .u32 100, .int .i64 53, .bool false, .int .u32 200] 66) := ⟨_, rfl⟩
  obtain ⟨bx, hbx⟩ : ∃ b, b = w.heap.size := ⟨_, rfl⟩
  have LO := Lib.hid hbx
  rw [← hw] at hX b1 h1 ⊢
  rw [← hbx] at hX ⊢
  clear hw hbx
  obtain ⟨cx, ⟨xs, sP, ps, hH, k9, k10, k11, k12, hR, hPs⟩, hTab⟩ := h1
  have x11 : ∀ V : Gr w1, V.1.cell? ⟨xb, 11, none⟩ = some (.pointer (some ⟨tb, 0, none⟩)) := fun V => ((V.has hH).cell 11).trans k11
  have y0 : ∀ V : Gr w1, V.1.cell? ⟨bx, 0, none⟩ = some (.int .i64 17) := fun V => ((V.has hX).cell 0).trans rfl
  have y1 : ∀ V : Gr w1, V.1.cell? ⟨bx, 1, none⟩ = some (.int .u32 100) := fun V => ((V.has hX).cell 1).trans rfl
  have y2 : ∀ V : Gr w1, V.1.cell? ⟨bx, 2, none⟩ = some (.int .i64 53) := fun V => ((V.has hX).cell 2).trans rfl
  have y3 : ∀ V : Gr w1, V.1.cell? ⟨bx, 3, none⟩ = some (.bool false) := fun V => ((V.has hX).cell 3).trans rfl
  have y4 : ∀ V : Gr w1, V.1.cell? ⟨bx, 4, none⟩ = some (.int .u32 200) := fun V => ((V.has hX).cell 4).trans rfl
  refine wp_region_grows_mid 5 (by kernel_rfl) (by kernel_rfl) ?_
  simp only [List.take_succ_cons, List.take_zero, List.drop_succ_cons, List.drop_zero]
  repeat (go_big_quiet_step (fail))
  refine wpQuiet_nil ?_
  intro V
  have hH2 := V.has hH
  have hR2 := hR.keep (KeepM.below V.2)
  have hPs2 := fun j j1 j2 => (hPs j j1 j2).keep V.2.size (fun b hb _ _ => V.2.block b hb)
  have hTab2 := hTab.keep (fun b hb _ _ => V.2.block b hb)
  have b2 := b1.step V.2
  clear x11 y0 y1 y2 y3 y4 hH hR hPs hTab hX b1
  obtain ⟨w2, hw⟩ : ∃ W, W = V.1 := ⟨_, rfl⟩
  rw [← hw] at hH2 hR2 hPs2 hTab2 b2 ⊢
  clear hw V
  have HA := Lib.hid (dtadd2_c c1 42 tb (by decide) w2 hTab2)
  go_wp2_with fail
  refine HA.out.mono ?_
  clear HA hTab2
  rintro e w3 ⟨rfl, c3, u1, u2, hTab3, hC3⟩
  have s23 := hC3.size
  have hH3 := hH2.chg hC3 (fun e => by omega)
  have hR3 : Row (fun b => c1 b = 41) w3 122 2 sP 1 (partsV ps 1) := hR2.keep (fun b hb (e : c1 b = 41) => hC3.block b hb (fun e2 => by omega))
  have hPs3 : ∀ j, 1 ≤ j → j ≤ 1 → DPool c1 (50 + 10 * j) w3 (ps j) (T j) := fun j j1 j2 => (hPs2 j j1 j2).keep hC3.size (fun b hb e1 e2 => hC3.block b hb (fun e3 => by omega))
  have C3 : Chg (fun b => 39 ≤ c b) w w3 := (Chg.of_below b2).then hC3 (fun b hb (e : 42 ≤ c1 b ∧ c1 b ≤ 42 + 1) => by have := EL.out b hb; omega)
  clear hH2 hR2 hPs2 hC3
  go_wp2_with fail
  repeat (go_big_quiet_step (fail))
  refine wpQuiet_nil ?_
  go_wp2_with fail
  obtain ⟨key, hkey⟩ : ∃ x, x = bs kk := ⟨_, rfl⟩
  have hk16 : key.size = 16 := by rw [hkey]; kernel_rfl
  have HK := Lib.hid hkey
  rw [← hkey] at k9
  clear hkey
  have KA : Hid (∀ W, Has W xb 120 xs → W.cell? ⟨xb, 10, none⟩ = some (.int .i64 5) ∧ W.cell? ⟨xb, 9, none⟩ = some (.string key)) := fun W x => ⟨(x.cell 10).trans k10, (x.cell 9).trans k9⟩
  have HP := Lib.hid (dpnew_app (fun b => c1 b = 41) 70 (by decide) key hk16 1 (by decide) sP (partsV ps 1) 2 w3 w3.drew ((GG.refl _).drew) hR3)
  have d12 := (hH3.cell 12).trans k12
  have dlt := hH3.lt
  have own41 : sP.ownBlock ≠ some xb := fun e => by have : c1 xb = 41 := hR3.2 xb e; omega
  have KX : Hid (∀ w', Below w3.heap.size w3 w' → Has w' xb 120 xs) := fun w' hb => hH3.below hb
  have ARM : Hid True := trivial
  have d10 := (hH3.cell 10).trans k10
  have d9 := (hH3.cell 9).trans k9
  go_region_law (first
      | (rw [if_pos (by rfl)]; refine wp_appr _ _ 115 rfl rfl rfl rA ?_)
      | (go_simp; go_at_call 33; refine HP.out.mono ?_; rintro _ wN ⟨p, c2, g, cap, wA, rfl, bN, rA, RN, zA, cA, hE, hD, up⟩; have xN : Has wN xb 120 xs := KX.out wN (GG.step (GG.drew (GG.refl w3)) bN); have n12 := (xN.cell 12).trans k12; have nl := xN.lt; have xA : Has wA xb 120 xs := (up xb nl own41).trans xN; have a12 := (xA.cell 12).trans k12; have af := xA.free 12))
  all_goals
    have s3N : w3.heap.size ≤ wN.heap.size := bN.size
    have sw2 : w.heap.size ≤ w2.heap.size := b2.size
    obtain ⟨c', hc'⟩ : ∃ c' : Nat → Nat, c' = fun b => if b < w3.heap.size then c3 b else if b < wN.heap.size then c2 b else 41 := ⟨_, rfl⟩
    have ce : ∀ b, c' b = if b < w3.heap.size then c3 b else if b < wN.heap.size then c2 b else 41 := fun b => by rw [hc']
    have c1w : ∀ b, 40 ≤ c1 b → b < w.heap.size := fun b hb => by
      rcases Nat.lt_or_ge b w.heap.size with q | q
      · exact q
      · have := EB.out b q; omega
    have HC : ∀ b, 40 ≤ c1 b → c' b = c1 b := fun b hb => by
      have := c1w b hb
      rw [ce, if_pos (by omega), u1 b (by omega)]
    have xw := c1w xb (by omega)
    have gx : g ≠ xb := fun e => by
      have h1 := xA
      rw [← e] at h1
      exact RN.ne h1 (by decide) rfl
    have hX' : c' xb = 40 := (HC xb (by omega)).trans cx
    have kA : ∀ b, b < w3.heap.size → c1 b ≠ 41 → wA.heap[b]? = w3.heap[b]? := fun b hb e => cA.block b hb e
    have kS : ∀ b, c' b ≠ 40 → (wA.setCell ⟨xb, 12, none⟩ (.slice (some ⟨g, 0, none⟩) (1 + 1) cap)).heap[b]? = wA.heap[b]? := fun b e => Below.heap_setCell _ _ _ _ (fun q => by have q : b = xb := q; rw [q] at e; exact e hX')
    have sF : wA.heap.size ≤ (wA.setCell ⟨xb, 12, none⟩ (.slice (some ⟨g, 0, none⟩) (1 + 1) cap)).heap.size := by simp
    have FIN : Hid ((∀ b, b < w.heap.size → c' b = c b) ∧ (∀ b, w.heap.size ≤ b → 39 ≤ c' b) ∧ DX c' (wA.setCell ⟨xb, 12, none⟩ (.slice (some ⟨g, 0, none⟩) (1 + 1) cap)) xb tb 2 T ∧ Chg (fun b => 39 ≤ c b) w (wA.setCell ⟨xb, 12, none⟩ (.slice (some ⟨g, 0, none⟩) (1 + 1) cap))) := by
      refine ⟨fun b hb => ?_, fun b hb => ?_, ⟨hX', ⟨_, _, fun j => if j = 2 then p else ps j, xA.set 12 _, by rw [← HK.out]; simpa using k9, by simpa using k10, by simpa using k11, Array.getElem?_setIfInBounds_self_of_lt (Array.getElem?_eq_some_iff.1 k12).1, ?_, fun j j1 j2 => ?_⟩, ?_⟩, (C3.then cA (fun b hb (e : c1 b = 41) => by have := EL.out b hb; omega)).set (b := xb) (by have := EL.out xb xw; omega) _ _⟩
      · rw [ce, if_pos (by omega), u1 b (by omega)]; exact EL.out b hb
      · rw [ce]
        by_cases e1 : b < w3.heap.size
        · rw [if_pos e1]
          by_cases e2 : b < w2.heap.size
          · rw [u1 b e2, EB.out b hb]; exact Nat.le_refl _
          · rw [u2 b (by omega)]; omega
        · rw [if_neg e1]
          by_cases e2 : b < wN.heap.size
          · rw [if_pos e2]; have := hE.2 b (Nat.le_of_not_lt e1); omega
          · rw [if_neg e2]; omega
      · have e : partsV (fun j => if j = 2 then p else ps j) 2 = partsV ps 1 ++ [.int .i64 2, .pointer (some ⟨p, 0, none⟩)] := by
          show partsV _ 1 ++ [.int .i64 ((1 + 1 : Nat) : Int), .pointer (some ⟨if 1 + 1 = 2 then p else ps (1 + 1), 0, none⟩)] = _
          rw [partsV_ext 1 (fun j j1 j2 => if_neg (by omega)), if_pos rfl]
          rfl
        rw [e]
        refine (RN.setOther (b := xb) (fun e => gx (by cases e; rfl)) 12 _).mono (fun b hb => ?_)
        rcases hb with hb | hb
        · have hb : c1 b = 41 := hb
          exact (HC b (by omega)).trans hb
        · show c' b = 41
          rw [ce, if_neg (by omega), if_neg (by omega)]
      · by_cases e : j = 2
        · subst e
          rw [hT]
          show DPool c' (50 + 10 * 2) _ (if (2 : Nat) = 2 then p else ps 2) 0
          rw [if_pos rfl]
          have hc2 : ∀ b, 70 ≤ c2 b → w3.heap.size ≤ b := fun b hb => by
            rcases Nat.lt_or_ge b w3.heap.size with q | q
            · have : c2 b = 0 := hE.1 b q
              omega
            · exact q
          have hDr : DPool c' 70 wN p 0 := hD.re (fun b hb e1 e2 => by have := hc2 b e1; rw [ce, if_neg (by omega), if_pos hb])
          refine (hDr.keep zA (fun b hb e1 e2 => up b hb (fun q => ?_))).keep sF (fun b hb e1 e2 => kS b (by omega))
          have q3 := hR3.cut.2 b q
          have q4 : c1 b = 41 := q3.1
          have := HC b (by omega)
          omega
        · have hj := hPs3 j j1 (by omega)
          show DPool c' (50 + 10 * j) _ (if j = 2 then p else ps j) (T j)
          rw [if_neg e]
          refine (((hj.keep cA.size (fun b hb e1 e2 => kA b hb (by omega))).re (fun b hb e1 e2 => HC b (by omega)))).keep sF (fun b hb e1 e2 => kS b (by omega))
      · have ht : DTab c' 42 w3 tb 2 := hTab3.re (fun b hb e1 e2 => by rw [ce, if_pos hb])
        refine (ht.keep (fun b hb e1 e2 => kA b hb (fun e => ?_))).keep (fun b hb e1 e2 => kS b (by omega))
        have := HC b (by omega)
        omega
    have FIN := FIN
    clear KA HP d12 KX ARM rA RN zA cA hE hD up n12 a12 af xA xN hR3 hPs3 hTab3 C3 hH3 ce c1w HC kA kS
    go_wp2_with fail
    go_ret2
    exact ⟨rfl, c', FIN.out⟩
set_option maxRecDepth 100000 in
set_option maxHeartbeats 6400000 in
theorem dserve3_c (c : Nat → Nat) (xb tb : Nat) (T : Nat → Nat) (hT : T 3 = 0) (w : World) (h : DX c w xb tb 2 T) :
    Calls Tryz.prog 16 #[.pointer (some ⟨xb, 0, none⟩), .agg #[.int .i64 6, .int .u32 101, .int .i64 80, .bool true, .int .u32 0]] w fun e w' => e = .returned (.tuple #[.int .i64 3, .int .i64 0]) ∧ ∃ c', (∀ b, b < w.heap.size → c' b = c b) ∧ (∀ b, w.heap.size ≤ b → 39 ≤ c' b) ∧ DX c' w' xb tb 3 T ∧ Chg (fun b => 39 ≤ c b) w w' := by
  have h1 := h.re (c2 := owner c w.heap.size 39) (fun b hb _ => own_lt hb)
  obtain ⟨c1, hc1⟩ : ∃ c1, c1 = owner c w.heap.size 39 := ⟨_, rfl⟩
  rw [← hc1] at h1
  have EL : Hid (∀ b, b < w.heap.size → c1 b = c b) := fun b hb => by rw [hc1]; exact own_lt hb
  have EB : Hid (∀ b, w.heap.size ≤ b → c1 b = 39) := fun b hb => by rw [hc1]; exact own_back hb
  clear h hc1
  have hX := Has.new w #[.int .i64 6, .int .u32 101, .int .i64 80, .bool true, .int .u32 0] 66
  have b1 : GG w (w.alloc (.cells #[.int .i64 6, .int .u32 101, .int .i64 80, .bool true, .int .u32 0] 66)) := (GG.refl _).alloc _
  have h1 := h1.keep (w' := w.alloc (.cells #[.int .i64 6, .int .u32 101, .int .i64 80, .bool true, .int .u32 0] 66)) b1.size (fun b hb _ => Below.block b1 b hb)
  go_enter Tryz.func16, Tryz.ntmps16
  go_wp2_with fail
  obtain ⟨w1, hw⟩ : ∃ W, W = w.alloc (.cells #[.int .i64 6, .int .u32 101, .int .i64 80, .bool true, .int .u32 0] 66) := ⟨_, rfl⟩
  obtain ⟨bx, hbx⟩ : ∃ b, b = w.heap.size := ⟨_, rfl⟩
  have LO := Lib.hid hbx
  rw [← hw] at hX b1 h1 ⊢
  rw [← hbx] at hX ⊢
  clear hw hbx
  obtain ⟨cx, ⟨xs, sP, ps, hH, k9, k10, k11, k12, hR, hPs⟩, hTab⟩ := h1
  have x11 : ∀ V : Gr w1, V.1.cell? ⟨xb, 11, none⟩ = some (.pointer (some ⟨tb, 0, none⟩)) := fun V => ((V.has hH).cell 11).trans k11
  have y0 : ∀ V : Gr w1, V.1.cell? ⟨bx, 0, none⟩ = some (.int .i64 6) := fun V => ((V.has hX).cell 0).trans rfl
  have y1 : ∀ V : Gr w1, V.1.cell? ⟨bx, 1, none⟩ = some (.int .u32 101) := fun V => ((V.has hX).cell 1).trans rfl
  have y2 : ∀ V : Gr w1, V.1.cell? ⟨bx, 2, none⟩ = some (.int .i64 80) := fun V => ((V.has hX).cell 2).trans rfl
  have y3 : ∀ V : Gr w1, V.1.cell? ⟨bx, 3, none⟩ = some (.bool true) := fun V => ((V.has hX).cell 3).trans rfl
  have y4 : ∀ V : Gr w1, V.1.cell? ⟨bx, 4, none⟩ = some (.int .u32 0) := fun V => ((V.has hX).cell 4).trans rfl
  refine wp_region_grows_mid 5 (by kernel_rfl) (by kernel_rfl) ?_
  simp only [List.take_succ_cons, List.take_zero, List.drop_succ_cons, List.drop_zero]
  repeat (go_big_quiet_step (fail))
  refine wpQuiet_nil ?_
  intro V
  have hH2 := V.has hH
  have hR2 := hR.keep (KeepM.below V.2)
  have hPs2 := fun j j1 j2 => (hPs j j1 j2).keep V.2.size (fun b hb _ _ => V.2.block b hb)
  have hTab2 := hTab.keep (fun b hb _ _ => V.2.block b hb)
  have b2 := b1.step V.2
  clear x11 y0 y1 y2 y3 y4 hH hR hPs hTab hX b1
  obtain ⟨w2, hw⟩ : ∃ W, W = V.1 := ⟨_, rfl⟩
  rw [← hw] at hH2 hR2 hPs2 hTab2 b2 ⊢
  clear hw V
  have HA := Lib.hid (dtadd3_c c1 42 tb (by decide) w2 hTab2)
  go_wp2_with fail
  refine HA.out.mono ?_
  clear HA hTab2
  rintro e w3 ⟨rfl, c3, u1, u2, hTab3, hC3⟩
  have s23 := hC3.size
  have hH3 := hH2.chg hC3 (fun e => by omega)
  have hR3 : Row (fun b => c1 b = 41) w3 122 2 sP 2 (partsV ps 2) := hR2.keep (fun b hb (e : c1 b = 41) => hC3.block b hb (fun e2 => by omega))
  have hPs3 : ∀ j, 1 ≤ j → j ≤ 2 → DPool c1 (50 + 10 * j) w3 (ps j) (T j) := fun j j1 j2 => (hPs2 j j1 j2).keep hC3.size (fun b hb e1 e2 => hC3.block b hb (fun e3 => by omega))
  have C3 : Chg (fun b => 39 ≤ c b) w w3 := (Chg.of_below b2).then hC3 (fun b hb (e : 42 ≤ c1 b ∧ c1 b ≤ 42 + 1) => by have := EL.out b hb; omega)
  clear hH2 hR2 hPs2 hC3
  go_wp2_with fail
  repeat (go_big_quiet_step (fail))
  refine wpQuiet_nil ?_
  go_wp2_with fail
  obtain ⟨key, hkey⟩ : ∃ x, x = bs kk := ⟨_, rfl⟩
  have hk16 : key.size = 16 := by rw [hkey]; kernel_rfl
  have HK := Lib.hid hkey
  rw [← hkey] at k9
  clear hkey
  have KA : Hid (∀ W, Has W xb 120 xs → W.cell? ⟨xb, 10, none⟩ = some (.int .i64 5) ∧ W.cell? ⟨xb, 9, none⟩ = some (.string key)) := fun W x => ⟨(x.cell 10).trans k10, (x.cell 9).trans k9⟩
  have HP := Lib.hid (dpnew_app (fun b => c1 b = 41) 80 (by decide) key hk16 2 (by decide) sP (partsV ps 2) 3 w3 w3.drew ((GG.refl _).drew) hR3)
  have d12 := (hH3.cell 12).trans k12
  have dlt := hH3.lt
  have own41 : sP.ownBlock ≠ some xb := fun e => by have : c1 xb = 41 := hR3.2 xb e; omega
  have KX : Hid (∀ w', Below w3.heap.size w3 w' → Has w' xb 120 xs) := fun w' hb => hH3.below hb
  have ARM : Hid True := trivial
  have d10 := (hH3.cell 10).trans k10
  have d9 := (hH3.cell 9).trans k9
  go_region_law (first
      | (rw [if_pos (by rfl)]; refine wp_appr _ _ 115 rfl rfl rfl rA ?_)
      | (go_simp; go_at_call 33; refine HP.out.mono ?_; rintro _ wN ⟨p, c2, g, cap, wA, rfl, bN, rA, RN, zA, cA, hE, hD, up⟩; have xN : Has wN xb 120 xs := KX.out wN (GG.step (GG.drew (GG.refl w3)) bN); have n12 := (xN.cell 12).trans k12; have nl := xN.lt; have xA : Has wA xb 120 xs := (up xb nl own41).trans xN; have a12 := (xA.cell 12).trans k12; have af := xA.free 12))
  all_goals
    have s3N : w3.heap.size ≤ wN.heap.size := bN.size
    have sw2 : w.heap.size ≤ w2.heap.size := b2.size
    obtain ⟨c', hc'⟩ : ∃ c' : Nat → Nat, c' = fun b => if b < w3.heap.size then c3 b else if b < wN.heap.size then c2 b else 41 := ⟨_, rfl⟩
    have ce : ∀ b, c' b = if b < w3.heap.size then c3 b else if b < wN.heap.size then c2 b else 41 := fun b => by rw [hc']
    have c1w : ∀ b, 40 ≤ c1 b → b < w.heap.size := fun b hb => by
      rcases Nat.lt_or_ge b w.heap.size with q | q
      · exact q
      · have := EB.out b q; omega
    have HC : ∀ b, 40 ≤ c1 b → c' b = c1 b := fun b hb => by
      have := c1w b hb
      rw [ce, if_pos (by omega), u1 b (by omega)]
    have xw := c1w xb (by omega)
    have gx : g ≠ xb := fun e => by
      have h1 := xA
      rw [← e] at h1
      exact RN.ne h1 (by decide) rfl
    have hX' : c' xb = 40 := (HC xb (by omega)).trans cx
    have kA : ∀ b, b < w3.heap.size → c1 b ≠ 41 → wA.heap[b]? = w3.heap[b]? := fun b hb e => cA.block b hb e
    have kS : ∀ b, c' b ≠ 40 → (wA.setCell ⟨xb, 12, none⟩ (.slice (some ⟨g, 0, none⟩) (2 + 1) cap)).heap[b]? = wA.heap[b]? := fun b e => Below.heap_setCell _ _ _ _ (fun q => by have q : b = xb := q; rw [q] at e; exact e hX')
    have sF : wA.heap.size ≤ (wA.setCell ⟨xb, 12, none⟩ (.slice (some ⟨g, 0, none⟩) (2 + 1) cap)).heap.size := by simp
    have FIN : Hid ((∀ b, b < w.heap.size → c' b = c b) ∧ (∀ b, w.heap.size ≤ b → 39 ≤ c' b) ∧ DX c' (wA.setCell ⟨xb, 12, none⟩ (.slice (some ⟨g, 0, none⟩) (2 + 1) cap)) xb tb 3 T ∧ Chg (fun b => 39 ≤ c b) w (wA.setCell ⟨xb, 12, none⟩ (.slice (some ⟨g, 0, none⟩) (2 + 1) cap))) := by
      refine ⟨fun b hb => ?_, fun b hb => ?_, ⟨hX', ⟨_, _, fun j => if j = 3 then p else ps j, xA.set 12 _, by rw [← HK.out]; simpa using k9, by simpa using k10, by simpa using k11, Array.getElem?_setIfInBounds_self_of_lt (Array.getElem?_eq_some_iff.1 k12).1, ?_, fun j j1 j2 => ?_⟩, ?_⟩, (C3.then cA (fun b hb (e : c1 b = 41) => by have := EL.out b hb; omega)).set (b := xb) (by have := EL.out xb xw; omega) _ _⟩
      · rw [ce, if_pos (by omega), u1 b (by omega)]; exact EL.out b hb
      · rw [ce]
        by_cases e1 : b < w3.heap.size
        · rw [if_pos e1]
          by_cases e2 : b < w2.heap.size
          · rw [u1 b e2, EB.out b hb]; exact Nat.le_refl _
          · rw [u2 b (by omega)]; omega
        · rw [if_neg e1]
          by_cases e2 : b < wN.heap.size
          · rw [if_pos e2]; have := hE.2 b (Nat.le_of_not_lt e1); omega
          · rw [if_neg e2]; omega
      · have e : partsV (fun j => if j = 3 then p else ps j) 3 = partsV ps 2 ++ [.int .i64 3, .pointer (some ⟨p, 0, none⟩)] := by
          show partsV _ 2 ++ [.int .i64 ((2 + 1 : Nat) : Int), .pointer (some ⟨if 2 + 1 = 3 then p else ps (2 + 1), 0, none⟩)] = _
          rw [partsV_ext 2 (fun j j1 j2 => if_neg (by omega)), if_pos rfl]
          rfl
        rw [e]
        refine (RN.setOther (b := xb) (fun e => gx (by cases e; rfl)) 12 _).mono (fun b hb => ?_)
        rcases hb with hb | hb
        · have hb : c1 b = 41 := hb
          exact (HC b (by omega)).trans hb
        · show c' b = 41
          rw [ce, if_neg (by omega), if_neg (by omega)]
      · by_cases e : j = 3
        · subst e
          rw [hT]
          show DPool c' (50 + 10 * 3) _ (if (3 : Nat) = 3 then p else ps 3) 0
          rw [if_pos rfl]
          have hc2 : ∀ b, 80 ≤ c2 b → w3.heap.size ≤ b := fun b hb => by
            rcases Nat.lt_or_ge b w3.heap.size with q | q
            · have : c2 b = 0 := hE.1 b q
              omega
            · exact q
          have hDr : DPool c' 80 wN p 0 := hD.re (fun b hb e1 e2 => by have := hc2 b e1; rw [ce, if_neg (by omega), if_pos hb])
          refine (hDr.keep zA (fun b hb e1 e2 => up b hb (fun q => ?_))).keep sF (fun b hb e1 e2 => kS b (by omega))
          have q3 := hR3.cut.2 b q
          have q4 : c1 b = 41 := q3.1
          have := HC b (by omega)
          omega
        · have hj := hPs3 j j1 (by omega)
          show DPool c' (50 + 10 * j) _ (if j = 3 then p else ps j) (T j)
          rw [if_neg e]
          refine (((hj.keep cA.size (fun b hb e1 e2 => kA b hb (by omega))).re (fun b hb e1 e2 => HC b (by omega)))).keep sF (fun b hb e1 e2 => kS b (by omega))
      · have ht : DTab c' 42 w3 tb 3 := hTab3.re (fun b hb e1 e2 => by rw [ce, if_pos hb])
        refine (ht.keep (fun b hb e1 e2 => kA b hb (fun e => ?_))).keep (fun b hb e1 e2 => kS b (by omega))
        have := HC b (by omega)
        omega
    have FIN := FIN
    clear KA HP d12 KX ARM rA RN zA cA hE hD up n12 a12 af xA xN hR3 hPs3 hTab3 C3 hH3 ce c1w HC kA kS
    go_wp2_with fail
    go_ret2
    exact ⟨rfl, c', FIN.out⟩
set_option maxRecDepth 100000 in
set_option maxHeartbeats 6400000 in
theorem dserve4_c (c : Nat → Nat) (xb tb : Nat) (T : Nat → Nat) (hT : T 4 = 0) (w : World) (h : DX c w xb tb 3 T) :
    Calls Tryz.prog 16 #[.pointer (some ⟨xb, 0, none⟩), .agg #[.int .i64 17, .int .u32 102, .int .i64 9, .bool false, .int .u32 201]] w fun e w' => e = .returned (.tuple #[.int .i64 4, .int .i64 0]) ∧ ∃ c', (∀ b, b < w.heap.size → c' b = c b) ∧ (∀ b, w.heap.size ≤ b → 39 ≤ c' b) ∧ DX c' w' xb tb 4 T ∧ Chg (fun b => 39 ≤ c b) w w' := by
  have h1 := h.re (c2 := owner c w.heap.size 39) (fun b hb _ => own_lt hb)
  obtain ⟨c1, hc1⟩ : ∃ c1, c1 = owner c w.heap.size 39 := ⟨_, rfl⟩
  rw [← hc1] at h1
  have EL : Hid (∀ b, b < w.heap.size → c1 b = c b) := fun b hb => by rw [hc1]; exact own_lt hb
  have EB : Hid (∀ b, w.heap.size ≤ b → c1 b = 39) := fun b hb => by rw [hc1]; exact own_back hb
  clear h hc1
  have hX := Has.new w #[.int .i64 17, .int .u32 102, .int .i64 9, .bool false, .int .u32 201] 66
  have b1 : GG w (w.alloc (.cells #[.int .i64 17, .int .u32 102, .int .i64 9, .bool false, .int .u32 201] 66)) := (GG.refl _).alloc _
  have h1 := h1.keep (w' := w.alloc (.cells #[.int .i64 17, .int .u32 102, .int .i64 9, .bool false, .int .u32 201] 66)) b1.size (fun b hb _ => Below.block b1 b hb)
  go_enter Tryz.func16, Tryz.ntmps16
  go_wp2_with fail
  obtain ⟨w1, hw⟩ : ∃ W, W = w.alloc (.cells #[.int .i64 17, .int .u32 102, .int .i64 9, .bool false, .int .u32 201] 66) := ⟨_, rfl⟩
  obtain ⟨bx, hbx⟩ : ∃ b, b = w.heap.size := ⟨_, rfl⟩
  have LO := Lib.hid hbx
  rw [← hw] at hX b1 h1 ⊢
  rw [← hbx] at hX ⊢
  clear hw hbx
  obtain ⟨cx, ⟨xs, sP, ps, hH, k9, k10, k11, k12, hR, hPs⟩, hTab⟩ := h1
  have x11 : ∀ V : Gr w1, V.1.cell? ⟨xb, 11, none⟩ = some (.pointer (some ⟨tb, 0, none⟩)) := fun V => ((V.has hH).cell 11).trans k11
  have y0 : ∀ V : Gr w1, V.1.cell? ⟨bx, 0, none⟩ = some (.int .i64 17) := fun V => ((V.has hX).cell 0).trans rfl
  have y1 : ∀ V : Gr w1, V.1.cell? ⟨bx, 1, none⟩ = some (.int .u32 102) := fun V => ((V.has hX).cell 1).trans rfl
  have y2 : ∀ V : Gr w1, V.1.cell? ⟨bx, 2, none⟩ = some (.int .i64 9) := fun V => ((V.has hX).cell 2).trans rfl
  have y3 : ∀ V : Gr w1, V.1.cell? ⟨bx, 3, none⟩ = some (.bool false) := fun V => ((V.has hX).cell 3).trans rfl
  have y4 : ∀ V : Gr w1, V.1.cell? ⟨bx, 4, none⟩ = some (.int .u32 201) := fun V => ((V.has hX).cell 4).trans rfl
  refine wp_region_grows_mid 5 (by kernel_rfl) (by kernel_rfl) ?_
  simp only [List.take_succ_cons, List.take_zero, List.drop_succ_cons, List.drop_zero]
  repeat (go_big_quiet_step (fail))
  refine wpQuiet_nil ?_
  intro V
  have hH2 := V.has hH
  have hR2 := hR.keep (KeepM.below V.2)
  have hPs2 := fun j j1 j2 => (hPs j j1 j2).keep V.2.size (fun b hb _ _ => V.2.block b hb)
  have hTab2 := hTab.keep (fun b hb _ _ => V.2.block b hb)
  have b2 := b1.step V.2
  clear x11 y0 y1 y2 y3 y4 hH hR hPs hTab hX b1
  obtain ⟨w2, hw⟩ : ∃ W, W = V.1 := ⟨_, rfl⟩
  rw [← hw] at hH2 hR2 hPs2 hTab2 b2 ⊢
  clear hw V
  have HA := Lib.hid (dtadd4_c c1 42 tb (by decide) w2 hTab2)
  go_wp2_with fail
  refine HA.out.mono ?_
  clear HA hTab2
  rintro e w3 ⟨rfl, c3, u1, u2, hTab3, hC3⟩
  have s23 := hC3.size
  have hH3 := hH2.chg hC3 (fun e => by omega)
  have hR3 : Row (fun b => c1 b = 41) w3 122 2 sP 3 (partsV ps 3) := hR2.keep (fun b hb (e : c1 b = 41) => hC3.block b hb (fun e2 => by omega))
  have hPs3 : ∀ j, 1 ≤ j → j ≤ 3 → DPool c1 (50 + 10 * j) w3 (ps j) (T j) := fun j j1 j2 => (hPs2 j j1 j2).keep hC3.size (fun b hb e1 e2 => hC3.block b hb (fun e3 => by omega))
  have C3 : Chg (fun b => 39 ≤ c b) w w3 := (Chg.of_below b2).then hC3 (fun b hb (e : 42 ≤ c1 b ∧ c1 b ≤ 42 + 1) => by have := EL.out b hb; omega)
  clear hH2 hR2 hPs2 hC3
  go_wp2_with fail
  repeat (go_big_quiet_step (fail))
  refine wpQuiet_nil ?_
  go_wp2_with fail
  obtain ⟨key, hkey⟩ : ∃ x, x = bs kk := ⟨_, rfl⟩
  have hk16 : key.size = 16 := by rw [hkey]; kernel_rfl
  have HK := Lib.hid hkey
  rw [← hkey] at k9
  clear hkey
  have KA : Hid (∀ W, Has W xb 120 xs → W.cell? ⟨xb, 10, none⟩ = some (.int .i64 5) ∧ W.cell? ⟨xb, 9, none⟩ = some (.string key)) := fun W x => ⟨(x.cell 10).trans k10, (x.cell 9).trans k9⟩
  have HP := Lib.hid (dpnew_app (fun b => c1 b = 41) 90 (by decide) key hk16 3 (by decide) sP (partsV ps 3) 4 w3 w3.drew ((GG.refl _).drew) hR3)
  have d12 := (hH3.cell 12).trans k12
  have dlt := hH3.lt
  have own41 : sP.ownBlock ≠ some xb := fun e => by have : c1 xb = 41 := hR3.2 xb e; omega
  have KX : Hid (∀ w', Below w3.heap.size w3 w' → Has w' xb 120 xs) := fun w' hb => hH3.below hb
  have ARM : Hid True := trivial
  have d10 := (hH3.cell 10).trans k10
  have d9 := (hH3.cell 9).trans k9
  go_region_law (first
      | (rw [if_pos (by rfl)]; refine wp_appr _ _ 115 rfl rfl rfl rA ?_)
      | (go_simp; go_at_call 33; refine HP.out.mono ?_; rintro _ wN ⟨p, c2, g, cap, wA, rfl, bN, rA, RN, zA, cA, hE, hD, up⟩; have xN : Has wN xb 120 xs := KX.out wN (GG.step (GG.drew (GG.refl w3)) bN); have n12 := (xN.cell 12).trans k12; have nl := xN.lt; have xA : Has wA xb 120 xs := (up xb nl own41).trans xN; have a12 := (xA.cell 12).trans k12; have af := xA.free 12))
  all_goals
    have s3N : w3.heap.size ≤ wN.heap.size := bN.size
    have sw2 : w.heap.size ≤ w2.heap.size := b2.size
    obtain ⟨c', hc'⟩ : ∃ c' : Nat → Nat, c' = fun b => if b < w3.heap.size then c3 b else if b < wN.heap.size then c2 b else 41 := ⟨_, rfl⟩
    have ce : ∀ b, c' b = if b < w3.heap.size then c3 b else if b < wN.heap.size then c2 b else 41 := fun b => by rw [hc']
    have c1w : ∀ b, 40 ≤ c1 b → b < w.heap.size := fun b hb => by
      rcases Nat.lt_or_ge b w.heap.size with q | q
      · exact q
      · have := EB.out b q; omega
    have HC : ∀ b, 40 ≤ c1 b → c' b = c1 b := fun b hb => by
      have := c1w b hb
      rw [ce, if_pos (by omega), u1 b (by omega)]
    have xw := c1w xb (by omega)
    have gx : g ≠ xb := fun e => by
      have h1 := xA
      rw [← e] at h1
      exact RN.ne h1 (by decide) rfl
    have hX' : c' xb = 40 := (HC xb (by omega)).trans cx
    have kA : ∀ b, b < w3.heap.size → c1 b ≠ 41 → wA.heap[b]? = w3.heap[b]? := fun b hb e => cA.block b hb e
    have kS : ∀ b, c' b ≠ 40 → (wA.setCell ⟨xb, 12, none⟩ (.slice (some ⟨g, 0, none⟩) (3 + 1) cap)).heap[b]? = wA.heap[b]? := fun b e => Below.heap_setCell _ _ _ _ (fun q => by have q : b = xb := q; rw [q] at e; exact e hX')
    have sF : wA.heap.size ≤ (wA.setCell ⟨xb, 12, none⟩ (.slice (some ⟨g, 0, none⟩) (3 + 1) cap)).heap.size := by simp
    have FIN : Hid ((∀ b, b < w.heap.size → c' b = c b) ∧ (∀ b, w.heap.size ≤ b → 39 ≤ c' b) ∧ DX c' (wA.setCell ⟨xb, 12, none⟩ (.slice (some ⟨g, 0, none⟩) (3 + 1) cap)) xb tb 4 T ∧ Chg (fun b => 39 ≤ c b) w (wA.setCell ⟨xb, 12, none⟩ (.slice (some ⟨g, 0, none⟩) (3 + 1) cap))) := by
      refine ⟨fun b hb => ?_, fun b hb => ?_, ⟨hX', ⟨_, _, fun j => if j = 4 then p else ps j, xA.set 12 _, by rw [← HK.out]; simpa using k9, by simpa using k10, by simpa using k11, Array.getElem?_setIfInBounds_self_of_lt (Array.getElem?_eq_some_iff.1 k12).1, ?_, fun j j1 j2 => ?_⟩, ?_⟩, (C3.then cA (fun b hb (e : c1 b = 41) => by have := EL.out b hb; omega)).set (b := xb) (by have := EL.out xb xw; omega) _ _⟩
      · rw [ce, if_pos (by omega), u1 b (by omega)]; exact EL.out b hb
      · rw [ce]
        by_cases e1 : b < w3.heap.size
        · rw [if_pos e1]
          by_cases e2 : b < w2.heap.size
          · rw [u1 b e2, EB.out b hb]; exact Nat.le_refl _
          · rw [u2 b (by omega)]; omega
        · rw [if_neg e1]
          by_cases e2 : b < wN.heap.size
          · rw [if_pos e2]; have := hE.2 b (Nat.le_of_not_lt e1); omega
          · rw [if_neg e2]; omega
      · have e : partsV (fun j => if j = 4 then p else ps j) 4 = partsV ps 3 ++ [.int .i64 4, .pointer (some ⟨p, 0, none⟩)] := by
          show partsV _ 3 ++ [.int .i64 ((3 + 1 : Nat) : Int), .pointer (some ⟨if 3 + 1 = 4 then p else ps (3 + 1), 0, none⟩)] = _
          rw [partsV_ext 3 (fun j j1 j2 => if_neg (by omega)), if_pos rfl]
          rfl
        rw [e]
        refine (RN.setOther (b := xb) (fun e => gx (by cases e; rfl)) 12 _).mono (fun b hb => ?_)
        rcases hb with hb | hb
        · have hb : c1 b = 41 := hb
          exact (HC b (by omega)).trans hb
        · show c' b = 41
          rw [ce, if_neg (by omega), if_neg (by omega)]
      · by_cases e : j = 4
        · subst e
          rw [hT]
          show DPool c' (50 + 10 * 4) _ (if (4 : Nat) = 4 then p else ps 4) 0
          rw [if_pos rfl]
          have hc2 : ∀ b, 90 ≤ c2 b → w3.heap.size ≤ b := fun b hb => by
            rcases Nat.lt_or_ge b w3.heap.size with q | q
            · have : c2 b = 0 := hE.1 b q
              omega
            · exact q
          have hDr : DPool c' 90 wN p 0 := hD.re (fun b hb e1 e2 => by have := hc2 b e1; rw [ce, if_neg (by omega), if_pos hb])
          refine (hDr.keep zA (fun b hb e1 e2 => up b hb (fun q => ?_))).keep sF (fun b hb e1 e2 => kS b (by omega))
          have q3 := hR3.cut.2 b q
          have q4 : c1 b = 41 := q3.1
          have := HC b (by omega)
          omega
        · have hj := hPs3 j j1 (by omega)
          show DPool c' (50 + 10 * j) _ (if j = 4 then p else ps j) (T j)
          rw [if_neg e]
          refine (((hj.keep cA.size (fun b hb e1 e2 => kA b hb (by omega))).re (fun b hb e1 e2 => HC b (by omega)))).keep sF (fun b hb e1 e2 => kS b (by omega))
      · have ht : DTab c' 42 w3 tb 4 := hTab3.re (fun b hb e1 e2 => by rw [ce, if_pos hb])
        refine (ht.keep (fun b hb e1 e2 => kA b hb (fun e => ?_))).keep (fun b hb e1 e2 => kS b (by omega))
        have := HC b (by omega)
        omega
    have FIN := FIN
    clear KA HP d12 KX ARM rA RN zA cA hE hD up n12 a12 af xA xN hR3 hPs3 hTab3 C3 hH3 ce c1w HC kA kS
    go_wp2_with fail
    go_ret2
    exact ⟨rfl, c', FIN.out⟩
end Go.Proofs.YtngdebpaheejlaaGreatDoor
