/- The document's balancer (chapter 23): Pool, Add. -/
import Derived.Test.YtngdebpaheejlaaGreatDoorZt
namespace Go.Proofs.YtngdebpaheejlaaGreatDoor
open Go.RowKit Go.Shelf
set_option linter.unusedSimpArgs false
set_option linter.unusedVariables false
theorem partsV_len (ps : Nat → Nat) : ∀ n, (partsV ps n).length = n * 2
  | 0 => rfl
  | n + 1 => by simp [partsV, partsV_len ps n]; omega
theorem partsV_at (ps : Nat → Nat) : ∀ n j, j < n → (partsV ps n)[j * 2]? = some (.int .i64 ((j + 1 : Nat) : Int)) ∧ (partsV ps n)[j * 2 + 1]? = some (.pointer (some ⟨ps (j + 1), 0, none⟩))
  | 0, j, h => by omega
  | n + 1, j, h => by
    unfold partsV
    by_cases e : j < n
    · have := partsV_at ps n j e
      rw [List.getElem?_append_left (by rw [partsV_len]; omega), List.getElem?_append_left (by rw [partsV_len]; omega)]
      exact this
    · obtain rfl : j = n := by omega
      rw [List.getElem?_append_right (by rw [partsV_len]; omega), List.getElem?_append_right (by rw [partsV_len]; omega), partsV_len]
      rw [show j * 2 - j * 2 = 0 by omega, show j * 2 + 1 - j * 2 = 1 by omega]
      exact ⟨rfl, rfl⟩
set_option maxRecDepth 100000 in
set_option maxHeartbeats 3200000 in
theorem dpool_c (S : Nat → Prop) (xb g cap n id : Nat) (ps : Nat → Nat) (h1 : 1 ≤ id) (h2 : id ≤ n) (hn : n < 100) (w : World) (c12 : w.cell? ⟨xb, 12, none⟩ = some (.slice (some ⟨g, 0, none⟩) n cap)) (hR : Row S w 122 2 (.slice (some ⟨g, 0, none⟩) n cap) n (partsV ps n)) :
    Calls Tryz.prog 38 #[.pointer (some ⟨xb, 0, none⟩), .int .i64 (id : Int)] w fun e w' => e = .returned (.pointer (some ⟨ps id, 0, none⟩)) ∧ w' = w := by
  have HR := Lib.hid hR
  clear hR
  go_enter Tryz.func38, Tryz.ntmps38
  go_wp2_with fail
  go_loopw [5] (fun i wr => ∃ j : Nat, j < id ∧ i = .int .i64 (j : Int) ∧ wr = w) (fun i _ => id - (intOf i).toNat)
  case atStart => exact ⟨0, by omega, rfl, rfl⟩
  case round =>
    obtain ⟨j, hj, rfl, rfl⟩ := hrel
    obtain ⟨e1, e2⟩ := partsV_at ps n j (by omega)
    have d1 : wr.cell? ⟨g, j * 2, none⟩ = some (.int .i64 ((j : Int) + 1)) := (HR.out.cellAt (by omega)).trans (by rw [e1]; rfl)
    have d2 := (HR.out.cellAt (i := j * 2 + 1) (by omega)).trans e2
    have hi : (j : Int) < (n : Int) := by omega
    clear e1 e2
    by_cases e : j + 1 = id
    · have hq : ((j : Int) + 1 == (id : Int)) = true := by simp; omega
      subst e
      go_wp2_with fail
      go_ret
      exact ⟨rfl, rfl⟩
    · have hq : ((j : Int) + 1 == (id : Int)) = false := by simp; omega
      go_wp2_with fail
      go_roundw
      case rel => exact ⟨j + 1, by omega, by first | rfl | simp, by first | rfl | trivial⟩
      case measure => simp [intOf]; omega
set_option maxRecDepth 100000 in
set_option maxHeartbeats 3200000 in
theorem dadd1_c (c : Nat → Nat) (xb tb n id : Nat) (T : Nat → Nat) (h1 : 1 ≤ id) (h2 : id ≤ n) (hn : n < 10) (hT : T id = 0) (w : World) (h : DX c w xb tb n T) :
    Calls Tryz.prog 18 #[.pointer (some ⟨xb, 0, none⟩), .int .i64 (id : Int), .agg #[.int .i64 1, .int .u32 51, .int .i64 8080]] w fun e w' => e = .returned (.int .i64 0) ∧ ∃ c', (∀ b, b < w.heap.size → c' b = c b) ∧ (∀ b, w.heap.size ≤ b → 39 ≤ c' b) ∧ DX c' w' xb tb n (setT T id 1) ∧ Chg (fun b => 39 ≤ c b) w w' := by
  have h1' := h.re (c2 := owner c w.heap.size 39) (fun b hb _ => own_lt hb)
  obtain ⟨c1, hc1⟩ : ∃ c1, c1 = owner c w.heap.size 39 := ⟨_, rfl⟩
  rw [← hc1] at h1'
  have EL : Hid (∀ b, b < w.heap.size → c1 b = c b) := fun b hb => by rw [hc1]; exact own_lt hb
  have EB : Hid (∀ b, w.heap.size ≤ b → c1 b = 39) := fun b hb => by rw [hc1]; exact own_back hb
  clear h hc1
  have hX := Has.new w #[.int .i64 1, .int .u32 51, .int .i64 8080] 68
  have b1 : GG w (w.alloc (.cells #[.int .i64 1, .int .u32 51, .int .i64 8080] 68)) := (GG.refl _).alloc _
  have h1' := h1'.keep (w' := w.alloc (.cells #[.int .i64 1, .int .u32 51, .int .i64 8080] 68)) b1.size (fun b hb _ => Below.block b1 b hb)
  go_enter Tryz.func18, Tryz.ntmps18
  go_wp2_with fail
  obtain ⟨w1, hw⟩ : ∃ W, W = w.alloc (.cells #[.int .i64 1, .int .u32 51, .int .i64 8080] 68) := ⟨_, rfl⟩
  obtain ⟨bx, hbx⟩ : ∃ b, b = w.heap.size := ⟨_, rfl⟩
  rw [← hw] at hX b1 h1' ⊢
  rw [← hbx] at hX ⊢
  clear hw hbx
  obtain ⟨cx, ⟨xs, sP, ps, hH, k9, k10, k11, k12, hR, hPs⟩, hTab⟩ := h1'
  obtain ⟨g, cap, rfl⟩ := hR.form (by omega)
  refine (dpool_c _ xb g cap n id ps h1 h2 (by omega) w1 ((hH.cell 12).trans k12) hR).mono ?_
  rintro e w2 ⟨rfl, rfl⟩
  have hP := hPs id h1 h2
  rw [hT] at hP
  have HA := Lib.hid (dpadd1_c c1 (50 + 10 * id) (ps id) (by omega) w2 hP)
  have s1 := b1.size
  have x0 := (hX.cell 0).trans rfl
  have x1 := (hX.cell 1).trans rfl
  have x2 := (hX.cell 2).trans rfl
  go_wp2_with fail
  refine HA.out.mono ?_
  clear HA
  rintro e w3 ⟨rfl, c3, u1, u2, hD3, hC3⟩
  have s3 := hC3.size
  have c1w : ∀ b, 40 ≤ c1 b → b < w.heap.size := fun b hb => by
    rcases Nat.lt_or_ge b w.heap.size with q | q
    · exact q
    · have := EB.out b q; omega
  have FIN : Hid (∃ c', (∀ b, b < w.heap.size → c' b = c b) ∧ (∀ b, w.heap.size ≤ b → 39 ≤ c' b) ∧ DX c' w3 xb tb n (setT T id 1) ∧ Chg (fun b => 39 ≤ c b) w w3) := by
    obtain ⟨c', hc'⟩ : ∃ c' : Nat → Nat, c' = fun b => if b < w2.heap.size then c1 b else c3 b := ⟨_, rfl⟩
    have ce : ∀ b, c' b = if b < w2.heap.size then c1 b else c3 b := fun b => by rw [hc']
    have HC : ∀ b, b < w2.heap.size → c' b = c1 b := fun b hb => by rw [ce, if_pos hb]
    have kb : ∀ b, w2.heap.size ≤ b → 50 + 10 * id ≤ c' b ∧ c' b ≤ 50 + 10 * id + 8 := fun b hb => by rw [ce, if_neg (by omega)]; exact u2 b hb
    have hDr : DPool c' (50 + 10 * id) w3 (ps id) 1 := hD3.re (fun b hb e1 e2 => by
      by_cases e : b < w2.heap.size
      · rw [HC b e, u1 b e]
      · rw [ce, if_neg e])
    have k3 : ∀ b, b < w2.heap.size → ¬ (50 + 10 * id ≤ c1 b ∧ c1 b ≤ 50 + 10 * id + 8) → w3.heap[b]? = w2.heap[b]? := fun b hb e => hC3.block b hb e
    refine ⟨c', fun b hb => (HC b (by omega)).trans (EL.out b hb), fun b hb => ?_, ⟨(HC xb hH.lt).trans cx, ⟨xs, _, ps, (k3 xb hH.lt (by omega)).trans hH, k9, k10, k11, k12, (hR.cut.keep (fun b hb (e : c1 b = 41 ∧ b < w2.heap.size) => k3 b hb (by omega))).mono (fun b (e : c1 b = 41 ∧ b < w2.heap.size) => (HC b e.2).trans e.1), fun j j1 j2 => ?_⟩, (hTab.re (fun b hb e1 e2 => HC b hb)).keep (fun b hb e1 e2 => k3 b hb (by have := HC b hb; omega))⟩, (Chg.of_below b1).then hC3 (fun b hb e => by have := EL.out b hb; omega)⟩
    · by_cases e : b < w2.heap.size
      · rw [HC b e, EB.out b hb]; exact Nat.le_refl _
      · have := kb b (by omega); omega
    · unfold setT
      by_cases e : j = id
      · subst e
        rw [if_pos rfl]
        exact hDr
      · rw [if_neg e]
        exact ((hPs j j1 j2).re (fun b hb e1 e2 => HC b hb)).keep s3 (fun b hb e1 e2 => k3 b hb (by have := HC b hb; omega))
  clear x0 x1 x2 hX b1 hH hR hPs hTab hP hC3 c1w
  go_wp2_with fail
  go_ret
  exact ⟨rfl, FIN.out⟩
set_option maxRecDepth 100000 in
set_option maxHeartbeats 3200000 in
theorem dadd2_c (c : Nat → Nat) (xb tb n id : Nat) (T : Nat → Nat) (h1 : 1 ≤ id) (h2 : id ≤ n) (hn : n < 10) (hT : T id = 1) (w : World) (h : DX c w xb tb n T) :
    Calls Tryz.prog 18 #[.pointer (some ⟨xb, 0, none⟩), .int .i64 (id : Int), .agg #[.int .i64 2, .int .u32 52, .int .i64 8080]] w fun e w' => e = .returned (.int .i64 0) ∧ ∃ c', (∀ b, b < w.heap.size → c' b = c b) ∧ (∀ b, w.heap.size ≤ b → 39 ≤ c' b) ∧ DX c' w' xb tb n (setT T id 2) ∧ Chg (fun b => 39 ≤ c b) w w' := by
  have h1' := h.re (c2 := owner c w.heap.size 39) (fun b hb _ => own_lt hb)
  obtain ⟨c1, hc1⟩ : ∃ c1, c1 = owner c w.heap.size 39 := ⟨_, rfl⟩
  rw [← hc1] at h1'
  have EL : Hid (∀ b, b < w.heap.size → c1 b = c b) := fun b hb => by rw [hc1]; exact own_lt hb
  have EB : Hid (∀ b, w.heap.size ≤ b → c1 b = 39) := fun b hb => by rw [hc1]; exact own_back hb
  clear h hc1
  have hX := Has.new w #[.int .i64 2, .int .u32 52, .int .i64 8080] 68
  have b1 : GG w (w.alloc (.cells #[.int .i64 2, .int .u32 52, .int .i64 8080] 68)) := (GG.refl _).alloc _
  have h1' := h1'.keep (w' := w.alloc (.cells #[.int .i64 2, .int .u32 52, .int .i64 8080] 68)) b1.size (fun b hb _ => Below.block b1 b hb)
  go_enter Tryz.func18, Tryz.ntmps18
  go_wp2_with fail
  obtain ⟨w1, hw⟩ : ∃ W, W = w.alloc (.cells #[.int .i64 2, .int .u32 52, .int .i64 8080] 68) := ⟨_, rfl⟩
  obtain ⟨bx, hbx⟩ : ∃ b, b = w.heap.size := ⟨_, rfl⟩
  rw [← hw] at hX b1 h1' ⊢
  rw [← hbx] at hX ⊢
  clear hw hbx
  obtain ⟨cx, ⟨xs, sP, ps, hH, k9, k10, k11, k12, hR, hPs⟩, hTab⟩ := h1'
  obtain ⟨g, cap, rfl⟩ := hR.form (by omega)
  refine (dpool_c _ xb g cap n id ps h1 h2 (by omega) w1 ((hH.cell 12).trans k12) hR).mono ?_
  rintro e w2 ⟨rfl, rfl⟩
  have hP := hPs id h1 h2
  rw [hT] at hP
  have HA := Lib.hid (dpadd2_c c1 (50 + 10 * id) (ps id) (by omega) w2 hP)
  have s1 := b1.size
  have x0 := (hX.cell 0).trans rfl
  have x1 := (hX.cell 1).trans rfl
  have x2 := (hX.cell 2).trans rfl
  go_wp2_with fail
  refine HA.out.mono ?_
  clear HA
  rintro e w3 ⟨rfl, hC3⟩
  have s3 := hC3.size
  have c1w : ∀ b, 40 ≤ c1 b → b < w.heap.size := fun b hb => by
    rcases Nat.lt_or_ge b w.heap.size with q | q
    · exact q
    · have := EB.out b q; omega
  have FIN : Hid (∃ c', (∀ b, b < w.heap.size → c' b = c b) ∧ (∀ b, w.heap.size ≤ b → 39 ≤ c' b) ∧ DX c' w3 xb tb n (setT T id 2) ∧ Chg (fun b => 39 ≤ c b) w w3) := by
    obtain ⟨c', hc'⟩ : ∃ c' : Nat → Nat, c' = c1 := ⟨_, rfl⟩
    have HC : ∀ b, b < w2.heap.size → c' b = c1 b := fun b hb => by rw [hc']
    have hDr : DPool c' (50 + 10 * id) w3 (ps id) 2 := ⟨by rw [hc']; exact hP.1, Nat.lt_of_lt_of_le hP.2.1 s3, fun e => by omega⟩
    have k3 : ∀ b, b < w2.heap.size → ¬ (50 + 10 * id ≤ c1 b ∧ c1 b ≤ 50 + 10 * id + 8) → w3.heap[b]? = w2.heap[b]? := fun b hb e => hC3.block b hb e
    refine ⟨c', fun b hb => (HC b (by omega)).trans (EL.out b hb), fun b hb => ?_, ⟨(HC xb hH.lt).trans cx, ⟨xs, _, ps, (k3 xb hH.lt (by omega)).trans hH, k9, k10, k11, k12, (hR.cut.keep (fun b hb (e : c1 b = 41 ∧ b < w2.heap.size) => k3 b hb (by omega))).mono (fun b (e : c1 b = 41 ∧ b < w2.heap.size) => (HC b e.2).trans e.1), fun j j1 j2 => ?_⟩, (hTab.re (fun b hb e1 e2 => HC b hb)).keep (fun b hb e1 e2 => k3 b hb (by have := HC b hb; omega))⟩, (Chg.of_below b1).then hC3 (fun b hb e => by have := EL.out b hb; omega)⟩
    · rw [hc', EB.out b hb]; exact Nat.le_refl _
    · unfold setT
      by_cases e : j = id
      · subst e
        rw [if_pos rfl]
        exact hDr
      · rw [if_neg e]
        exact ((hPs j j1 j2).re (fun b hb e1 e2 => HC b hb)).keep s3 (fun b hb e1 e2 => k3 b hb (by have := HC b hb; omega))
  clear x0 x1 x2 hX b1 hH hR hPs hTab hP hC3 c1w
  go_wp2_with fail
  go_ret
  exact ⟨rfl, FIN.out⟩
end Go.Proofs.YtngdebpaheejlaaGreatDoor
