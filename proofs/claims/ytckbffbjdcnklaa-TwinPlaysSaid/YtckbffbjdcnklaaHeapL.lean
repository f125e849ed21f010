/- Numbers in a heap: the plain law. -/
import Derived.Test.YtckbffbjdcnklaaTwHeap
namespace Go.Proofs.Ytckbffbjdcnklaa
open Go.RowKit
set_option linter.unusedSimpArgs false
set_option linter.unusedVariables false

/-- One place turned. -/
def upd (H : Nat → Nat) (i v : Nat) : Nat → Nat := fun k => if k = i then v else H k
/-- Two places exchanged. -/
def swp (H : Nat → Nat) (i k : Nat) : Nat → Nat := upd (upd H i (H k)) k (H i)
def HOrd (n : Nat) (H : Nat → Nat) : Prop := ∀ k, 0 < k → k < n → H ((k - 1) / 2) ≤ H k
def HInj (n : Nat) (H : Nat → Nat) : Prop := ∀ i j, i < n → j < n → H i = H j → i = j
/-- In order but for the edge that leads up from i. -/
structure Up (n i : Nat) (H : Nat → Nat) : Prop where
  o : ∀ k, 0 < k → k < n → k ≠ i → H ((k - 1) / 2) ≤ H k
  g : ∀ k, 0 < k → k < n → (k - 1) / 2 = i → 0 < i → H ((i - 1) / 2) ≤ H k
/-- In order but for the edges that lead down from i. -/
structure Down (n i : Nat) (H : Nat → Nat) : Prop where
  o : ∀ k, 0 < k → k < n → (k - 1) / 2 ≠ i → H ((k - 1) / 2) ≤ H k
  g : ∀ k, 0 < k → k < n → (k - 1) / 2 = i → 0 < i → H ((i - 1) / 2) ≤ H k
theorem HOrd.least {n : Nat} {H : Nat → Nat} (h : HOrd n H) : ∀ k, k < n → H 0 ≤ H k := by
  intro k
  induction k using Nat.strongRecOn with
  | ind k ih =>
    intro hk
    by_cases e : k = 0
    · subst e; exact Nat.le_refl _
    · exact Nat.le_trans (ih ((k - 1) / 2) (by omega) (by omega)) (h k (by omega) hk)
theorem upd_same (H : Nat → Nat) (i v : Nat) : upd H i v i = v := by simp [upd]
theorem upd_other (H : Nat → Nat) {i k : Nat} (v : Nat) (h : k ≠ i) : upd H i v k = H k := by simp [upd, h]
theorem swp_l (H : Nat → Nat) {i k : Nat} (h : i ≠ k) : swp H i k i = H k := by unfold swp; rw [upd_other _ _ h, upd_same]
theorem swp_r (H : Nat → Nat) (i k : Nat) : swp H i k k = H i := by unfold swp; rw [upd_same]
theorem swp_o (H : Nat → Nat) {i k j : Nat} (h1 : j ≠ i) (h2 : j ≠ k) : swp H i k j = H j := by unfold swp; rw [upd_other _ _ h2, upd_other _ _ h1]
theorem HInj.swap {n : Nat} {H : Nat → Nat} (h : HInj n H) {i k : Nat} (hi : i < n) (hk : k < n) (hne : i ≠ k) : HInj n (swp H i k) := by
  intro a b ha hb e
  have val : ∀ a, swp H i k a = H (if a = i then k else if a = k then i else a) := fun a => by
    by_cases e1 : a = i
    · subst e1; rw [swp_l _ hne, if_pos rfl]
    · by_cases e2 : a = k
      · subst e2; rw [swp_r, if_neg e1, if_pos rfl]
      · rw [swp_o _ e1 e2, if_neg e1, if_neg e2]
  rw [val, val] at e
  have := h _ _ (by split; exact hk; split; exact hi; exact ha) (by split; exact hk; split; exact hi; exact hb) e
  split at this <;> split at this <;> (try split at this) <;> (try split at this) <;> omega
theorem swp_mem {n : Nat} {H : Nat → Nat} {i k : Nat} (hi : i < n) (hk : k < n) (hne : i ≠ k) (v : Nat) : (∃ a, a < n ∧ swp H i k a = v) ↔ ∃ a, a < n ∧ H a = v := by
  constructor
  · rintro ⟨a, ha, e⟩
    by_cases e1 : a = i
    · subst e1; rw [swp_l _ hne] at e; exact ⟨k, hk, e⟩
    · by_cases e2 : a = k
      · subst e2; rw [swp_r] at e; exact ⟨i, hi, e⟩
      · rw [swp_o _ e1 e2] at e; exact ⟨a, ha, e⟩
  · rintro ⟨a, ha, e⟩
    by_cases e1 : a = i
    · subst e1; exact ⟨k, hk, by rw [swp_r]; exact e⟩
    · by_cases e2 : a = k
      · subst e2; exact ⟨i, hi, by rw [swp_l _ hne]; exact e⟩
      · exact ⟨a, ha, by rw [swp_o _ e1 e2]; exact e⟩
theorem Up.start {n x : Nat} {H : Nat → Nat} (h : HOrd n H) : Up (n + 1) n (upd H n x) := by
  refine ⟨fun k h1 h2 h3 => ?_, fun k h1 h2 h3 h4 => by omega⟩
  rw [upd_other _ _ (show (k - 1) / 2 ≠ n by omega), upd_other _ _ h3]
  exact h k h1 (by omega)
theorem Up.done {n i : Nat} {H : Nat → Nat} (h : Up n i H) (e : i = 0 ∨ H ((i - 1) / 2) ≤ H i) : HOrd n H := by
  intro k h1 h2
  by_cases q : k = i
  · subst q
    rcases e with e | e
    · omega
    · exact e
  · exact h.o k h1 h2 q
theorem Up.step {n i : Nat} {H : Nat → Nat} (h : Up n i H) (hi : 0 < i) (hn : i < n) (e : H i < H ((i - 1) / 2)) : Up n ((i - 1) / 2) (swp H i ((i - 1) / 2)) := by
  obtain ⟨p, hp⟩ : ∃ p, p = (i - 1) / 2 := ⟨_, rfl⟩
  rw [← hp] at e ⊢
  have hpi : p < i := by omega
  refine ⟨fun k h1 h2 h3 => ?_, fun k h1 h2 h3 h4 => ?_⟩
  · by_cases q : k = i
    · subst q
      rw [← hp, swp_r, swp_l _ (by omega)]
      omega
    · rw [swp_o _ q h3]
      by_cases q2 : (k - 1) / 2 = i
      · rw [q2, swp_l _ (by omega)]
        have := h.g k h1 h2 q2 hi
        rw [← hp] at this
        exact this
      · by_cases q3 : (k - 1) / 2 = p
        · rw [q3, swp_r]
          have := h.o k h1 h2 q
          rw [q3] at this
          omega
        · rw [swp_o _ q2 q3]
          exact h.o k h1 h2 q
  · have hg : H ((p - 1) / 2) ≤ H p := h.o p h4 (by omega) (by omega)
    rw [swp_o _ (show (p - 1) / 2 ≠ i by omega) (show (p - 1) / 2 ≠ p by omega)]
    by_cases q : k = i
    · subst q
      rw [swp_l _ (by omega)]
      exact hg
    · rw [swp_o _ q (by omega)]
      have := h.o k h1 h2 q
      rw [h3] at this
      omega
theorem Down.start {n : Nat} {H : Nat → Nat} (h : HOrd (n + 1) H) : Down n 0 (upd H 0 (H n)) := by
  refine ⟨fun k h1 h2 h3 => ?_, fun k _ _ _ h => by omega⟩
  rw [upd_other _ _ h3, upd_other _ _ (by omega)]
  exact h k h1 (by omega)
/-- k is the lesser child of i. -/
def Child (n i k : Nat) (H : Nat → Nat) : Prop := (k = 2 * i + 1 ∨ k = 2 * i + 2) ∧ ∀ c, c < n → (c = 2 * i + 1 ∨ c = 2 * i + 2) → k < n ∧ H k ≤ H c
theorem Down.done {n i k : Nat} {H : Nat → Nat} (h : Down n i H) (hc : Child n i k H) (e : n ≤ k ∨ H i ≤ H k) : HOrd n H := by
  intro c h1 h2
  by_cases q : (c - 1) / 2 = i
  · have hcc := hc.2 c h2 (by omega)
    rw [q]
    rcases e with e | e
    · omega
    · omega
  · exact h.o c h1 h2 q
theorem Down.step {n i k : Nat} {H : Nat → Nat} (h : Down n i H) (hc : Child n i k H) (hk : k < n) (e : H k < H i) : Down n k (swp H i k) := by
  have hki : (k - 1) / 2 = i := by have := hc.1; omega
  have hik : i < k := by have := hc.1; omega
  refine ⟨fun c h1 h2 h3 => ?_, fun c h1 h2 h3 h4 => ?_⟩
  · by_cases q : c = k
    · subst q
      rw [hki, swp_l _ (by omega), swp_r]
      omega
    · by_cases q2 : (c - 1) / 2 = i
      · rw [q2, swp_l _ (by omega), swp_o _ (by omega) q]
        exact (hc.2 c h2 (by omega)).2
      · rw [swp_o _ q2 h3]
        by_cases q3 : c = i
        · subst q3
          rw [swp_l _ (by omega)]
          exact h.g k (by omega) hk hki h1
        · rw [swp_o _ q3 q]
          exact h.o c h1 h2 q2
  · rw [hki, swp_l _ (by omega), swp_o _ (by omega) (by omega)]
    have := h.o c h1 h2 (by omega)
    rwa [h3] at this
/-- The numbers of a heap. -/
def HMem (n : Nat) (H : Nat → Nat) (v : Nat) : Prop := ∃ a, a < n ∧ H a = v
theorem HMem.push {n x v : Nat} {H : Nat → Nat} : HMem (n + 1) (upd H n x) v ↔ HMem n H v ∨ v = x := by
  constructor
  · rintro ⟨a, ha, e⟩
    by_cases q : a = n
    · subst q; rw [upd_same] at e; exact .inr e.symm
    · rw [upd_other _ _ q] at e; exact .inl ⟨a, by omega, e⟩
  · rintro (⟨a, ha, e⟩ | rfl)
    · exact ⟨a, by omega, by rw [upd_other _ _ (by omega)]; exact e⟩
    · exact ⟨n, by omega, upd_same _ _ _⟩
theorem HInj.push {n x : Nat} {H : Nat → Nat} (h : HInj n H) (hx : ¬ HMem n H x) : HInj (n + 1) (upd H n x) := by
  intro a b ha hb e
  by_cases q1 : a = n
  · by_cases q2 : b = n
    · omega
    · subst q1
      rw [upd_same, upd_other _ _ q2] at e
      exact absurd ⟨b, by omega, e.symm⟩ hx
  · by_cases q2 : b = n
    · subst q2
      rw [upd_same, upd_other _ _ q1] at e
      exact absurd ⟨a, by omega, e⟩ hx
    · rw [upd_other _ _ q1, upd_other _ _ q2] at e
      exact h a b (by omega) (by omega) e
theorem HMem.pop {n v : Nat} {H : Nat → Nat} (h : HInj (n + 1) H) : HMem n (upd H 0 (H n)) v ↔ HMem (n + 1) H v ∧ v ≠ H 0 := by
  constructor
  · rintro ⟨a, ha, e⟩
    by_cases q : a = 0
    · subst q
      rw [upd_same] at e
      subst e
      exact ⟨⟨n, by omega, rfl⟩, fun e => by have := h n 0 (by omega) (by omega) e; omega⟩
    · rw [upd_other _ _ q] at e
      subst e
      exact ⟨⟨a, by omega, rfl⟩, fun e => by have := h a 0 (by omega) (by omega) e; omega⟩
  · rintro ⟨⟨a, ha, e⟩, hne⟩
    have ha0 : a ≠ 0 := fun q => hne (by rw [← e, q])
    by_cases q : a = n
    · subst q
      exact ⟨0, by omega, by rw [upd_same]; exact e⟩
    · exact ⟨a, by omega, by rw [upd_other _ _ ha0]; exact e⟩
theorem HInj.pop {n : Nat} {H : Nat → Nat} (h : HInj (n + 1) H) : HInj n (upd H 0 (H n)) := by
  intro a b ha hb e
  by_cases q1 : a = 0
  · by_cases q2 : b = 0
    · omega
    · subst q1
      rw [upd_same, upd_other _ _ q2] at e
      have := h n b (by omega) (by omega) e
      omega
  · by_cases q2 : b = 0
    · subst q2
      rw [upd_same, upd_other _ _ q1] at e
      have := h a n (by omega) (by omega) e
      omega
    · rw [upd_other _ _ q1, upd_other _ _ q2] at e
      exact h a b (by omega) (by omega) e
end Go.Proofs.Ytckbffbjdcnklaa
