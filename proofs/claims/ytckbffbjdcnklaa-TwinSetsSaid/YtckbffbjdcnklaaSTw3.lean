/- A table in memory (instance S): Set, Remove, Put where a handle is free. -/
import Derived.Test.YtckbffbjdcnklaaSTw2
import Derived.Test.YtckbffbjdcnklaaTwHeap
namespace Go.Proofs.Ytckbffbjdcnklaa.S
open Go.RowKit
set_option linter.unusedSimpArgs false
set_option linter.unusedVariables false

theorem setR_co {R : Nat → Option Row} {x : Nat} {r s : Row} (hr : R x = some r) (ha : s.a = r.a) (hb : s.b = r.b) : (∀ y h, (∃ q, R h = some q ∧ q.a = y) ↔ ∃ q, setR R x (some s) h = some q ∧ q.a = y) ∧ ∀ y h, (∃ q, R h = some q ∧ q.b = y) ↔ ∃ q, setR R x (some s) h = some q ∧ q.b = y := by
  unfold setR
  constructor
  all_goals
    intro y h
    by_cases e : h = x
    · subst e
      simp only [hr, if_true, Option.some.injEq]
      constructor
      · rintro ⟨q, rfl, rfl⟩; exact ⟨s, rfl, by first | exact ha | exact hb⟩
      · rintro ⟨q, rfl, rfl⟩; exact ⟨r, rfl, by first | exact ha.symm | exact hb.symm⟩
    · simp only [e, if_false]
theorem coA_del {R : Nat → Option Row} {fa : Int → Option Nat} (co : ∀ x h, okA x → (fa x = some h ↔ ∃ r, R h = some r ∧ r.a = x)) (n : Nat) (r : Row) (hn : R n = some r) (hk : okA r.a) : ∀ x h, okA x → (updF fa r.a none x = some h ↔ ∃ s, setR R n none h = some s ∧ s.a = x) := by
  intro x h hx
  have h1 := (co _ n hk).2 ⟨r, hn, rfl⟩
  unfold setR
  by_cases e : x = r.a
  · subst e
    rw [updF_same]
    constructor
    · intro q; cases q
    · rintro ⟨s, q1, q2⟩
      split at q1
      · cases q1
      · have := (co _ h hx).2 ⟨s, q1, q2⟩
        rw [h1] at this
        cases this
        contradiction
  · rw [updF_other _ _ e, co x h hx]
    constructor
    · rintro ⟨s, q1, q2⟩
      refine ⟨s, ?_, q2⟩
      split
      · subst_vars; rw [hn] at q1; cases q1; exact absurd rfl e
      · exact q1
    · rintro ⟨s, q1, q2⟩
      split at q1
      · cases q1
      · exact ⟨s, q1, q2⟩
theorem coB_del {R : Nat → Option Row} {fb : ByteArray → Option Nat} (co : ∀ x h, okB x → (fb x = some h ↔ ∃ r, R h = some r ∧ r.b = x)) (n : Nat) (r : Row) (hn : R n = some r) (hk : okB r.b) : ∀ x h, okB x → (updF fb r.b none x = some h ↔ ∃ s, setR R n none h = some s ∧ s.b = x) := by
  intro x h hx
  have h1 := (co _ n hk).2 ⟨r, hn, rfl⟩
  unfold setR
  by_cases e : x = r.b
  · subst e
    rw [updF_same]
    constructor
    · intro q; cases q
    · rintro ⟨s, q1, q2⟩
      split at q1
      · cases q1
      · have := (co _ h hx).2 ⟨s, q1, q2⟩
        rw [h1] at this
        cases this
        contradiction
  · rw [updF_other _ _ e, co x h hx]
    constructor
    · rintro ⟨s, q1, q2⟩
      refine ⟨s, ?_, q2⟩
      split
      · subst_vars; rw [hn] at q1; cases q1; exact absurd rfl e
      · exact q1
    · rintro ⟨s, q1, q2⟩
      split at q1
      · cases q1
      · exact ⟨s, q1, q2⟩
section
variable {w0 : Base} {w w' : World} {tb g cap am bm room m cnt : Nat} {R : Nat → Option Row} {fa : Int → Option Nat} {fb : ByteArray → Option Nat} {fr : Value}
set_option maxHeartbeats 800000 in
theorem set_no (h : TS w0 w tb g cap am bm room m cnt R fa fb fr) (x : Int) (v : ByteArray) (hx : x < 1 ∨ (m : Int) < x ∨ R x.toNat = none) : Calls Try.prog 18 #[.pointer (some ⟨tb, 0, none⟩), .int .i64 x, vV v] w fun e w' => e = .returned (.bool false) ∧ w = w' := by
  have HA := Lib.hid (at_no h x hx)
  unfold vV
  clear h hx
  go_enter Try.func18, Try.ntmps18
  go_wp2_with fail
  refine (HA.out).mono ?_
  rintro e w' ⟨rfl, rfl⟩
  go_wp2
  go_ret
  exact ⟨rfl, rfl⟩
set_option maxHeartbeats 800000 in
theorem set_yes (h : TS w0 w tb g cap am bm room m cnt R fa fb fr) (x : Nat) (r : Row) (v : ByteArray) (hr : R x = some r) : Calls Try.prog 18 #[.pointer (some ⟨tb, 0, none⟩), .int .i64 x, vV v] w fun e w' => e = .returned (.bool true) ∧ TS w0 w' tb g cap am bm room m cnt (setR R x (some ⟨r.a, r.b, v⟩)) fa fb fr := by
  have HA := Lib.hid (at_yes h x r hr)
  obtain ⟨r1, r2, r3, r4⟩ := h.okR x r hr
  have cc := h.rows.cell (x := x) (k := 2) r4 (by omega)
  rw [hr] at cc
  have cd : w.cell? ⟨g, x * 4 + 2, none⟩ = some (vV r.v) := cc
  have ff := h.rows.free (x * 4 + 2)
  have FIN : Hid (TS w0 (w.setCell ⟨g, x * 4 + 2, none⟩ (vV v)) tb g cap am bm room m cnt (setR R x (some ⟨r.a, r.b, v⟩)) fa fb fr) := by
    have NE := h.ne
    have E : ∀ c, c ≠ g → (w.setCell ⟨g, x * 4 + 2, none⟩ (vV v)).heap[c]? = w.heap[c]? := fun c n => Below.heap_setCell _ _ _ _ n
    obtain ⟨MA, q1, q2⟩ := h.ma
    obtain ⟨MB, q3, q4⟩ := h.mb
    obtain ⟨co1, co2⟩ := setR_co (s := ⟨r.a, r.b, v⟩) hr rfl rfl
    refine ⟨(E _ NE.1).trans h.head, ?_, ⟨MA, q1.of_block (E _ (Ne.symm NE.2.2.2.1)), q2⟩, ⟨MB, q3.of_block (E _ (Ne.symm NE.2.2.2.2.1)), q4⟩, fun y k hy => (h.coA y k hy).trans (co1 y k), fun y k hy => (h.coB y k hy).trans (co2 y k), fun y s hy => ?_, NE, h.z, h.bel.trans ((Chg.refl (fun c => c = g) w).set rfl _ _) (fun c e => by subst e; exact h.z.2.1), h.hm, h.hc, h.hr⟩
    · obtain ⟨cur, p1, p2, p3, p4, p5⟩ := h.rows
      refine ⟨cur.setIfInBounds (x * 4 + 2) (vV v), Has.set (w := w) (b := g) (t := 90) (xs := cur) p1 _ _, by simpa using p2, p3, p4, fun y k hy hk => ?_⟩
      have h6 := p5 y k hy hk
      by_cases e : y = x
      · subst e
        rw [hr] at h6
        unfold setR
        rw [if_pos rfl]
        match k, hk with
        | 0, _ => simpa [Array.getElem?_setIfInBounds, fld] using h6
        | 1, _ => simpa [Array.getElem?_setIfInBounds, fld] using h6
        | 2, _ => simp [Array.getElem?_setIfInBounds, fld]; omega
        | 3, _ => simpa [Array.getElem?_setIfInBounds, fld] using h6
      · unfold setR
        rw [if_neg e, ← h6]
        have n2 : x * 4 + 2 ≠ y * 4 + k := by omega
        simp [Array.getElem?_setIfInBounds, n2]
    · unfold setR at hy
      split at hy
      · cases hy; exact ⟨r1, r2, by omega, by omega⟩
      · exact h.okR y s hy
  unfold vV at *
  clear h hr cc r1 r2
  go_enter Try.func18, Try.ntmps18
  go_wp2_with fail
  refine (HA.out).mono ?_
  rintro e w' ⟨rfl, rfl⟩
  go_wp2
  go_ret
  exact ⟨rfl, FIN.out⟩
end
end Go.Proofs.Ytckbffbjdcnklaa.S
