/- Contracts of Take in the laws' own forms; the examples. -/
import Derived.Test.YthkadlmdjgdliaaDoorD
namespace Go.Proofs.YthkadlmdjgdliaaDoor
open Go.RowKit
set_option linter.unusedSimpArgs false
set_option linter.unusedVariables false

theorem Next.unique {U : Nat → Bool} {n at1 k l : Nat} (h : Next U n at1 k) (g : Next U n at1 l) : k = l := by
  obtain ⟨h1, h2, h3⟩ := h
  obtain ⟨g1, g2, g3⟩ := g
  have no : ∀ j, U j = true → U j = false → False := fun j a b => by rw [a] at b; cases b
  rcases h3 with ⟨a, b⟩ | ⟨a, b, c⟩ <;> rcases g3 with ⟨a', b'⟩ | ⟨a', b', c'⟩
  · rcases Nat.lt_trichotomy k l with q | q | q
    · exact (no k (b' k a q) h2).elim
    · exact q
    · exact (no l (b l a' q) g2).elim
  · exact (no k (b' k a h1) h2).elim
  · exact (no l (b l a' g1) g2).elim
  · rcases Nat.lt_trichotomy k l with q | q | q
    · exact (no k (c' k q) h2).elim
    · exact q
    · exact (no l (c l q) g2).elim

theorem take_next (cb wb n at1 k : Nat) (U : Nat → Bool) (w : World) (hT : Tab w) (h : Cur w cb wb n at1 U) (hk : Next U n at1 k) :
    Calls Tryd.prog 21 #[.pointer (some ⟨cb, 0, none⟩)] w fun e w' => e = .returned (.tuple #[.int .i64 k, .bool true]) ∧ Cur w' cb wb n ((k + 1) % n) (setU U k true) ∧ ∀ B, B ≤ cb → B ≤ wb → Below B w w' := by
  refine (take_c cb wb n at1 U w hT h).mono ?_
  rintro e w' (⟨ha, _⟩ | ⟨l, hl, rfl, hc, hb⟩)
  · have := ha k hk.1; rw [hk.2.1] at this; cases this
  · obtain rfl := hk.unique hl
    exact ⟨rfl, hc, hb⟩
theorem take_full (cb wb n at1 : Nat) (U : Nat → Bool) (w : World) (hT : Tab w) (h : Cur w cb wb n at1 U) (hk : ∀ k, k < n → U k = true) :
    Calls Tryd.prog 21 #[.pointer (some ⟨cb, 0, none⟩)] w fun e w' => e = .returned (.tuple #[.int .i64 0, .bool false]) ∧ Cur w' cb wb n at1 U ∧ ∀ B, Below B w w' := by
  refine (take_c cb wb n at1 U w hT h).mono ?_
  rintro e w' (⟨_, rfl, hc, hb⟩ | ⟨l, hl, _⟩)
  · exact ⟨rfl, hc, hb⟩
  · have := hk l hl.1; rw [hl.2.1] at this; cases this
theorem Cur.congr {w : World} {cb wb n at1 at2 : Nat} {U V : Nat → Bool} (h : Cur w cb wb n at1 U) (ha : at1 = at2) (hu : ∀ k, U k = V k) : Cur w cb wb n at2 V := by
  obtain rfl := ha
  obtain rfl : U = V := funext hu
  exact h
theorem Tab.below {w w' : World} {B : Nat} (h : Tab w) (hb : Below B w w') (hB : 0 < B) : Tab w' := fun j hj => (hb.cell (p := ⟨0, j, none⟩) hB).trans (h j hj)

/-- All that a law holds of its cursor. -/
structure St (w0 w : World) (cb wb n at1 : Nat) (U : Nat → Bool) : Prop where
  cur : Cur w cb wb n at1 U
  tab : Tab w
  bel : Below w0.heap.size w0 w
  b1 : w0.heap.size ≤ cb
  b2 : w0.heap.size ≤ wb
  pos : 0 < w0.heap.size
section
variable {w0 w : World} {cb wb n at1 : Nat} {U : Nat → Bool}
theorem St.next (h : St w0 w cb wb n at1 U) {w' : World} {at2 : Nat} {V : Nat → Bool} (hc : Cur w' cb wb n at2 V) (hb : ∀ B, B ≤ cb → B ≤ wb → Below B w w') : St w0 w' cb wb n at2 V :=
  ⟨hc, h.tab.below (hb _ h.b1 h.b2) h.pos, h.bel.trans (hb _ h.b1 h.b2), h.b1, h.b2, h.pos⟩
theorem St.congr {at2 : Nat} {V : Nat → Bool} (h : St w0 w cb wb n at1 U) (ha : at1 = at2) (hu : ∀ k, U k = V k) : St w0 w cb wb n at2 V := { h with cur := h.cur.congr ha hu }
theorem St.grow (h : St w0 w cb wb n at1 U) {w' : World} (hb : Below w.heap.size w w') : St w0 w' cb wb n at1 U :=
  ⟨h.cur.below hb, h.tab.below hb (Nat.lt_of_lt_of_le h.pos h.bel.size), h.bel.trans (hb.mono h.bel.size), h.b1, h.b2, h.pos⟩
theorem take_s (k : Nat) (h : St w0 w cb wb n at1 U) (hk : Next U n at1 k) :
    Calls Tryd.prog 21 #[.pointer (some ⟨cb, 0, none⟩)] w fun e w' => e = .returned (.tuple #[.int .i64 k, .bool true]) ∧ St w0 w' cb wb n ((k + 1) % n) (setU U k true) :=
  (take_next cb wb n at1 k U w h.tab h.cur hk).mono fun e w' ⟨he, hc, hb⟩ => ⟨he, h.next hc hb⟩
theorem full_s (h : St w0 w cb wb n at1 U) (hk : ∀ k, k < n → U k = true) :
    Calls Tryd.prog 21 #[.pointer (some ⟨cb, 0, none⟩)] w fun e w' => e = .returned (.tuple #[.int .i64 0, .bool false]) ∧ St w0 w' cb wb n at1 U :=
  (take_full cb wb n at1 U w h.tab h.cur hk).mono fun e w' ⟨he, hc, hb⟩ => ⟨he, h.next hc (fun B _ _ => hb B)⟩
theorem free_s (k : Nat) (h : St w0 w cb wb n at1 U) (hk : k < n) (hu : U k = true) :
    Calls Tryd.prog 20 #[.pointer (some ⟨cb, 0, none⟩), .int .i64 k] w fun e w' => e = .returned (.bool true) ∧ St w0 w' cb wb n at1 (setU U k false) :=
  (free_yes cb wb n at1 U k w h.cur hk hu).mono fun e w' ⟨he, hc, hb⟩ => ⟨he, h.next hc hb⟩
theorem nofree_s (i : Int) (h : St w0 w cb wb n at1 U) (hu : usedB U n i = false) :
    Calls Tryd.prog 20 #[.pointer (some ⟨cb, 0, none⟩), .int .i64 i] w fun e w' => e = .returned (.bool false) ∧ w = w' := free_no cb wb n at1 U i w h.cur hu
theorem used_s (i : Int) (b : Bool) (h : St w0 w cb wb n at1 U) (hb : usedB U n i = b) :
    Calls Tryd.prog 26 #[.pointer (some ⟨cb, 0, none⟩), .int .i64 i] w fun e w' => e = .returned (.bool b) ∧ w = w' := by
  rw [← hb]; exact used_c cb wb n at1 U i w h.cur

end
theorem new_s (w0 w : World) (n : Nat) (h1 : 1 ≤ n) (h2 : n ≤ 65536) (hT : Tab w) (hb : Below w0.heap.size w0 w) (hp : 0 < w0.heap.size) : Calls Tryd.prog 18 #[.int .i64 n] w fun e w' => e = .returned (.tuple #[.pointer (some ⟨w.heap.size + 1, 0, none⟩), .int .i64 0]) ∧ St w0 w' (w.heap.size + 1) w.heap.size n 0 (fun _ => false) := by
  refine (new_c n h1 h2 w).mono ?_
  rintro e w' ⟨rfl, hc, hb2⟩
  have := hb.size
  exact ⟨rfl, hc, hT.below hb2 (by omega), hb.trans (hb2.mono this), by omega, this, hp⟩

end Go.Proofs.YthkadlmdjgdliaaDoor
