/- Both cursors beside one another. -/
import Derived.Test.YtlhbldbbjjlohaaDoorR
namespace Go.Proofs.YtlhbldbbjjlohaaDoor
open Go.RowKit
set_option linter.unusedSimpArgs false
set_option linter.unusedVariables false
open V2 (Only)

structure PS (w0 w : World) (cb wb rb ub n a1 a2 : Nat) (U V : Nat → Bool) : Prop where
  st : St w0 w cb wb n a1 U
  rc : Rc w rb ub n a2 V
  d1 : rb ≠ cb
  d2 : rb ≠ wb
  d3 : ub ≠ cb
  d4 : ub ≠ wb
  r1 : w0.heap.size ≤ rb
  r2 : w0.heap.size ≤ ub
section
variable {w0 w w' : World} {cb wb rb ub n a1 a2 : Nat} {U V : Nat → Bool}
theorem PS.moveL (h : PS w0 w cb wb rb ub n a1 a2 U V) {b1 : Nat} {U2 : Nat → Bool} (s : St w0 w' cb wb n b1 U2) (o : Only cb wb w w') : PS w0 w' cb wb rb ub n b1 a2 U2 V :=
  { h with st := s, rc := h.rc.of_blocks (o.2.2 _ h.d1 h.d2) (o.2.2 _ h.d3 h.d4) }
theorem PS.moveR (h : PS w0 w cb wb rb ub n a1 a2 U V) {b2 : Nat} {V2 : Nat → Bool} (r : Rc w' rb ub n b2 V2) (o : Only rb ub w w') : PS w0 w' cb wb rb ub n a1 b2 U V2 :=
  { h with
    rc := r
    st := ⟨h.st.cur.of_blocks (o.2.2 _ (Ne.symm h.d1) (Ne.symm h.d3)) (o.2.2 _ (Ne.symm h.d2) (Ne.symm h.d4)), h.st.tab.below (o.1 _ h.r1 h.r2) h.st.pos, h.st.bel.trans (o.1 _ h.r1 h.r2), h.st.b1, h.st.b2, h.st.pos⟩ }
theorem PS.grow (h : PS w0 w cb wb rb ub n a1 a2 U V) (hb : Below w.heap.size w w') : PS w0 w' cb wb rb ub n a1 a2 U V :=
  { h with st := h.st.grow hb, rc := h.rc.of_blocks (hb.block _ h.rc.head.lt) (hb.block _ h.rc.used.lt) }
theorem PS.lts (h : PS w0 w cb wb rb ub n a1 a2 U V) : cb < w.heap.size ∧ wb < w.heap.size ∧ rb < w.heap.size ∧ ub < w.heap.size :=
  ⟨h.st.cur.head.lt, by obtain ⟨W, hw, _⟩ := h.st.cur.words; exact hw.lt, h.rc.head.lt, h.rc.used.lt⟩

theorem freeL (i : Int) (h : PS w0 w cb wb rb ub n a1 a2 U V) :
    Calls Tryd.prog 10 #[.pointer (some ⟨cb, 0, none⟩), .int .i64 i] w fun e w' => e = .returned (.bool (usedB U n i)) ∧ PS w0 w' cb wb rb ub n a1 a2 (freed U n i) V ∧ Only cb wb w w' := by
  cases hb : usedB U n i
  · have e : freed U n i = U := by unfold freed; rw [hb]; rfl
    rw [e]
    exact (nofree_s i h.st hb).mono fun e w' ⟨he, hw⟩ => by subst hw; exact ⟨he, h, Only.refl _ _ _⟩
  · have hb2 := hb
    simp only [usedB, Bool.and_eq_true, decide_eq_true_eq] at hb2
    obtain ⟨k, rfl⟩ := Int.eq_ofNat_of_zero_le hb2.1
    have e : freed U n k = setU U k false := by unfold freed; rw [hb]; simp
    rw [e]
    exact (free2 k h.st (by omega) hb2.2.2).mono fun e w' ⟨he, s, o⟩ => ⟨he, h.moveL s o, o⟩
theorem freeR (i : Int) (h : PS w0 w cb wb rb ub n a1 a2 U V) :
    Calls Tryd.prog 11 #[.pointer (some ⟨rb, 0, none⟩), .int .i64 i] w fun e w' => e = .returned (.bool (usedB V n i)) ∧ PS w0 w' cb wb rb ub n a1 a2 U (freed V n i) ∧ Only rb ub w w' :=
  (rfree_c rb ub n a2 V i w h.rc).mono fun e w' ⟨he, r, o⟩ => ⟨he, h.moveR r o, o⟩
theorem usedL (i : Int) (h : PS w0 w cb wb rb ub n a1 a2 U V) :
    Calls Tryd.prog 12 #[.pointer (some ⟨cb, 0, none⟩), .int .i64 i] w fun e w' => e = .returned (.bool (usedB U n i)) ∧ w = w' := used_s i _ h.st rfl
theorem hasR (i : Int) (h : PS w0 w cb wb rb ub n a1 a2 U V) :
    Calls Tryd.prog 13 #[.pointer (some ⟨rb, 0, none⟩), .int .i64 i] w fun e w' => e = .returned (.bool (usedB V n i)) ∧ w = w' := has_c rb ub n a2 V i w h.rc
theorem lenL (h : PS w0 w cb wb rb ub n a1 a2 U V) :
    Calls Tryd.prog 16 #[.pointer (some ⟨cb, 0, none⟩)] w fun e w' => e = .returned (.int .i64 (cnt U n)) ∧ w = w' := len_s _ h.st rfl
theorem lenR (h : PS w0 w cb wb rb ub n a1 a2 U V) :
    Calls Tryd.prog 17 #[.pointer (some ⟨rb, 0, none⟩)] w fun e w' => e = .returned (.int .i64 (cnt V n)) ∧ w = w' := rlen_c rb ub n a2 V w h.rc
theorem takeFullL (h : PS w0 w cb wb rb ub n a1 a2 U V) (hf : ∀ k, k < n → U k = true) :
    Calls Tryd.prog 14 #[.pointer (some ⟨cb, 0, none⟩)] w fun e w' => e = .returned (.tuple #[.int .i64 0, .bool false]) ∧ PS w0 w' cb wb rb ub n a1 a2 U V :=
  (take2 h.st).mono fun e w' H => by
    rcases H with ⟨_, he, s, o⟩ | ⟨k, hk, _⟩
    · exact ⟨he, h.moveL s o⟩
    · have := hf k hk.1; rw [hk.2.1] at this; cases this
theorem takeNextL (h : PS w0 w cb wb rb ub n a1 a2 U V) (hf : ¬ ∀ k, k < n → U k = true) :
    Calls Tryd.prog 14 #[.pointer (some ⟨cb, 0, none⟩)] w fun e w' => ∃ k, V2.Next U n a1 k ∧ e = .returned (.tuple #[.int .i64 k, .bool true]) ∧ PS w0 w' cb wb rb ub n ((k + 1) % n) a2 (setU U k true) V :=
  (take2 h.st).mono fun e w' H => by
    rcases H with ⟨ha, _⟩ | ⟨k, hk, he, s, o⟩
    · exact absurd ha hf
    · exact ⟨k, hk, he, h.moveL s o⟩
theorem Next2.unique {U : Nat → Bool} {n at1 k l : Nat} (h : V2.Next U n at1 k) (g : V2.Next U n at1 l) : k = l := Next.unique (U := U) (n := n) (at1 := at1) h g
theorem takeFullR (h : PS w0 w cb wb rb ub n a1 a2 U V) (hf : ∀ k, k < n → V k = true) :
    Calls Tryd.prog 15 #[.pointer (some ⟨rb, 0, none⟩)] w fun e w' => e = .returned (.tuple #[.int .i64 0, .bool false]) ∧ w = w' :=
  (rtake_c rb ub n a2 V w h.rc).mono fun e w' H => by
    rcases H with ⟨_, he, hw⟩ | ⟨k, hk, _⟩
    · exact ⟨he, hw⟩
    · have := hf k hk.1; rw [hk.2.1] at this; cases this
theorem takeNextR (k : Nat) (h : PS w0 w cb wb rb ub n a1 a2 U V) (hk : V2.Next V n a2 k) :
    Calls Tryd.prog 15 #[.pointer (some ⟨rb, 0, none⟩)] w fun e w' => e = .returned (.tuple #[.int .i64 k, .bool true]) ∧ PS w0 w' cb wb rb ub n a1 ((k + 1) % n) U (setU V k true) :=
  (rtake_c rb ub n a2 V w h.rc).mono fun e w' H => by
    rcases H with ⟨ha, _⟩ | ⟨l, hl, he, r, o⟩
    · have := ha k hk.1; rw [hk.2.1] at this; cases this
    · obtain rfl := Next2.unique hk hl
      exact ⟨he, h.moveR r o⟩
end
end Go.Proofs.YtlhbldbbjjlohaaDoor
