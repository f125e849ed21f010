/- A range over an iterator that itself ranges over an iterator: the contract's invariant abides the turn of whatever new block that holds no cells; what a round keeps is said of the round that ends the loop, too. At the fence that asks nothing. -/
import Derived.RangeFuncNested
import Derived.RangeFuncBound
import Derived.RangeFuncCalls
import Derived.RangeFuncLeaves
import Derived.Shelf.Abstract
import Derived.Shelf.RegionOpen
import Derived.WalkKit
import Derived.OwnWalkIn
import Derived.TacticsInMore
import Derived.LoopNIn
import Derived.LoopIn
import Derived.Test.YtckbffbjdcnklaaTwBase
namespace Go.Proofs.Ytckbffbjdcnklaa
open Go.RowKit Go.Shelf
set_option linter.unusedSimpArgs false
set_option linter.unusedVariables false

/-- The blocks of Z that there are stay as they are. -/
structure KZ (Z : Nat → Prop) (W W' : World) : Prop where
  size : W.heap.size ≤ W'.heap.size
  block : ∀ k, k < W.heap.size → Z k → W'.heap[k]? = W.heap[k]?
theorem KZ.refl (Z : Nat → Prop) (W : World) : KZ Z W W := ⟨Nat.le_refl _, fun _ _ _ => rfl⟩
theorem KZ.trans {Z : Nat → Prop} {A B C : World} (h : KZ Z A B) (k : KZ Z B C) : KZ Z A C := ⟨Nat.le_trans h.size k.size, fun i hi hz => (k.block i (Nat.lt_of_lt_of_le hi h.size) hz).trans (h.block i hi hz)⟩
theorem KZ.put {Z : Nat → Prop} {l : Nat} (W : World) (o : Obj) (h : ¬ Z l) : KZ Z W (W.putObj l o) := ⟨by simp, fun k hk hz => World.putObj_heap_other (fun e => h (by first | (rw [← e]; exact hz) | (rw [e]; exact hz)))⟩
theorem KZ.mono {Z Y : Nat → Prop} {W W' : World} (h : KZ Z W W') (hY : ∀ k, Y k → Z k) : KZ Y W W' := ⟨h.size, fun k hk hy => h.block k hk (hY k hy)⟩
theorem KZ.of_below {Z : Nat → Prop} {W W' : World} (h : Below W.heap.size W W') : KZ Z W W' := ⟨h.size, fun k hk _ => h.block k hk⟩
theorem KZ.set {Z : Nat → Prop} {W W' : World} (h : KZ Z W W') {b : Nat} (hb : ¬ Z b) (i : Nat) (v : Value) : KZ Z W (W'.setCell ⟨b, i, none⟩ v) :=
  ⟨by simpa using h.size, fun k hk hz => (Below.heap_setCell W' ⟨b, i, none⟩ v k (fun e => hb (by subst e; exact hz))).trans (h.block k hk hz)⟩
theorem KZ.grow {Z : Nat → Prop} {W W' W2 : World} (h : KZ Z W W') (k : Below W'.heap.size W' W2) : KZ Z W W2 := h.trans (.of_below k)
/-- The contract of an iterator value made in w: blocks of Z, and those from B on, are kept by every round. -/
def SeqN {α : Type} (P : Program) (g : Nat) (lb : Array Value) (encs : α → Array Value) (Z : Nat → Prop) (L : List α) (w : World) : Prop :=
  ∀ (n l B : Nat) (J Jx : List α → World → Prop) (W : World), Below w.heap.size w W → B ≤ W.heap.size → OwnFrom W.heap.size J → OwnFrom W.heap.size Jx →
    (∀ m pre x W1, J pre W1 → pre ++ [x] <+: L → YieldAt Fence.wide m P l (encs x) W1 fun e W' => KZ (fun k => Z k ∨ B ≤ k) W1 W' ∧
      ((e = .returned (.bool true) ∧ J (pre ++ [x]) W') ∨ (e = .returned (.bool false) ∧ Jx (pre ++ [x]) W'))) →
    J [] W →
    CallsIn Fence.wide n P g (#[.func (.yield l) #[] #[]] ++ lb) W fun e W' => (∃ v, e = .returned v) ∧ (J L W' ∨ ∃ pre, pre <+: L ∧ Jx pre W')

/-- How a round's body may be left. -/
def endN {α : Type} (B : Nat) (Z : Nat → Prop) (I : List α → World → Prop) (Ix : Code → List α → World → Prop) (xs : List α) (W : World) : Exit → Act → World → Prop
  | .normal, _, W' => KZ (fun k => Z k ∨ B ≤ k) W W' ∧ I xs W'
  | .ret, _, W' => KZ (fun k => Z k ∨ B ≤ k) W W' ∧ Ix .ret xs W'
  | .exit i, _, W' => KZ (fun k => Z k ∨ B ≤ k) W W' ∧ Ix (.exit i) xs W'
  | .goto t, _, W' => KZ (fun k => Z k ∨ B ≤ k) W W' ∧ Ix (.goto t) xs W'
  | .panic _, _, _ => False
  | .outgrown, _, _ => False

theorem ownFrom_up {β : Type} {B B' : Nat} {I : β → World → Prop} (h : OwnFrom B I) (hB : B ≤ B') : OwnFrom B' I := fun s W W' row hs hg hr => h s W W' row hs hg (fun r e => ⟨Nat.le_trans hB (hr r e).1, (hr r e).2⟩)
theorem at_less {W W' : World} {row : Option Nat} {l k : Nat} {o : Obj} (h : W.heap[l]? = some o) (hg : W.grownBy W' row) (hr : ∀ r, row = some r → k ≤ r ∧ ∃ o : Obj, W.heap[r]? = some o ∧ o.isCells = false) (hl : l < k) : W'.heap[l]? = some o :=
  (hg.block l (Array.getElem?_eq_some_iff.1 h).1 (fun e => by have := (hr l e.symm).1; omega)).trans h

set_option maxHeartbeats 800000 in
theorem wp_rangeN {α : Type} {P : Program} {n : Nat} {g : Operand} {ps : Array Tmp} {assign body : Code} {Q : Exit → Act → World → Prop} {a : Act} {w : World} {gf : Nat} {lb : Array Value}
    (hg : a.eval g = .func (.func gf) #[] lb) (eg : ∀ args w, (callFunc gf args).run P w = .ok (.enter gf args) w)
    {encs : α → Array Value} {Z : Nat → Prop} {L : List α} {w0 : World} (hseq : SeqN P gf lb encs Z L w0) (hb0 : Below w0.heap.size w0 w) (hZ : ∀ b, Z b → b < w.heap.size) (hps : ∀ x, (encs x).size = ps.size)
    (I : List α → World → Prop) (Ix : Code → List α → World → Prop) (hI : OwnFrom w.heap.size I) (hIx : ∀ c, OwnFrom w.heap.size (Ix c)) (h0 : I [] w)
    (hround : ∀ (l m : Nat) (pre : List α) (x : α) (W : World), pre ++ [x] <+: L →
      assign.wpIn (Fence.wide.inRound l) m P (Exit.then (fun a₁ W₁ => W₁ = W ∧ ∀ W', I pre W' → body.wpIn (Fence.wide.inRound l) m P (endN w.heap.size Z I Ix (pre ++ [x]) W') a₁ W') (fun _ _ _ => False)) { tmps := (ps.zip (encs x)).foldl (fun t (p, v) => t.setIfInBounds p v) a.tmps, defers := [] } W)
    (hdone : ∀ (D : Nat) (W : World), w.heap.size ≤ D → I L W → W.heap[D]? = some (.deferred (some [])) → Q .normal { a with defers := { target := .collected D, args := #[] } :: a.defers } W)
    (hstop : ∀ (D : Nat) (c : Code) (pre : List α) (W : World), w.heap.size ≤ D → pre <+: L → Ix c pre W → W.heap[D]? = some (.deferred (some [])) → c.wpIn Fence.wide n P Q { a with defers := { target := .collected D, args := #[] } :: a.defers } W) :
    (Code.rangeFunc g ps assign body).wpIn Fence.wide n P Q a w := by
  refine wpIn_rangeFunc ?_
  intro fn hfn
  obtain ⟨rec, hrec⟩ : ∃ rec : LoopState → Option Code → Loop, rec = fun st pe => { state := st, pending := pe, fn, tmps := a.tmps, params := ps, assign, body, defers := w.heap.size } := ⟨_, rfl⟩
  obtain ⟨s, hs⟩ : ∃ s, s = w.heap.size := ⟨_, rfl⟩
  obtain ⟨W1, hW1⟩ : ∃ W1, (w.alloc (.deferred (some []))).alloc (.loop (rec .ready none)) = W1 := ⟨_, rfl⟩
  have z1 : W1.heap.size = s + 2 := by rw [← hW1, hs]; simp
  have hL1 : W1.heap[s + 1]? = some (.loop (rec .ready none)) := by
    rw [← hW1, hs]; have := World.alloc_heap_new (w.alloc (.deferred (some []))) (.loop (rec .ready none)); rwa [World.size_alloc] at this
  have hK1 : W1.heap[s]? = some (.deferred (some [])) := by
    rw [← hW1, hs]; exact (Below.heap_alloc _ _ _ (by simp)).trans (World.alloc_heap_new w _)
  have hI1 : I [] W1 := by rw [← hW1]; exact hI.alloc _ (hI.alloc _ h0)
  have hb1 : Below w0.heap.size w0 W1 := by
    rw [← hW1]; exact hb0.trans ((((Below.refl _ w).alloc (Nat.le_refl _) _).alloc (by simp) _).mono hb0.size)
  refine ⟨s + 1, [{ target := .collected s, args := #[] }], W1, { target := .fn (.func gf) lb, args := #[.func (.yield (s + 1)) #[] #[]] }, W1, gf,
    #[.func (.yield (s + 1)) #[] #[]] ++ lb, W1, ?_, ?_, ?_, ?_, fun h => (by cases h), ?_⟩
  · rw [← hW1, hrec, hs]; exact run_enterLoop_outer _ _ _ _ _
  · simp only [resolve, hg]
    simp [go_sem]
  · intro f' hf'; trivial
  · simp [invoke, go_sem, eg]
  · refine (hseq (n - 1) (s + 1) (s + 2)
      (fun pre W => I pre W ∧ W.heap[s + 1]? = some (.loop (rec .ready none)) ∧ W.heap[s]? = some (.deferred (some [])))
      (fun pre W => ∃ c, Ix c pre W ∧ W.heap[s + 1]? = some (.loop (rec .done (some c))) ∧ W.heap[s]? = some (.deferred (some [])))
      W1 hb1 (by omega)
      (fun p A B row h hg' hr => ⟨ownFrom_up hI (B' := W1.heap.size) (by omega) p A B row h.1 hg' hr, at_less h.2.1 hg' hr (by omega), at_less h.2.2 hg' hr (by omega)⟩)
      (fun p A B row ⟨c, hc, hl, hk⟩ hg' hr => ⟨c, ownFrom_up (hIx c) (B' := W1.heap.size) (by omega) p A B row hc hg' hr, at_less hl hg' hr (by omega), at_less hk hg' hr (by omega)⟩)
      ?_ ⟨hI1, hL1, hK1⟩).mono ?_
    · rintro m pre x W ⟨hi, hl, hk⟩ hlen
      have hlt : s + 1 < W.heap.size := (Array.getElem?_eq_some_iff.1 hl).1
      have hy := run_yield (P := P) (args := encs x) hl (by rw [hrec]; exact hps x)
      rw [hrec] at hy
      refine ⟨fn, _, assign, body, hy, roundIn_of_wpIn hfn (wpIn_mono (hround _ _ pre x W hlen) ?_)⟩
      intro e0 a0 w0' h0'
      cases e0 <;> try exact h0'.elim
      obtain ⟨e1, hb0'⟩ := h0'
      rw [e1]
      refine ⟨_, run_beginRound hl (by rw [hrec]), ?_⟩
      obtain ⟨W2, hW2⟩ : ∃ W2, W2 = W.putObj (s + 1) (.loop { rec .ready none with state := .busy }) := ⟨_, rfl⟩
      rw [← hW2]
      have hl2 : W2.heap[s + 1]? = some (.loop { rec .ready none with state := .busy }) := by rw [hW2]; exact World.putObj_heap_same hlt
      have hk2 : W2.heap[s]? = some (.deferred (some [])) := by rw [hW2]; exact (World.putObj_heap_other (by omega)).trans hk
      have n1 : ¬ (Z (s + 1) ∨ s + 2 ≤ s + 1) := fun h => by
        rcases h with h | h
        · have := hZ _ h; omega
        · omega
      have k2 : KZ (fun k => Z k ∨ s + 2 ≤ k) W W2 := by rw [hW2]; exact KZ.put _ _ n1
      have hi2 : I pre W2 := by rw [hW2]; exact hI.putObj _ hi (by omega) hl rfl
      refine wpIn_mono (hb0' W2 hi2) ?_
      have fin : ∀ (jump : Option Code) (W3 : World), KZ (fun k => Z k ∨ w.heap.size ≤ k) W2 W3 → ∃ W4, (Instr.endRound (s + 1) jump).run P W3 = .ok (.bool jump.isNone) W4 ∧ KZ (fun k => Z k ∨ s + 2 ≤ k) W W4 ∧
          W4 = W3.putObj (s + 1) (.loop (rec (if jump.isNone then .ready else .done) jump)) ∧ W3.heap[s + 1]? = some (.loop { rec .ready none with state := .busy }) ∧
          W4.heap[s + 1]? = some (.loop (rec (if jump.isNone then .ready else .done) jump)) ∧ W4.heap[s]? = some (.deferred (some [])) := fun jump W3 hk3 => by
        have hl3 := (hk3.block _ (Array.getElem?_eq_some_iff.1 hl2).1 (.inr (by omega))).trans hl2
        have hkk := (hk3.block _ (Array.getElem?_eq_some_iff.1 hk2).1 (.inr (by omega))).trans hk2
        have hlt3 := (Array.getElem?_eq_some_iff.1 hl3).1
        have := run_endRound (P := P) jump hl3
        rw [hrec] at this hl3 ⊢
        exact ⟨_, this, (k2.trans (hk3.mono (fun k h => by rcases h with h | h; exact .inl h; exact .inr (by omega)))).trans (KZ.put _ _ n1), rfl, hl3, World.putObj_heap_same hlt3, (World.putObj_heap_other (by omega)).trans hkk⟩
      rintro e a3 W3 hp
      cases e with
      | normal =>
        obtain ⟨hk3, hi3⟩ := hp
        obtain ⟨W4, hr, hb4, rfl, hl3, hl4, hk4⟩ := fin none W3 hk3
        exact ⟨_, _, hr, hb4, .inl ⟨rfl, hI.putObj _ hi3 (by omega) hl3 rfl, hl4, hk4⟩⟩
      | ret =>
        obtain ⟨hk3, hi3⟩ := hp
        obtain ⟨W4, hr, hb4, rfl, hl3, hl4, hk4⟩ := fin (some .ret) W3 hk3
        exact ⟨_, _, hr, hb4, .inr ⟨rfl, .ret, (hIx _).putObj _ hi3 (by omega) hl3 rfl, hl4, hk4⟩⟩
      | exit id =>
        obtain ⟨hk3, hi3⟩ := hp
        obtain ⟨W4, hr, hb4, rfl, hl3, hl4, hk4⟩ := fin (some (.exit id)) W3 hk3
        exact ⟨_, _, hr, hb4, .inr ⟨rfl, .exit id, (hIx _).putObj _ hi3 (by omega) hl3 rfl, hl4, hk4⟩⟩
      | goto t =>
        obtain ⟨hk3, hi3⟩ := hp
        obtain ⟨W4, hr, hb4, rfl, hl3, hl4, hk4⟩ := fin (some (.goto t)) W3 hk3
        exact ⟨_, _, hr, hb4, .inr ⟨rfl, .goto t, (hIx _).putObj _ hi3 (by omega) hl3 rfl, hl4, hk4⟩⟩
      | panic ch => exact hp.elim
      | outgrown => exact hp.elim
    · rintro e W2 ⟨⟨v, rfl⟩, (⟨hi, hl, hk⟩ | ⟨pre, hSp, c, hi, hl, hk⟩)⟩
      · have := run_endLoop (P := P) hl (by rw [hrec]; simp)
        rw [hrec] at this
        rw [hrec] at hl
        exact ⟨none, _, this, hdone s _ (by omega) (hI.putObj _ hi (by omega) hl rfl) ((World.putObj_heap_other (by omega)).trans hk)⟩
      · have := run_endLoop (P := P) hl (by rw [hrec]; simp)
        rw [hrec] at this
        rw [hrec] at hl
        exact ⟨some c, _, this, hstop s c pre _ (by omega) hSp ((hIx c).putObj _ hi (by omega) hl rfl) ((World.putObj_heap_other (by omega)).trans hk)⟩
/-- An operation that is no defer is in a round what it is elsewhere. -/
def noDefer (o : Oper) : Bool := match o.op with
  | .defer _ => false
  | _ => true
section
variable {F : Fence} {n l : Nat} {P : Program} {ops : Array Oper} {Q : Exit → Act → World → Prop} {md : Region.Mode}
theorem op_round (hnd : ops.all noDefer = true) {i : Nat} {K : Act → World → Prop} {a : Act} {w : World} (h : wpOpIn F n P ops Q i K a w) : wpOpIn (F.inRound l) n P ops Q i K a w := by
  unfold wpOpIn at *
  cases ho : ops[i]? with
  | none => simp only [ho] at h ⊢; exact h
  | some o =>
    simp only [ho] at h ⊢
    have hd : ∀ c, o.op ≠ .defer c := fun c e => by
      have := Array.all_eq_true.1 hnd i (Array.getElem?_eq_some_iff.1 ho).1
      rw [(Array.getElem?_eq_some_iff.1 ho).2] at this
      unfold noDefer at this
      rw [e] at this
      cases this
    by_cases hw : Region.wanted o (yielded ops a.tmps) = true
    · simp only [hw, if_true] at h ⊢
      unfold Oper.wpIn at *
      refine ⟨h.1, ?_⟩
      have h2 := h.2
      rw [Oper.semAt_eq _ _ _ hd] at h2 ⊢
      generalize (execOp a.eval o).run P w = r at h2 ⊢
      cases r with
      | ok x w' => cases x <;> exact h2
      | halt x w' => cases x <;> exact h2
    · simp only [hw] at h ⊢
      exact h
theorem any_round (hnd : ops.all noDefer = true) : ∀ (fuel : Nat) (listed : Array Bool) (a : Act) (w : World), wpAnyIn F n P md ops Q fuel listed a w → wpAnyIn (F.inRound l) n P md ops Q fuel listed a w
  | 0, _, _, _, h => h
  | fuel + 1, listed, a, w, h => ⟨h.1, fun i hi => op_round hnd (wpOpIn_mono (fun a' w' q => any_round hnd fuel _ a' w' q) (h.2 i hi))⟩
end
end Go.Proofs.Ytckbffbjdcnklaa
