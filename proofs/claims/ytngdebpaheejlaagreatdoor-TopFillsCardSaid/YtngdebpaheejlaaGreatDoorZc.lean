/- A range over an iterator that itself ranges over an iterator: the contract's invariant abides the turn of whatever new block that holds no cells; what a round keeps is said of the round that ends the loop, too. At the fence that asks nothing. Regions that draw their order and hold one operation that turns the world: all that looks at the world stands ahead of it, whatever the order. The base of the texts on the balancer's parts. A range over an iterator whose body may turn rows and maps made since the range began: what a round keeps are the blocks of Z and the records of loops. (Beside RF.). A range over an iterator whose assignment stores. (Beside RZ.). A range over an iterator whose last round may turn all but loops' records. (Beside RZ.). -/
import Derived.RangeFuncNested
import Derived.RangeFuncBound
import Derived.RangeFuncCalls
import Derived.RangeFuncLeaves
import Derived.Shelf.Abstract
import Derived.Shelf.RegionOpen
import Derived.WalkKit
import Derived.OwnWalkIn
import Derived.TacticsInMore
import Derived.LoopNIn
import Derived.LoopIn
import Derived.Test.YtngdebpaheejlaaGreatDoorZb
import Derived.Deep.Quiet
import Derived.StillTail
import Derived.Test.YtngdebpaheejlaaGreatDoorZa
import Derived.BigRegion
namespace Go.Proofs.YtngdebpaheejlaaGreatDoor
open Go.RowKit Go.Shelf
set_option linter.unusedSimpArgs false
set_option linter.unusedVariables false
/-- The blocks of Z that there are stay as they are. -/
structure KZ (Z : Nat → Prop) (W W' : World) : Prop where
  size : W.heap.size ≤ W'.heap.size
  block : ∀ k, k < W.heap.size → Z k → W'.heap[k]? = W.heap[k]?
theorem KZ.refl (Z : Nat → Prop) (W : World) : KZ Z W W := ⟨Nat.le_refl _, fun _ _ _ => rfl⟩
theorem KZ.trans {Z : Nat → Prop} {A B C : World} (h : KZ Z A B) (k : KZ Z B C) : KZ Z A C := ⟨Nat.le_trans h.size k.size, fun i hi hz => (k.block i (Nat.lt_of_lt_of_le hi h.size) hz).trans (h.block i hi hz)⟩
theorem KZ.put {Z : Nat → Prop} {l : Nat} (W : World) (o : Obj) (h : ¬ Z l) : KZ Z W (W.putObj l o) := ⟨by simp, fun k hk hz => World.putObj_heap_other (fun e => h (by first | (rw [← e]; exact hz) | (rw [e]; exact hz)))⟩
theorem KZ.mono {Z Y : Nat → Prop} {W W' : World} (h : KZ Z W W') (hY : ∀ k, Y k → Z k) : KZ Y W W' := ⟨h.size, fun k hk hy => h.block k hk (hY k hy)⟩
theorem KZ.of_below {Z : Nat → Prop} {W W' : World} (h : Below W.heap.size W W') : KZ Z W W' := ⟨h.size, fun k hk _ => h.block k hk⟩
theorem KZ.set {Z : Nat → Prop} {W W' : World} (h : KZ Z W W') {b : Nat} (hb : ¬ Z b) (i : Nat) (v : Value) : KZ Z W (W'.setCell ⟨b, i, none⟩ v) :=
  ⟨by simpa using h.size, fun k hk hz => (Below.heap_setCell W' ⟨b, i, none⟩ v k (fun e => hb (by subst e; exact hz))).trans (h.block k hk hz)⟩
theorem KZ.grow {Z : Nat → Prop} {W W' W2 : World} (h : KZ Z W W') (k : Below W'.heap.size W' W2) : KZ Z W W2 := h.trans (.of_below k)
/-- The contract of an iterator value made in w: blocks of Z, and those from B on, are kept by every round. -/
def SeqN {α : Type} (P : Program) (g : Nat) (lb : Array Value) (encs : α → Array Value) (Z : Nat → Prop) (L : List α) (w : World) : Prop :=
  ∀ (n l B : Nat) (J Jx : List α → World → Prop) (W : World), Below w.heap.size w W → B ≤ W.heap.size → OwnFrom W.heap.size J → OwnFrom W.heap.size Jx →
    (∀ m pre x W1, J pre W1 → pre ++ [x] <+: L → YieldAt Fence.wide m P l (encs x) W1 fun e W' => KZ (fun k => Z k ∨ B ≤ k) W1 W' ∧
      ((e = .returned (.bool true) ∧ J (pre ++ [x]) W') ∨ (e = .returned (.bool false) ∧ Jx (pre ++ [x]) W'))) →
    J [] W →
    CallsIn Fence.wide n P g (#[.func (.yield l) #[] #[]] ++ lb) W fun e W' => (∃ v, e = .returned v) ∧ (J L W' ∨ ∃ pre, pre <+: L ∧ Jx pre W')
/-- How a round's body may be left. -/
def endN {α : Type} (B : Nat) (Z : Nat → Prop) (I : List α → World → Prop) (Ix : Code → List α → World → Prop) (xs : List α) (W : World) : Exit → Act → World → Prop
  | .normal, _, W' => KZ (fun k => Z k ∨ B ≤ k) W W' ∧ I xs W'
  | .ret, _, W' => KZ (fun k => Z k ∨ B ≤ k) W W' ∧ Ix .ret xs W'
  | .exit i, _, W' => KZ (fun k => Z k ∨ B ≤ k) W W' ∧ Ix (.exit i) xs W'
  | .goto t, _, W' => KZ (fun k => Z k ∨ B ≤ k) W W' ∧ Ix (.goto t) xs W'
  | .panic _, _, _ => False
  | .outgrown, _, _ => False
theorem ownFrom_up {β : Type} {B B' : Nat} {I : β → World → Prop} (h : OwnFrom B I) (hB : B ≤ B') : OwnFrom B' I := fun s W W' row hs hg hr => h s W W' row hs hg (fun r e => ⟨Nat.le_trans hB (hr r e).1, (hr r e).2⟩)
theorem at_less {W W' : World} {row : Option Nat} {l k : Nat} {o : Obj} (h : W.heap[l]? = some o) (hg : W.grownBy W' row) (hr : ∀ r, row = some r → k ≤ r ∧ ∃ o : Obj, W.heap[r]? = some o ∧ o.isCells = false) (hl : l < k) : W'.heap[l]? = some o :=
  (hg.block l (Array.getElem?_eq_some_iff.1 h).1 (fun e => by have := (hr l e.symm).1; omega)).trans h
set_option maxHeartbeats 800000 in
theorem wp_rangeN {α : Type} {P : Program} {n : Nat} {g : Operand} {ps : Array Tmp} {assign body : Code} {Q : Exit → Act → World → Prop} {a : Act} {w : World} {gf : Nat} {lb : Array Value}
    (hg : a.eval g = .func (.func gf) #[] lb) (eg : ∀ args w, (callFunc gf args).run P w = .ok (.enter gf args) w)
    {encs : α → Array Value} {Z : Nat → Prop} {L : List α} {w0 : World} (hseq : SeqN P gf lb encs Z L w0) (hb0 : Below w0.heap.size w0 w) (hZ : ∀ b, Z b → b < w.heap.size) (hps : ∀ x, (encs x).size = ps.size)
    (I : List α → World → Prop) (Ix : Code → List α → World → Prop) (hI : OwnFrom w.heap.size I) (hIx : ∀ c, OwnFrom w.heap.size (Ix c)) (h0 : I [] w)
    (hround : ∀ (l m : Nat) (pre : List α) (x : α) (W : World), pre ++ [x] <+: L →
      assign.wpIn (Fence.wide.inRound l) m P (Exit.then (fun a₁ W₁ => W₁ = W ∧ ∀ W', I pre W' → body.wpIn (Fence.wide.inRound l) m P (endN w.heap.size Z I Ix (pre ++ [x]) W') a₁ W') (fun _ _ _ => False)) { tmps := (ps.zip (encs x)).foldl (fun t (p, v) => t.setIfInBounds p v) a.tmps, defers := [] } W)
    (hdone : ∀ (D : Nat) (W : World), w.heap.size ≤ D → I L W → W.heap[D]? = some (.deferred (some [])) → Q .normal { a with defers := { target := .collected D, args := #[] } :: a.defers } W)
    (hstop : ∀ (D : Nat) (c : Code) (pre : List α) (W : World), w.heap.size ≤ D → pre <+: L → Ix c pre W → W.heap[D]? = some (.deferred (some [])) → c.wpIn Fence.wide n P Q { a with defers := { target := .collected D, args := #[] } :: a.defers } W) :
    (Code.rangeFunc g ps assign body).wpIn Fence.wide n P Q a w := by
  refine wpIn_rangeFunc ?_
  intro fn hfn
  obtain ⟨rec, hrec⟩ : ∃ rec : LoopState → Option Code → Loop, rec = fun st pe => { state := st, pending := pe, fn, tmps := a.tmps, params := ps, assign, body, defers := w.heap.size } := ⟨_, rfl⟩
  obtain ⟨s, hs⟩ : ∃ s, s = w.heap.size := ⟨_, rfl⟩
  obtain ⟨W1, hW1⟩ : ∃ W1, (w.alloc (.deferred (some []))).alloc (.loop (rec .ready none)) = W1 := ⟨_, rfl⟩
  have z1 : W1.heap.size = s + 2 := by rw [← hW1, hs]; simp
  have hL1 : W1.heap[s + 1]? = some (.loop (rec .ready none)) := by
    rw [← hW1, hs]; have := World.alloc_heap_new (w.alloc (.deferred (some []))) (.loop (rec .ready none)); rwa [World.size_alloc] at this
  have hK1 : W1.heap[s]? = some (.deferred (some [])) := by
    rw [← hW1, hs]; exact (Below.heap_alloc _ _ _ (by simp)).trans (World.alloc_heap_new w _)
  have hI1 : I [] W1 := by rw [← hW1]; exact hI.alloc _ (hI.alloc _ h0)
  have hb1 : Below w0.heap.size w0 W1 := by
    rw [← hW1]; exact hb0.trans ((((Below.refl _ w).alloc (Nat.le_refl _) _).alloc (by simp) _).mono hb0.size)
  refine ⟨s + 1, [{ target := .collected s, args := #[] }], W1, { target := .fn (.func gf) lb, args := #[.func (.yield (s + 1)) #[] #[]] }, W1, gf,
    #[.func (.yield (s + 1)) #[] #[]] ++ lb, W1, ?_, ?_, ?_, ?_, fun h => (by cases h), ?_⟩
  · rw [← hW1, hrec, hs]; exact run_enterLoop_outer _ _ _ _ _
  · simp only [resolve, hg]
    simp [go_sem]
  · intro f' hf'; trivial
  · simp [invoke, go_sem, eg]
  · refine (hseq (n - 1) (s + 1) (s + 2)
      (fun pre W => I pre W ∧ W.heap[s + 1]? = some (.loop (rec .ready none)) ∧ W.heap[s]? = some (.deferred (some [])))
      (fun pre W => ∃ c, Ix c pre W ∧ W.heap[s + 1]? = some (.loop (rec .done (some c))) ∧ W.heap[s]? = some (.deferred (some [])))
      W1 hb1 (by omega)
      (fun p A B row h hg' hr => ⟨ownFrom_up hI (B' := W1.heap.size) (by omega) p A B row h.1 hg' hr, at_less h.2.1 hg' hr (by omega), at_less h.2.2 hg' hr (by omega)⟩)
      (fun p A B row ⟨c, hc, hl, hk⟩ hg' hr => ⟨c, ownFrom_up (hIx c) (B' := W1.heap.size) (by omega) p A B row hc hg' hr, at_less hl hg' hr (by omega), at_less hk hg' hr (by omega)⟩)
      ?_ ⟨hI1, hL1, hK1⟩).mono ?_
    · rintro m pre x W ⟨hi, hl, hk⟩ hlen
      have hlt : s + 1 < W.heap.size := (Array.getElem?_eq_some_iff.1 hl).1
      have hy := run_yield (P := P) (args := encs x) hl (by rw [hrec]; exact hps x)
      rw [hrec] at hy
      refine ⟨fn, _, assign, body, hy, roundIn_of_wpIn hfn (wpIn_mono (hround _ _ pre x W hlen) ?_)⟩
      intro e0 a0 w0' h0'
      cases e0 <;> try exact h0'.elim
      obtain ⟨e1, hb0'⟩ := h0'
      rw [e1]
      refine ⟨_, run_beginRound hl (by rw [hrec]), ?_⟩
      obtain ⟨W2, hW2⟩ : ∃ W2, W2 = W.putObj (s + 1) (.loop { rec .ready none with state := .busy }) := ⟨_, rfl⟩
      rw [← hW2]
      have hl2 : W2.heap[s + 1]? = some (.loop { rec .ready none with state := .busy }) := by rw [hW2]; exact World.putObj_heap_same hlt
      have hk2 : W2.heap[s]? = some (.deferred (some [])) := by rw [hW2]; exact (World.putObj_heap_other (by omega)).trans hk
      have n1 : ¬ (Z (s + 1) ∨ s + 2 ≤ s + 1) := fun h => by
        rcases h with h | h
        · have := hZ _ h; omega
        · omega
      have k2 : KZ (fun k => Z k ∨ s + 2 ≤ k) W W2 := by rw [hW2]; exact KZ.put _ _ n1
      have hi2 : I pre W2 := by rw [hW2]; exact hI.putObj _ hi (by omega) hl rfl
      refine wpIn_mono (hb0' W2 hi2) ?_
      have fin : ∀ (jump : Option Code) (W3 : World), KZ (fun k => Z k ∨ w.heap.size ≤ k) W2 W3 → ∃ W4, (Instr.endRound (s + 1) jump).run P W3 = .ok (.bool jump.isNone) W4 ∧ KZ (fun k => Z k ∨ s + 2 ≤ k) W W4 ∧
          W4 = W3.putObj (s + 1) (.loop (rec (if jump.isNone then .ready else .done) jump)) ∧ W3.heap[s + 1]? = some (.loop { rec .ready none with state := .busy }) ∧
          W4.heap[s + 1]? = some (.loop (rec (if jump.isNone then .ready else .done) jump)) ∧ W4.heap[s]? = some (.deferred (some [])) := fun jump W3 hk3 => by
        have hl3 := (hk3.block _ (Array.getElem?_eq_some_iff.1 hl2).1 (.inr (by omega))).trans hl2
        have hkk := (hk3.block _ (Array.getElem?_eq_some_iff.1 hk2).1 (.inr (by omega))).trans hk2
        have hlt3 := (Array.getElem?_eq_some_iff.1 hl3).1
        have := run_endRound (P := P) jump hl3
        rw [hrec] at this hl3 ⊢
        exact ⟨_, this, (k2.trans (hk3.mono (fun k h => by rcases h with h | h; exact .inl h; exact .inr (by omega)))).trans (KZ.put _ _ n1), rfl, hl3, World.putObj_heap_same hlt3, (World.putObj_heap_other (by omega)).trans hkk⟩
      rintro e a3 W3 hp
      cases e with
      | normal =>
        obtain ⟨hk3, hi3⟩ := hp
        obtain ⟨W4, hr, hb4, rfl, hl3, hl4, hk4⟩ := fin none W3 hk3
        exact ⟨_, _, hr, hb4, .inl ⟨rfl, hI.putObj _ hi3 (by omega) hl3 rfl, hl4, hk4⟩⟩
      | ret =>
        obtain ⟨hk3, hi3⟩ := hp
        obtain ⟨W4, hr, hb4, rfl, hl3, hl4, hk4⟩ := fin (some .ret) W3 hk3
        exact ⟨_, _, hr, hb4, .inr ⟨rfl, .ret, (hIx _).putObj _ hi3 (by omega) hl3 rfl, hl4, hk4⟩⟩
      | exit id =>
        obtain ⟨hk3, hi3⟩ := hp
        obtain ⟨W4, hr, hb4, rfl, hl3, hl4, hk4⟩ := fin (some (.exit id)) W3 hk3
        exact ⟨_, _, hr, hb4, .inr ⟨rfl, .exit id, (hIx _).putObj _ hi3 (by omega) hl3 rfl, hl4, hk4⟩⟩
      | goto t =>
        obtain ⟨hk3, hi3⟩ := hp
        obtain ⟨W4, hr, hb4, rfl, hl3, hl4, hk4⟩ := fin (some (.goto t)) W3 hk3
        exact ⟨_, _, hr, hb4, .inr ⟨rfl, .goto t, (hIx _).putObj _ hi3 (by omega) hl3 rfl, hl4, hk4⟩⟩
      | panic ch => exact hp.elim
      | outgrown => exact hp.elim
    · rintro e W2 ⟨⟨v, rfl⟩, (⟨hi, hl, hk⟩ | ⟨pre, hSp, c, hi, hl, hk⟩)⟩
      · have := run_endLoop (P := P) hl (by rw [hrec]; simp)
        rw [hrec] at this
        rw [hrec] at hl
        exact ⟨none, _, this, hdone s _ (by omega) (hI.putObj _ hi (by omega) hl rfl) ((World.putObj_heap_other (by omega)).trans hk)⟩
      · have := run_endLoop (P := P) hl (by rw [hrec]; simp)
        rw [hrec] at this
        rw [hrec] at hl
        exact ⟨some c, _, this, hstop s c pre _ (by omega) hSp ((hIx c).putObj _ hi (by omega) hl rfl) ((World.putObj_heap_other (by omega)).trans hk)⟩
/-- An operation that is no defer is in a round what it is elsewhere. -/
def noDefer (o : Oper) : Bool := match o.op with
  | .defer _ => false
  | _ => true
section
variable {F : Fence} {n l : Nat} {P : Program} {ops : Array Oper} {Q : Exit → Act → World → Prop} {md : Region.Mode}
theorem op_round (hnd : ops.all noDefer = true) {i : Nat} {K : Act → World → Prop} {a : Act} {w : World} (h : wpOpIn F n P ops Q i K a w) : wpOpIn (F.inRound l) n P ops Q i K a w := by
  unfold wpOpIn at *
  cases ho : ops[i]? with
  | none => simp only [ho] at h ⊢; exact h
  | some o =>
    simp only [ho] at h ⊢
    have hd : ∀ c, o.op ≠ .defer c := fun c e => by
      have := Array.all_eq_true.1 hnd i (Array.getElem?_eq_some_iff.1 ho).1
      rw [(Array.getElem?_eq_some_iff.1 ho).2] at this
      unfold noDefer at this
      rw [e] at this
      cases this
    by_cases hw : Region.wanted o (yielded ops a.tmps) = true
    · simp only [hw, if_true] at h ⊢
      unfold Oper.wpIn at *
      refine ⟨h.1, ?_⟩
      have h2 := h.2
      rw [Oper.semAt_eq _ _ _ hd] at h2 ⊢
      generalize (execOp a.eval o).run P w = r at h2 ⊢
      cases r with
      | ok x w' => cases x <;> exact h2
      | halt x w' => cases x <;> exact h2
    · simp only [hw] at h ⊢
      exact h
theorem any_round (hnd : ops.all noDefer = true) : ∀ (fuel : Nat) (listed : Array Bool) (a : Act) (w : World), wpAnyIn F n P md ops Q fuel listed a w → wpAnyIn (F.inRound l) n P md ops Q fuel listed a w
  | 0, _, _, _, h => h
  | fuel + 1, listed, a, w, h => ⟨h.1, fun i hi => op_round hnd (wpOpIn_mono (fun a' w' q => any_round hnd fuel _ a' w' q) (h.2 i hi))⟩
end
end Go.Proofs.YtngdebpaheejlaaGreatDoor
namespace Go.Proofs.YtngdebpaheejlaaGreatDoor
open Go.RowKit
set_option linter.unusedSimpArgs false
set_option linter.unusedVariables false
/-- An operation that looks at no memory. -/
def blindB (o : Oper) : Bool := match o.op with
  | .move _ => true
  | .extract _ _ => true
  | _ => false
/-- Does operation n wait for k, at once or through others? -/
def reachB (ops : Array Oper) (n : Nat) : Nat → Nat → Bool
  | 0, _ => false
  | f + 1, k => (List.range ops.size).any fun j => Region.waitsFor .any ops j k && (j == n || reachB ops n f j)
def headB (ops : Array Oper) (n : Nat) : Nat → Nat → Array Bool → Bool
  | 0, k, listed => decide (k = n) && decide (Region.ready .any ops listed = [n]) && Region.lexFrom .any ops (ops.size - n - 1) (n + 1) (listed.setIfInBounds n true)
  | f + 1, k, listed => (Region.ready .any ops listed).contains k && Region.free .any ops listed k && decide (k < n) && (((ops[k]?).map blindB).getD false || reachB ops n n k) && headB ops n f (k + 1) (listed.setIfInBounds k true)
def midB (ops : Array Oper) (n : Nat) : Bool := Region.noSelect ops && decide (n < ops.size) && headB ops n n 0 (Array.replicate ops.size false)
section
variable {P : Program} {ops : Array Oper} {C : World → Prop} {n : Nat}
/-- What has come up holds all that it waits for. -/
structure Clo (ops : Array Oper) (listed : Array Bool) : Prop where
  size : listed.size = ops.size
  up : ∀ j oj, ops[j]? = some oj → listed.getD j false = true → ∀ e ∈ oj.after, Region.binds .any e = true → listed.getD e.on false = true
theorem Clo.set {i : Nat} {listed : Array Bool} (h : Clo ops listed) (hi : i ∈ Region.ready .any ops listed) : Clo ops (listed.setIfInBounds i true) := by
  obtain ⟨_, oi, hoi, hall⟩ := mem_ready.1 hi
  refine ⟨by simp [h.size], fun j oj hj hl e he hb => ?_⟩
  by_cases hij : i = j
  · subst hij
    have : oj = oi := Option.some.inj (hj.symm.trans hoi)
    subst this
    exact getD_set_true (hall e he hb)
  · rw [getD_set_ne false hij] at hl
    exact getD_set_true (h.up j oj hj hl e he hb)
theorem reach_waits {listed : Array Bool} (hc : Clo ops listed) : ∀ (f k : Nat), reachB ops n f k = true → listed.getD k true = false → n ∉ Region.ready .any ops listed := by
  intro f
  induction f with
  | zero => intro k h; simp [reachB] at h
  | succ f ih =>
    intro k h hk hr
    simp only [reachB, List.any_eq_true, Bool.and_eq_true, Bool.or_eq_true, beq_iff_eq] at h
    obtain ⟨j, hjs, hw, hj⟩ := h
    obtain ⟨oj, hoj, e, he, hb, hon⟩ := Region.waitsFor_spec hw
    rcases hj with rfl | hj
    · obtain ⟨_, o2, ho2, hall⟩ := mem_ready.1 hr
      have : o2 = oj := Option.some.inj (ho2.symm.trans hoj)
      subst this
      have h2 := hall e he hb
      rw [hon, getD_both hk] at h2
      cases h2
    · cases hl : listed.getD j false with
      | true =>
        have h2 := hc.up j oj hoj hl e he hb
        rw [hon, getD_both hk] at h2
        cases h2
      | false =>
        exact ih j hj (getD_in (by rw [hc.size]; exact List.mem_range.1 hjs) hl) hr
/-- All orders, as long as the one that turns the world has not come up. -/
def wpMid (P : Program) (ops : Array Oper) (C : World → Prop) (R : Exit → Act → World → Prop) (n : Nat) : Nat → Array Bool → Act → Prop
  | 0, _, _ => False
  | f + 1, listed, a => Region.ready .any ops listed ≠ [] ∧ ∀ i ∈ Region.ready .any ops listed,
      if i = n then ∀ w, C w → wpOp P ops R n (wpAny P .any ops R f (listed.setIfInBounds n true)) a w else qOp P ops C i (wpMid P ops C R n f (listed.setIfInBounds i true)) a
theorem mid_any {R : Exit → Act → World → Prop} : ∀ (f : Nat) (listed : Array Bool) (a : Act) (w : World), C w → wpMid P ops C R n f listed a → wpAny P .any ops R f listed a w
  | 0, _, _, _, _, h => h.elim
  | f + 1, listed, a, w, hw, h => ⟨fun h0 => absurd h0 h.1, fun i hi => by
      have h1 := h.2 i hi
      by_cases hin : i = n
      · subst hin
        simp only [if_true] at h1
        exact h1 w hw
      · simp only [hin, if_false] at h1
        exact wpOp_of_qOp hw (fun a' w' hw' hh => mid_any f _ a' w' hw' hh) h1⟩
theorem blind_all {o : Oper} {a : Act} {v : Value} {w : World} (hb : blindB o = true) (h : o.quietAt P a C w v) : ∀ w', (execOp a.eval o).run P w' = .ok (.value v) w' := by
  obtain ⟨dst, op, type, pos, after, guard⟩ := o
  unfold Oper.quietAt at h
  cases op <;> simp only [blindB, Bool.false_eq_true] at hb
  case move x =>
    simp only [execOp] at h ⊢
    intro w'
    have h1 : w = w ∧ a.eval x = v := h
    rw [← h1.2]; rfl
  case extract t ix =>
    simp only [execOp] at h ⊢
    unfold Instr.extract at h ⊢
    generalize a.eval t = y at h ⊢
    intro w'
    cases y
    case tuple vs =>
      simp only at h ⊢
      cases hv : vs[ix]? with
      | none => simp [hv] at h; exact h.elim
      | some u =>
        simp only [hv] at h ⊢
        have h1 : w = w ∧ u = v := h
        rw [← h1.2]; rfl
    all_goals exact h.elim
theorem mid_first {R : Exit → Act → World → Prop} {i : Nat} {oi : Oper} {v : Value} (hi : ops[i]? = some oi) (hin : i ≠ n) (hsel : ∀ (j : Nat) (o : Oper) cs b, ops[j]? = some o → o.op ≠ .select cs b)
    (hR : ∀ c a w, ¬ R (.panic c) a w) :
    ∀ (f : Nat) (listed : Array Bool) (a : Act), Clo ops listed →
      (∀ j oj, ops[j]? = some oj → j ≠ i → listed.getD j true = false → (∀ e ∈ oj.after, Region.binds .any e = true → e.on ≠ i) → oi.apart ops oj = true) →
      i ∈ Region.ready .any ops listed → YieldsIn P ops C oi v a → (Yields P ops oi v a ∨ reachB ops n n i = true) →
      wpMid P ops C R n f (listed.setIfInBounds i true) (a.put oi.dst v) → wpMid P ops C R n (f + 1) listed a := by
  intro f
  induction f with
  | zero => intro listed a _ _ _ _ _ H; exact H.elim
  | succ f ih =>
    intro listed a hc hfree hr hy hk H
    refine ⟨fun h => (by rw [h] at hr; cases hr), fun j hj => ?_⟩
    by_cases hji : j = i
    · subst hji
      simp only [hin, if_false]
      exact hy.qOp hi H
    · have h1 := H.2 j (ready_mono hj hji)
      obtain ⟨hjun, oj, hoj, hall⟩ := mem_ready.1 hj
      have hiun := (mem_ready.1 hr).1
      have hnot : ∀ e ∈ oj.after, Region.binds .any e = true → e.on ≠ i := fun e he hb heq => by
        have h1 := hall e he hb
        rw [heq, getD_both hiun] at h1
        cases h1
      have hfree' : ∀ k ok, ops[k]? = some ok → k ≠ i → (listed.setIfInBounds j true).getD k true = false →
          (∀ e ∈ ok.after, Region.binds .any e = true → e.on ≠ i) → oi.apart ops ok = true := fun k ok hk hki hun hno => by
        refine hfree k ok hk hki ?_ hno
        by_cases hjk : j = k
        · subst hjk; exact hjun
        · rw [getD_set_ne true hjk] at hun; exact hun
      by_cases hjn : j = n
      · subst hjn
        rcases hk with hk | hk
        · simp only [if_true] at h1 ⊢
          intro w hw
          have h2 := wpOp_put hoj (hfree j oj hoj hji hjun hnot) (fun cs b => hsel i oi cs b hi) (fun cs b => hsel j oj cs b hoj) (fun c a w hp => absurd hp (hR _ _ _)) hk (h1 w hw)
          refine wpOp_mono (fun a' w' h3 => wpAny_first hi hsel (fun c a w hp => absurd hp (hR _ _ _)) f (listed.setIfInBounds j true) a' w' hfree' (ready_mono hr (Ne.symm hji)) h3.1 ?_) h2
          rw [Array.setIfInBounds_comm _ _ hji]
          exact h3.2
        · exact absurd hj (reach_waits hc j i hk hiun)
      · simp only [hjn, if_false] at h1 ⊢
        have h2 := qOp_put hoj (hfree j oj hoj hji hjun hnot) (fun cs b => hsel i oi cs b hi) (fun cs b => hsel j oj cs b hoj) hy h1
        have hy2 : qOp P ops C j (fun a' => (YieldsIn P ops C oi v a' ∧ wpMid P ops C R n f ((listed.setIfInBounds i true).setIfInBounds j true) (a'.put oi.dst v)) ∧ (Yields P ops oi v a' ∨ reachB ops n n i = true)) a := by
          obtain ⟨h4, h5, h6⟩ := Oper.apart_spec (hfree j oj hoj hji hjun hnot)
          have keep : ∀ u, (Yields P ops oi v a ∨ reachB ops n n i = true) → (Yields P ops oi v (a.put oj.dst u) ∨ reachB ops n n i = true) := fun u h => h.imp (fun h => h.of_same (execOp_put oi (fun cs b => hsel i oi cs b hi) a oj.dst u h6) (wanted_put oi a oj.dst u h6)) id
          unfold qOp at h2 ⊢
          simp only [hoj] at h2 ⊢
          split at h2
          · rename_i hw
            simp only [hw, if_true]
            obtain ⟨u, hu, hn⟩ := h2
            exact ⟨u, hu, hn, keep u hk⟩
          · rename_i hw
            simp only [hw]
            exact ⟨h2, keep _ hk⟩
        refine qOp_mono (fun a' h3 => ih (listed.setIfInBounds j true) a' (hc.set hj) hfree' (ready_mono hr (Ne.symm hji)) h3.1.1 h3.2 ?_) hy2
        rw [Array.setIfInBounds_comm _ _ hji]
        exact h3.1.2
theorem Oper.wp_both {Q Q' : Exit → Act → World → Prop} {o : Oper} {a : Act} {w : World} {K K' : Act → World → Prop} (h : ∀ a w, K a w → K' a w) (hQ : ∀ e a w, e ≠ .normal → Q e a w → Q' e a w)
    (hh : o.wp P a w K Q) : o.wp P a w K' Q' := by
  unfold Oper.wp at *
  generalize (execOp a.eval o).run P w = r at *
  cases r with
  | ok m w' =>
    cases m <;> simp only [Oper.upon] at hh ⊢
    case value u => exact h _ _ hh
    case skip => exact h _ _ hh
    case defer d => exact h _ _ hh
    case enter f args =>
      refine Calls.mono hh fun e w'' he => ?_
      cases e with
      | returned u => exact h _ _ he
      | panicked c => exact hQ _ _ _ (by simp) he
      | outgrown => obtain ⟨a0, w0, h0⟩ := he; exact ⟨a0, w0, hQ _ _ _ (by simp) h0⟩
    case row row args => exact Rows.mono hh fun u w'' he => h _ _ he
  | halt x w' =>
    cases x <;> simp only [Oper.upon] at hh ⊢
    case panic u => exact hQ _ _ _ (by simp) hh
theorem mid_lex {R : Exit → Act → World → Prop} {T : Act → Prop} (hs : Region.noSelect ops = true) (hR : ∀ c a w, ¬ R (.panic c) a w) (hCi : ∃ w, C w)
    (hT : ∀ listed a, Region.ready .any ops listed = [n] → Region.lexFrom .any ops (ops.size - n - 1) (n + 1) (listed.setIfInBounds n true) = true → T a →
      ∀ w, C w → wpOp P ops R n (wpAny P .any ops R (ops.size - n - 1) (listed.setIfInBounds n true)) a w) :
    ∀ (l : List Oper) (k : Nat) (listed : Array Bool) (a : Act), (∀ j, j < l.length → l[j]? = ops[k + j]?) → Clo ops listed →
    headB ops n l.length k listed = true → wpQuiet P ops C T l a → wpMid P ops C R n (l.length + 1 + (ops.size - n - 1)) listed a
  | [], k, listed, a, _, hc, hB, h => by
    simp only [List.length_nil, headB, Bool.and_eq_true, decide_eq_true_eq] at hB
    obtain ⟨⟨_, hr⟩, hl⟩ := hB
    rw [show ([] : List Oper).length + 1 + (ops.size - n - 1) = (ops.size - n - 1) + 1 by simp; omega]
    refine ⟨by rw [hr]; simp, fun i hi => ?_⟩
    rw [hr] at hi
    have : i = n := by simpa using hi
    subst this
    simp only [if_true]
    exact hT listed a hr hl h
  | o :: l, k, listed, a, hl, hc, hB, h => by
    have h0 : ops[k]? = some o := by simpa using (hl 0 (by simp)).symm
    simp only [List.length_cons, headB, Bool.and_eq_true, Bool.or_eq_true, decide_eq_true_eq] at hB
    obtain ⟨⟨⟨⟨hr, hf⟩, hkn⟩, hk⟩, hB'⟩ := hB
    have hr' : k ∈ Region.ready .any ops listed := by simpa using hr
    have hst : qOp P ops C k (wpQuiet P ops C T l) a := by unfold qOp; simp only [h0]; exact h
    obtain ⟨v, hy, hK⟩ := yieldsIn_of_qOp h0 hst
    obtain ⟨w0, hw0⟩ := hCi
    have hk' : Yields P ops o v a ∨ reachB ops n n k = true := by
      refine hk.imp (fun hb => ?_) id
      simp only [h0, Option.map_some, Option.getD_some] at hb
      rcases hy with ⟨hw, hv⟩ | ⟨hw, hv⟩
      · exact .inl ⟨hw, blind_all hb (hv w0 hw0)⟩
      · exact .inr ⟨hw, hv⟩
    have e1 : (o :: l).length + 1 + (ops.size - n - 1) = (l.length + 1 + (ops.size - n - 1)) + 1 := by simp only [List.length_cons]; omega
    rw [e1]
    exact mid_first h0 (by omega) (Region.noSelect_spec hs) hR _ listed a hc (Region.free_spec h0 hf) hr' hy hk'
      (mid_lex hs hR ⟨w0, hw0⟩ hT l (k + 1) _ _ (fun j hj => by have := hl (j + 1) (by simp; omega); simpa [Nat.add_assoc, Nat.add_comm 1 j] using this) (hc.set hr') hB' hK)
end
theorem wp_region_mid {P : Program} {id : Nat} {Q : Exit → Act → World → Prop} {a : Act} {w : World} {l : List Oper} (C : World → Prop) (n : Nat) (hm : P.follows .mixedOrders = true) (hB : midB l.toArray n = true) (hC : C w.drew)
    (h : wpQuiet P l.toArray C (fun a' => ∀ V, C V → wpList P l.toArray (fun e a2 w2 => e = .normal ∧ wpQuiet P l.toArray (fun x => x = w2) (fun a3 => Q .normal a3 w2) (l.drop (n + 1)) a2) ((l.drop n).take 1) a' V) (l.take n) a) :
    (Code.region id l.toArray true).wp P Q a w := by
  simp only [midB, Bool.and_eq_true, decide_eq_true_eq] at hB
  obtain ⟨⟨hsel, hn⟩, hhead⟩ := hB
  have hn' : n < l.length := by simpa using hn
  have htl : (l.take n).length = n := by simp; omega
  refine Code.wp_mono (Q := fun e a w => e = .normal ∧ Q .normal a w) (fun e a w q => by obtain ⟨rfl, q⟩ := q; exact q) ?_
  refine wp_region_any hm ?_
  have inv0 : Clo l.toArray (Array.replicate l.toArray.size false) := ⟨by simp, fun j oj _ hl => (by rw [getD_replicate_false] at hl; cases hl)⟩
  have H := mid_lex (P := P) (R := fun e a w => e = .normal ∧ Q .normal a w) (n := n) hsel (fun c a w hp => by cases hp.1) ⟨w.drew, hC⟩ (T := fun a' => ∀ V, C V → wpList P l.toArray (fun e a2 w2 => e = .normal ∧ wpQuiet P l.toArray (fun x => x = w2) (fun a3 => Q .normal a3 w2) (l.drop (n + 1)) a2) ((l.drop n).take 1) a' V)
    (fun listed a' hr hl hT V hV => by
      have h1 := hT V hV
      have ho : l.toArray[n]? = some l[n] := by simp [hn']
      have hd : (l.drop n).take 1 = [l[n]] := by rw [List.drop_eq_getElem_cons hn']; rfl
      rw [hd] at h1
      have fin : ∀ a2 w2, wpQuiet P l.toArray (fun x => x = w2) (fun a3 => Q .normal a3 w2) (l.drop (n + 1)) a2 → wpAny P .any l.toArray (fun e a w => e = .normal ∧ Q .normal a w) (l.toArray.size - n - 1) (listed.setIfInBounds n true) a2 w2 := by
        intro a2 w2 hq
        have hlen : (l.drop (n + 1)).length = l.toArray.size - n - 1 := by simp; omega
        have := wpAnyQ_lex (C := fun x => x = w2) (md := .any) hsel (l.drop (n + 1)) (n + 1) (listed.setIfInBounds n true) a2 (fun j => by simp [List.getElem?_drop]) (by rw [hlen]; exact hl) hq
        rw [hlen] at this
        exact wpAny_of_quiet (C := fun x => x = w2) (Q := fun a3 => Q .normal a3 w2) (fun a3 w3 hw3 hh => by cases hw3; exact ⟨rfl, hh⟩) _ _ _ _ rfl this
      unfold wpOp
      simp only [ho]
      simp only [wpList] at h1
      split at h1
      · rename_i hw
        simp only [hw, if_true]
        rcases h1 with h1 | ⟨h1, h2⟩
        · exact .inl (Oper.wp_both (fun a2 w2 hh => fin a2 w2 hh.2) (fun e a w hne hh => absurd hh.1 hne) h1)
        · obtain ⟨a0, w0, h0⟩ := h2
          cases h0.1
      · rename_i hw
        simp only [hw]
        exact fin _ _ h1.2)
    (l.take n) 0 _ a (fun j hj => by
      have hj' : j < n := by rw [htl] at hj; exact hj
      simp [hj']) inv0 (by rw [htl]; exact hhead) h
  have := mid_any (P := P) _ _ _ _ hC H
  rw [htl, show n + 1 + (l.toArray.size - n - 1) = l.toArray.size by simp; omega] at this
  exact this
/-- The same over the worlds that grew out of one. -/
theorem wp_region_grows_mid {P : Program} {id : Nat} {Q : Exit → Act → World → Prop} {a : Act} {w : World} {l : List Oper} (n : Nat) (hm : P.follows .mixedOrders = true) (hB : midB l.toArray n = true)
    (h : wpQuiet P l.toArray (fun w' => ∃ V : Gr w, w' = V.1) (fun a' => ∀ V : Gr w, wpList P l.toArray (fun e a2 w2 => e = .normal ∧ wpQuiet P l.toArray (fun x => x = w2) (fun a3 => Q .normal a3 w2) (l.drop (n + 1)) a2) ((l.drop n).take 1) a' V.1) (l.take n) a) :
    (Code.region id l.toArray true).wp P Q a w :=
  wp_region_mid (C := fun w' => ∃ V : Gr w, w' = V.1) n hm hB ⟨⟨w.drew, (Below.refl _ _).drew⟩, rfl⟩ (by
    have e : (fun a' => ∀ V, (∃ U : Gr w, V = U.1) → wpList P l.toArray (fun e a2 w2 => e = .normal ∧ wpQuiet P l.toArray (fun x => x = w2) (fun a3 => Q .normal a3 w2) (l.drop (n + 1)) a2) ((l.drop n).take 1) a' V)
        = (fun a' => ∀ V : Gr w, wpList P l.toArray (fun e a2 w2 => e = .normal ∧ wpQuiet P l.toArray (fun x => x = w2) (fun a3 => Q .normal a3 w2) (l.drop (n + 1)) a2) ((l.drop n).take 1) a' V.1) := by
      funext a'
      exact propext ⟨fun h V => h _ ⟨V, rfl⟩, fun h V ⟨U, hU⟩ => by rw [hU]; exact h U⟩
    rw [e]
    exact h)
end Go.Proofs.YtngdebpaheejlaaGreatDoor
namespace Go.Proofs.YtngdebpaheejlaaGreatDoor
open Go.RowKit
set_option linter.unusedSimpArgs false
set_option linter.unusedVariables false
theorem has_made {w : World} {xs : Array Value} {t : TypeId} {b : Nat} (hb : b = w.heap.size) : Has (w.alloc (.cells xs t)) b t xs := by subst hb; exact Has.new _ _ _
theorem Chg.setIn {S : Nat → Prop} {w w' : World} (h : Chg S w w') {b : Nat} (hb : w.heap.size ≤ b) (i : Nat) (v : Value) : Chg S w (w'.setCell ⟨b, i, none⟩ v) :=
  ⟨h.os, h.tape, h.output, by simpa using h.size, fun k hk hn => (Below.heap_setCell w' ⟨b, i, none⟩ v k (by show k ≠ b; omega)).trans (h.block k hk hn)⟩
theorem Has.chg {S : Nat → Prop} {w w' : World} {b : Nat} {t : TypeId} {xs : Array Value} (h : Has w b t xs) (hc : Chg S w w') (hn : ¬ S b) : Has w' b t xs := (hc.block b h.lt hn).trans h
theorem GMap.chg {S : Nat → Prop} {P : Program} {w w' : World} {K : TypeId} {b n : Nat} {M : Lit → Option Value} (h : GMap P w K b n M) (hc : Chg S w w') (hn : ¬ S b) : GMap P w' K b n M := h.of_block (hc.block b h.lt hn)
end Go.Proofs.YtngdebpaheejlaaGreatDoor
namespace Go.Proofs.YtngdebpaheejlaaGreatDoor
open Go.RowKit Go.Shelf
set_option linter.unusedSimpArgs false
set_option linter.unusedVariables false
/-- A loop's record, or its list of what is put off. -/
def loopy : Obj → Bool
  | .deferred _ => true
  | .loop _ => true
  | _ => false
/-- The blocks of Z, and loops' records from B on, stay as they are. -/
structure KB (B : Nat) (Z : Nat → Prop) (W W' : World) : Prop where
  size : W.heap.size ≤ W'.heap.size
  block : ∀ k, k < W.heap.size → (Z k ∨ (B ≤ k ∧ ∃ o, W.heap[k]? = some o ∧ loopy o = true)) → W'.heap[k]? = W.heap[k]?
theorem KB.refl (B : Nat) (Z : Nat → Prop) (W : World) : KB B Z W W := ⟨Nat.le_refl _, fun _ _ _ => rfl⟩
theorem KB.trans {D : Nat} {Z : Nat → Prop} {A B C : World} (h : KB D Z A B) (k : KB D Z B C) : KB D Z A C := ⟨Nat.le_trans h.size k.size, fun i hi hz => by
  have e := h.block i hi hz
  exact (k.block i (Nat.lt_of_lt_of_le hi h.size) (hz.imp id fun ⟨q, o, r, t⟩ => ⟨q, o, e.trans r, t⟩)).trans e⟩
theorem KB.kz {B : Nat} {Z : Nat → Prop} {W W' : World} (h : KB B Z W W') : KZ Z W W' := ⟨h.size, fun k hk hz => h.block k hk (.inl hz)⟩
theorem KB.up {B B' : Nat} {Z : Nat → Prop} {W W' : World} (h : KB B Z W W') (hB : B ≤ B') : KB B' Z W W' := ⟨h.size, fun k hk hz => h.block k hk (hz.imp id fun ⟨q, r⟩ => ⟨Nat.le_trans hB q, r⟩)⟩
theorem KB.put {B : Nat} {Z : Nat → Prop} {l : Nat} (W : World) (o : Obj) (h : ¬ Z l) (hB : l < B) : KB B Z W (W.putObj l o) := ⟨by simp, fun k hk hz => World.putObj_heap_other (fun e => by
  subst_vars
  rcases hz with hz | ⟨hz, _⟩
  · exact h hz
  · omega)⟩
theorem KB.of_below {B : Nat} {Z : Nat → Prop} {W W' : World} (h : Below W.heap.size W W') : KB B Z W W' := ⟨h.size, fun k hk _ => h.block k hk⟩
theorem KB.set {B : Nat} {Z : Nat → Prop} {W W' : World} (h : KB B Z W W') {b : Nat} (hb : ¬ Z b) {t : TypeId} {xs : Array Value} (hx : Has W' b t xs) (i : Nat) (v : Value) : KB B Z W (W'.setCell ⟨b, i, none⟩ v) :=
  h.trans ⟨by simp, fun k hk hz => Below.heap_setCell W' ⟨b, i, none⟩ v k (fun e => by
    have e' : k = b := e
    subst e'
    rcases hz with hz | ⟨_, o, q, r⟩
    · exact hb hz
    · unfold Has at hx
      rw [hx] at q
      cases q
      cases r)⟩
theorem KB.grow {B : Nat} {Z : Nat → Prop} {W W' W2 : World} (h : KB B Z W W') (k : Below W'.heap.size W' W2) : KB B Z W W2 := h.trans (.of_below k)
theorem KB.drew {B : Nat} {Z : Nat → Prop} {W W' : World} (h : KB B Z W W') : KB B Z W W'.drew := ⟨h.size, h.block⟩
/-- Only blocks of S were turned, all of them rows or maps ahead. -/
theorem KB.chg {B : Nat} {S Z : Nat → Prop} {W W' W2 : World} (h : KB B Z W W') (k : Chg S W' W2) (hz : ∀ b, S b → ¬ Z b) (hc : ∀ b, b < W'.heap.size → S b → ∀ o, W'.heap[b]? = some o → loopy o = false) : KB B Z W W2 :=
  h.trans ⟨k.size, fun b hb q => k.block b hb fun hs => by
    rcases q with q | ⟨_, o, q, r⟩
    · exact hz b hs q
    · rw [hc b hb hs o q] at r; cases r⟩
/-- The contract of an iterator value made in w: blocks of Z, and those from B on, are kept by every round. -/
def SeqL {α : Type} (P : Program) (g : Nat) (lb : Array Value) (encs : α → Array Value) (Z : Nat → Prop) (L : List α) (w : World) : Prop :=
  ∀ (n l B : Nat) (J Jx : List α → World → Prop) (W : World), Below w.heap.size w W → B ≤ W.heap.size → OwnFrom W.heap.size J → OwnFrom W.heap.size Jx →
    (∀ m pre x W1, J pre W1 → pre ++ [x] <+: L → YieldAt Fence.wide m P l (encs x) W1 fun e W' => KB B Z W1 W' ∧
      ((e = .returned (.bool true) ∧ J (pre ++ [x]) W') ∨ (e = .returned (.bool false) ∧ Jx (pre ++ [x]) W'))) →
    J [] W →
    CallsIn Fence.wide n P g (#[.func (.yield l) #[] #[]] ++ lb) W fun e W' => (∃ v, e = .returned v) ∧ (J L W' ∨ ∃ pre, pre <+: L ∧ Jx pre W')
/-- How a round's body may be left. -/
def endL {α : Type} (B : Nat) (Z : Nat → Prop) (I : List α → World → Prop) (Ix : Code → List α → World → Prop) (xs : List α) (W : World) : Exit → Act → World → Prop
  | .normal, _, W' => KB B Z W W' ∧ I xs W'
  | .ret, _, W' => KB B Z W W' ∧ Ix .ret xs W'
  | .exit i, _, W' => KB B Z W W' ∧ Ix (.exit i) xs W'
  | .goto t, _, W' => KB B Z W W' ∧ Ix (.goto t) xs W'
  | .panic _, _, _ => False
  | .outgrown, _, _ => False
set_option maxHeartbeats 800000 in
theorem wp_rangeL {α : Type} {P : Program} {n : Nat} {g : Operand} {ps : Array Tmp} {assign body : Code} {Q : Exit → Act → World → Prop} {a : Act} {w : World} {gf : Nat} {lb : Array Value}
    (hg : a.eval g = .func (.func gf) #[] lb) (eg : ∀ args w, (callFunc gf args).run P w = .ok (.enter gf args) w)
    {encs : α → Array Value} {Z : Nat → Prop} {L : List α} {w0 : World} (hseq : SeqL P gf lb encs Z L w0) (hb0 : Below w0.heap.size w0 w) (hZ : ∀ b, Z b → b < w.heap.size) (hps : ∀ x, (encs x).size = ps.size)
    (I : List α → World → Prop) (Ix : Code → List α → World → Prop) (hI : OwnFrom w.heap.size I) (hIx : ∀ c, OwnFrom w.heap.size (Ix c)) (h0 : I [] w)
    (hround : ∀ (l m : Nat) (pre : List α) (x : α) (W : World), pre ++ [x] <+: L →
      assign.wpIn (Fence.wide.inRound l) m P (Exit.then (fun a₁ W₁ => W₁ = W ∧ ∀ W', I pre W' → body.wpIn (Fence.wide.inRound l) m P (endL w.heap.size Z I Ix (pre ++ [x]) W') a₁ W') (fun _ _ _ => False)) { tmps := (ps.zip (encs x)).foldl (fun t (p, v) => t.setIfInBounds p v) a.tmps, defers := [] } W)
    (hdone : ∀ (D : Nat) (W : World), w.heap.size ≤ D → I L W → W.heap[D]? = some (.deferred (some [])) → Q .normal { a with defers := { target := .collected D, args := #[] } :: a.defers } W)
    (hstop : ∀ (D : Nat) (c : Code) (pre : List α) (W : World), w.heap.size ≤ D → pre <+: L → Ix c pre W → W.heap[D]? = some (.deferred (some [])) → c.wpIn Fence.wide n P Q { a with defers := { target := .collected D, args := #[] } :: a.defers } W) :
    (Code.rangeFunc g ps assign body).wpIn Fence.wide n P Q a w := by
  refine wpIn_rangeFunc ?_
  intro fn hfn
  obtain ⟨rec, hrec⟩ : ∃ rec : LoopState → Option Code → Loop, rec = fun st pe => { state := st, pending := pe, fn, tmps := a.tmps, params := ps, assign, body, defers := w.heap.size } := ⟨_, rfl⟩
  obtain ⟨s, hs⟩ : ∃ s, s = w.heap.size := ⟨_, rfl⟩
  obtain ⟨W1, hW1⟩ : ∃ W1, (w.alloc (.deferred (some []))).alloc (.loop (rec .ready none)) = W1 := ⟨_, rfl⟩
  have z1 : W1.heap.size = s + 2 := by rw [← hW1, hs]; simp
  have hL1 : W1.heap[s + 1]? = some (.loop (rec .ready none)) := by
    rw [← hW1, hs]; have := World.alloc_heap_new (w.alloc (.deferred (some []))) (.loop (rec .ready none)); rwa [World.size_alloc] at this
  have hK1 : W1.heap[s]? = some (.deferred (some [])) := by
    rw [← hW1, hs]; exact (Below.heap_alloc _ _ _ (by simp)).trans (World.alloc_heap_new w _)
  have hI1 : I [] W1 := by rw [← hW1]; exact hI.alloc _ (hI.alloc _ h0)
  have hb1 : Below w0.heap.size w0 W1 := by
    rw [← hW1]; exact hb0.trans ((((Below.refl _ w).alloc (Nat.le_refl _) _).alloc (by simp) _).mono hb0.size)
  refine ⟨s + 1, [{ target := .collected s, args := #[] }], W1, { target := .fn (.func gf) lb, args := #[.func (.yield (s + 1)) #[] #[]] }, W1, gf,
    #[.func (.yield (s + 1)) #[] #[]] ++ lb, W1, ?_, ?_, ?_, ?_, fun h => (by cases h), ?_⟩
  · rw [← hW1, hrec, hs]; exact run_enterLoop_outer _ _ _ _ _
  · simp only [resolve, hg]
    simp [go_sem]
  · intro f' hf'; trivial
  · simp [invoke, go_sem, eg]
  · refine (hseq (n - 1) (s + 1) (s + 2)
      (fun pre W => I pre W ∧ W.heap[s + 1]? = some (.loop (rec .ready none)) ∧ W.heap[s]? = some (.deferred (some [])))
      (fun pre W => ∃ c, Ix c pre W ∧ W.heap[s + 1]? = some (.loop (rec .done (some c))) ∧ W.heap[s]? = some (.deferred (some [])))
      W1 hb1 (by omega)
      (fun p A B row h hg' hr => ⟨ownFrom_up hI (B' := W1.heap.size) (by omega) p A B row h.1 hg' hr, at_less h.2.1 hg' hr (by omega), at_less h.2.2 hg' hr (by omega)⟩)
      (fun p A B row ⟨c, hc, hl, hk⟩ hg' hr => ⟨c, ownFrom_up (hIx c) (B' := W1.heap.size) (by omega) p A B row hc hg' hr, at_less hl hg' hr (by omega), at_less hk hg' hr (by omega)⟩)
      ?_ ⟨hI1, hL1, hK1⟩).mono ?_
    · rintro m pre x W ⟨hi, hl, hk⟩ hlen
      have hlt : s + 1 < W.heap.size := (Array.getElem?_eq_some_iff.1 hl).1
      have hy := run_yield (P := P) (args := encs x) hl (by rw [hrec]; exact hps x)
      rw [hrec] at hy
      refine ⟨fn, _, assign, body, hy, roundIn_of_wpIn hfn (wpIn_mono (hround _ _ pre x W hlen) ?_)⟩
      intro e0 a0 w0' h0'
      cases e0 <;> try exact h0'.elim
      obtain ⟨e1, hb0'⟩ := h0'
      rw [e1]
      refine ⟨_, run_beginRound hl (by rw [hrec]), ?_⟩
      obtain ⟨W2, hW2⟩ : ∃ W2, W2 = W.putObj (s + 1) (.loop { rec .ready none with state := .busy }) := ⟨_, rfl⟩
      rw [← hW2]
      have hl2 : W2.heap[s + 1]? = some (.loop { rec .ready none with state := .busy }) := by rw [hW2]; exact World.putObj_heap_same hlt
      have hk2 : W2.heap[s]? = some (.deferred (some [])) := by rw [hW2]; exact (World.putObj_heap_other (by omega)).trans hk
      have n1 : ¬ Z (s + 1) := fun h => by have := hZ _ h; omega
      have k2 : KB (s + 2) Z W W2 := by rw [hW2]; exact KB.put _ _ n1 (by omega)
      have hi2 : I pre W2 := by rw [hW2]; exact hI.putObj _ hi (by omega) hl rfl
      refine wpIn_mono (hb0' W2 hi2) ?_
      have fin : ∀ (jump : Option Code) (W3 : World), KB w.heap.size Z W2 W3 → ∃ W4, (Instr.endRound (s + 1) jump).run P W3 = .ok (.bool jump.isNone) W4 ∧ KB (s + 2) Z W W4 ∧
          W4 = W3.putObj (s + 1) (.loop (rec (if jump.isNone then .ready else .done) jump)) ∧ W3.heap[s + 1]? = some (.loop { rec .ready none with state := .busy }) ∧
          W4.heap[s + 1]? = some (.loop (rec (if jump.isNone then .ready else .done) jump)) ∧ W4.heap[s]? = some (.deferred (some [])) := fun jump W3 hk3 => by
        have hl3 := (hk3.block _ (Array.getElem?_eq_some_iff.1 hl2).1 (.inr ⟨by omega, _, hl2, rfl⟩)).trans hl2
        have hkk := (hk3.block _ (Array.getElem?_eq_some_iff.1 hk2).1 (.inr ⟨by omega, _, hk2, rfl⟩)).trans hk2
        have hlt3 := (Array.getElem?_eq_some_iff.1 hl3).1
        have := run_endRound (P := P) jump hl3
        rw [hrec] at this hl3 ⊢
        exact ⟨_, this, (k2.trans (hk3.up (by omega))).trans (KB.put _ _ n1 (by omega)), rfl, hl3, World.putObj_heap_same hlt3, (World.putObj_heap_other (by omega)).trans hkk⟩
      rintro e a3 W3 hp
      cases e with
      | normal =>
        obtain ⟨hk3, hi3⟩ := hp
        obtain ⟨W4, hr, hb4, rfl, hl3, hl4, hk4⟩ := fin none W3 hk3
        exact ⟨_, _, hr, hb4, .inl ⟨rfl, hI.putObj _ hi3 (by omega) hl3 rfl, hl4, hk4⟩⟩
      | ret =>
        obtain ⟨hk3, hi3⟩ := hp
        obtain ⟨W4, hr, hb4, rfl, hl3, hl4, hk4⟩ := fin (some .ret) W3 hk3
        exact ⟨_, _, hr, hb4, .inr ⟨rfl, .ret, (hIx _).putObj _ hi3 (by omega) hl3 rfl, hl4, hk4⟩⟩
      | exit id =>
        obtain ⟨hk3, hi3⟩ := hp
        obtain ⟨W4, hr, hb4, rfl, hl3, hl4, hk4⟩ := fin (some (.exit id)) W3 hk3
        exact ⟨_, _, hr, hb4, .inr ⟨rfl, .exit id, (hIx _).putObj _ hi3 (by omega) hl3 rfl, hl4, hk4⟩⟩
      | goto t =>
        obtain ⟨hk3, hi3⟩ := hp
        obtain ⟨W4, hr, hb4, rfl, hl3, hl4, hk4⟩ := fin (some (.goto t)) W3 hk3
        exact ⟨_, _, hr, hb4, .inr ⟨rfl, .goto t, (hIx _).putObj _ hi3 (by omega) hl3 rfl, hl4, hk4⟩⟩
      | panic ch => exact hp.elim
      | outgrown => exact hp.elim
    · rintro e W2 ⟨⟨v, rfl⟩, (⟨hi, hl, hk⟩ | ⟨pre, hSp, c, hi, hl, hk⟩)⟩
      · have := run_endLoop (P := P) hl (by rw [hrec]; simp)
        rw [hrec] at this
        rw [hrec] at hl
        exact ⟨none, _, this, hdone s _ (by omega) (hI.putObj _ hi (by omega) hl rfl) ((World.putObj_heap_other (by omega)).trans hk)⟩
      · have := run_endLoop (P := P) hl (by rw [hrec]; simp)
        rw [hrec] at this
        rw [hrec] at hl
        exact ⟨some c, _, this, hstop s c pre _ (by omega) hSp ((hIx c).putObj _ hi (by omega) hl rfl) ((World.putObj_heap_other (by omega)).trans hk)⟩
end Go.Proofs.YtngdebpaheejlaaGreatDoor
namespace Go.Proofs.YtngdebpaheejlaaGreatDoor
open Go.RowKit Go.Shelf
set_option linter.unusedSimpArgs false
set_option linter.unusedVariables false
set_option maxHeartbeats 800000 in
theorem wp_rangeM {α : Type} {P : Program} {n : Nat} {g : Operand} {ps : Array Tmp} {assign body : Code} {Q : Exit → Act → World → Prop} {a : Act} {w : World} {gf : Nat} {lb : Array Value}
    (hg : a.eval g = .func (.func gf) #[] lb) (eg : ∀ args w, (callFunc gf args).run P w = .ok (.enter gf args) w)
    {encs : α → Array Value} {Z : Nat → Prop} {L : List α} {w0 : World} (hseq : SeqL P gf lb encs Z L w0) (hb0 : Below w0.heap.size w0 w) (hZ : ∀ b, Z b → b < w.heap.size) (hps : ∀ x, (encs x).size = ps.size)
    (I : List α → World → Prop) (Ix : Code → List α → World → Prop) (hI : OwnFrom w.heap.size I) (Im : List α → World → Prop) (hIm : OwnFrom w.heap.size Im) (hIx : ∀ c, OwnFrom w.heap.size (Ix c)) (h0 : I [] w)
    (hround : ∀ (l m : Nat) (pre : List α) (x : α) (W : World), pre ++ [x] <+: L → I pre W →
      assign.wpIn (Fence.wide.inRound l) m P (Exit.then (fun a₁ W₁ => KB w.heap.size Z W W₁ ∧ Im (pre ++ [x]) W₁ ∧ ∀ W', Im (pre ++ [x]) W' → body.wpIn (Fence.wide.inRound l) m P (endL w.heap.size Z I Ix (pre ++ [x]) W') a₁ W') (fun _ _ _ => False)) { tmps := (ps.zip (encs x)).foldl (fun t (p, v) => t.setIfInBounds p v) a.tmps, defers := [] } W)
    (hdone : ∀ (D : Nat) (W : World), w.heap.size ≤ D → I L W → W.heap[D]? = some (.deferred (some [])) → Q .normal { a with defers := { target := .collected D, args := #[] } :: a.defers } W)
    (hstop : ∀ (D : Nat) (c : Code) (pre : List α) (W : World), w.heap.size ≤ D → pre <+: L → Ix c pre W → W.heap[D]? = some (.deferred (some [])) → c.wpIn Fence.wide n P Q { a with defers := { target := .collected D, args := #[] } :: a.defers } W) :
    (Code.rangeFunc g ps assign body).wpIn Fence.wide n P Q a w := by
  refine wpIn_rangeFunc ?_
  intro fn hfn
  obtain ⟨rec, hrec⟩ : ∃ rec : LoopState → Option Code → Loop, rec = fun st pe => { state := st, pending := pe, fn, tmps := a.tmps, params := ps, assign, body, defers := w.heap.size } := ⟨_, rfl⟩
  obtain ⟨s, hs⟩ : ∃ s, s = w.heap.size := ⟨_, rfl⟩
  obtain ⟨W1, hW1⟩ : ∃ W1, (w.alloc (.deferred (some []))).alloc (.loop (rec .ready none)) = W1 := ⟨_, rfl⟩
  have z1 : W1.heap.size = s + 2 := by rw [← hW1, hs]; simp
  have hL1 : W1.heap[s + 1]? = some (.loop (rec .ready none)) := by
    rw [← hW1, hs]; have := World.alloc_heap_new (w.alloc (.deferred (some []))) (.loop (rec .ready none)); rwa [World.size_alloc] at this
  have hK1 : W1.heap[s]? = some (.deferred (some [])) := by
    rw [← hW1, hs]; exact (Below.heap_alloc _ _ _ (by simp)).trans (World.alloc_heap_new w _)
  have hI1 : I [] W1 := by rw [← hW1]; exact hI.alloc _ (hI.alloc _ h0)
  have hb1 : Below w0.heap.size w0 W1 := by
    rw [← hW1]; exact hb0.trans ((((Below.refl _ w).alloc (Nat.le_refl _) _).alloc (by simp) _).mono hb0.size)
  refine ⟨s + 1, [{ target := .collected s, args := #[] }], W1, { target := .fn (.func gf) lb, args := #[.func (.yield (s + 1)) #[] #[]] }, W1, gf,
    #[.func (.yield (s + 1)) #[] #[]] ++ lb, W1, ?_, ?_, ?_, ?_, fun h => (by cases h), ?_⟩
  · rw [← hW1, hrec, hs]; exact run_enterLoop_outer _ _ _ _ _
  · simp only [resolve, hg]
    simp [go_sem]
  · intro f' hf'; trivial
  · simp [invoke, go_sem, eg]
  · refine (hseq (n - 1) (s + 1) (s + 2)
      (fun pre W => I pre W ∧ W.heap[s + 1]? = some (.loop (rec .ready none)) ∧ W.heap[s]? = some (.deferred (some [])))
      (fun pre W => ∃ c, Ix c pre W ∧ W.heap[s + 1]? = some (.loop (rec .done (some c))) ∧ W.heap[s]? = some (.deferred (some [])))
      W1 hb1 (by omega)
      (fun p A B row h hg' hr => ⟨ownFrom_up hI (B' := W1.heap.size) (by omega) p A B row h.1 hg' hr, at_less h.2.1 hg' hr (by omega), at_less h.2.2 hg' hr (by omega)⟩)
      (fun p A B row ⟨c, hc, hl, hk⟩ hg' hr => ⟨c, ownFrom_up (hIx c) (B' := W1.heap.size) (by omega) p A B row hc hg' hr, at_less hl hg' hr (by omega), at_less hk hg' hr (by omega)⟩)
      ?_ ⟨hI1, hL1, hK1⟩).mono ?_
    · rintro m pre x W ⟨hi, hl, hk⟩ hlen
      have hlt : s + 1 < W.heap.size := (Array.getElem?_eq_some_iff.1 hl).1
      have hy := run_yield (P := P) (args := encs x) hl (by rw [hrec]; exact hps x)
      rw [hrec] at hy
      refine ⟨fn, _, assign, body, hy, roundIn_of_wpIn hfn (wpIn_mono (hround _ _ pre x W hlen hi) ?_)⟩
      intro e0 a0 w0' h0'
      cases e0 <;> try exact h0'.elim
      obtain ⟨kA, hm0, hb0'⟩ := h0'
      have hl' : w0'.heap[s + 1]? = some (.loop (rec .ready none)) := (kA.block _ hlt (.inr ⟨by omega, _, hl, rfl⟩)).trans hl
      have hk' : w0'.heap[s]? = some (.deferred (some [])) := (kA.block _ (by omega) (.inr ⟨by omega, _, hk, rfl⟩)).trans hk
      have hlt' : s + 1 < w0'.heap.size := Nat.lt_of_lt_of_le hlt kA.size
      refine ⟨_, run_beginRound hl' (by rw [hrec]), ?_⟩
      obtain ⟨W2, hW2⟩ : ∃ W2, W2 = w0'.putObj (s + 1) (.loop { rec .ready none with state := .busy }) := ⟨_, rfl⟩
      rw [← hW2]
      have hl2 : W2.heap[s + 1]? = some (.loop { rec .ready none with state := .busy }) := by rw [hW2]; exact World.putObj_heap_same hlt'
      have hk2 : W2.heap[s]? = some (.deferred (some [])) := by rw [hW2]; exact (World.putObj_heap_other (by omega)).trans hk'
      have n1 : ¬ Z (s + 1) := fun h => by have := hZ _ h; omega
      have k2 : KB (s + 2) Z W W2 := (kA.up (by omega)).trans (by rw [hW2]; exact KB.put _ _ n1 (by omega))
      have hi2 : Im (pre ++ [x]) W2 := by rw [hW2]; exact hIm.putObj _ hm0 (by omega) hl' rfl
      refine wpIn_mono (hb0' W2 hi2) ?_
      have fin : ∀ (jump : Option Code) (W3 : World), KB w.heap.size Z W2 W3 → ∃ W4, (Instr.endRound (s + 1) jump).run P W3 = .ok (.bool jump.isNone) W4 ∧ KB (s + 2) Z W W4 ∧
          W4 = W3.putObj (s + 1) (.loop (rec (if jump.isNone then .ready else .done) jump)) ∧ W3.heap[s + 1]? = some (.loop { rec .ready none with state := .busy }) ∧
          W4.heap[s + 1]? = some (.loop (rec (if jump.isNone then .ready else .done) jump)) ∧ W4.heap[s]? = some (.deferred (some [])) := fun jump W3 hk3 => by
        have hl3 := (hk3.block _ (Array.getElem?_eq_some_iff.1 hl2).1 (.inr ⟨by omega, _, hl2, rfl⟩)).trans hl2
        have hkk := (hk3.block _ (Array.getElem?_eq_some_iff.1 hk2).1 (.inr ⟨by omega, _, hk2, rfl⟩)).trans hk2
        have hlt3 := (Array.getElem?_eq_some_iff.1 hl3).1
        have := run_endRound (P := P) jump hl3
        rw [hrec] at this hl3 ⊢
        exact ⟨_, this, (k2.trans (hk3.up (by omega))).trans (KB.put _ _ n1 (by omega)), rfl, hl3, World.putObj_heap_same hlt3, (World.putObj_heap_other (by omega)).trans hkk⟩
      rintro e a3 W3 hp
      cases e with
      | normal =>
        obtain ⟨hk3, hi3⟩ := hp
        obtain ⟨W4, hr, hb4, rfl, hl3, hl4, hk4⟩ := fin none W3 hk3
        exact ⟨_, _, hr, hb4, .inl ⟨rfl, hI.putObj _ hi3 (by omega) hl3 rfl, hl4, hk4⟩⟩
      | ret =>
        obtain ⟨hk3, hi3⟩ := hp
        obtain ⟨W4, hr, hb4, rfl, hl3, hl4, hk4⟩ := fin (some .ret) W3 hk3
        exact ⟨_, _, hr, hb4, .inr ⟨rfl, .ret, (hIx _).putObj _ hi3 (by omega) hl3 rfl, hl4, hk4⟩⟩
      | exit id =>
        obtain ⟨hk3, hi3⟩ := hp
        obtain ⟨W4, hr, hb4, rfl, hl3, hl4, hk4⟩ := fin (some (.exit id)) W3 hk3
        exact ⟨_, _, hr, hb4, .inr ⟨rfl, .exit id, (hIx _).putObj _ hi3 (by omega) hl3 rfl, hl4, hk4⟩⟩
      | goto t =>
        obtain ⟨hk3, hi3⟩ := hp
        obtain ⟨W4, hr, hb4, rfl, hl3, hl4, hk4⟩ := fin (some (.goto t)) W3 hk3
        exact ⟨_, _, hr, hb4, .inr ⟨rfl, .goto t, (hIx _).putObj _ hi3 (by omega) hl3 rfl, hl4, hk4⟩⟩
      | panic ch => exact hp.elim
      | outgrown => exact hp.elim
    · rintro e W2 ⟨⟨v, rfl⟩, (⟨hi, hl, hk⟩ | ⟨pre, hSp, c, hi, hl, hk⟩)⟩
      · have := run_endLoop (P := P) hl (by rw [hrec]; simp)
        rw [hrec] at this
        rw [hrec] at hl
        exact ⟨none, _, this, hdone s _ (by omega) (hI.putObj _ hi (by omega) hl rfl) ((World.putObj_heap_other (by omega)).trans hk)⟩
      · have := run_endLoop (P := P) hl (by rw [hrec]; simp)
        rw [hrec] at this
        rw [hrec] at hl
        exact ⟨some c, _, this, hstop s c pre _ (by omega) hSp ((hIx c).putObj _ hi (by omega) hl rfl) ((World.putObj_heap_other (by omega)).trans hk)⟩
end Go.Proofs.YtngdebpaheejlaaGreatDoor
namespace Go.Proofs.YtngdebpaheejlaaGreatDoor
open Go.RowKit Go.Shelf
set_option linter.unusedSimpArgs false
set_option linter.unusedVariables false
theorem KB.weaken {B : Nat} {Y Z : Nat → Prop} {W W' : World} (h : KB B Z W W') (hY : ∀ k, Y k → Z k) : KB B Y W W' := ⟨h.size, fun k hk q => h.block k hk (q.imp (hY k) id)⟩
/-- The contract of an iterator value made in w: blocks of Z, and those from B on, are kept by every round. -/
def SeqS {α : Type} (P : Program) (g : Nat) (lb : Array Value) (encs : α → Array Value) (Z : Nat → Prop) (L : List α) (w : World) : Prop :=
  ∀ (n l B : Nat) (J Jx : List α → World → Prop) (W : World), Below w.heap.size w W → B ≤ W.heap.size → OwnFrom W.heap.size J → OwnFrom W.heap.size Jx →
    (∀ m pre x W1, J pre W1 → pre ++ [x] <+: L → YieldAt Fence.wide m P l (encs x) W1 fun e W' => ((e = .returned (.bool true) ∧ KB B Z W1 W' ∧ J (pre ++ [x]) W') ∨ (e = .returned (.bool false) ∧ KB B (fun _ => False) W1 W' ∧ Jx (pre ++ [x]) W'))) →
    J [] W →
    CallsIn Fence.wide n P g (#[.func (.yield l) #[] #[]] ++ lb) W fun e W' => (∃ v, e = .returned v) ∧ (J L W' ∨ ∃ pre, pre <+: L ∧ Jx pre W')
/-- How a round's body may be left. -/
def endS {α : Type} (B : Nat) (Z : Nat → Prop) (I : List α → World → Prop) (Ix : Code → List α → World → Prop) (xs : List α) (W : World) : Exit → Act → World → Prop
  | .normal, _, W' => KB B Z W W' ∧ I xs W'
  | .ret, _, W' => KB B (fun _ => False) W W' ∧ Ix .ret xs W'
  | .exit i, _, W' => KB B (fun _ => False) W W' ∧ Ix (.exit i) xs W'
  | .goto t, _, W' => KB B (fun _ => False) W W' ∧ Ix (.goto t) xs W'
  | .panic _, _, _ => False
  | .outgrown, _, _ => False
set_option maxHeartbeats 800000 in
theorem wp_rangeS {α : Type} {P : Program} {n : Nat} {g : Operand} {ps : Array Tmp} {assign body : Code} {Q : Exit → Act → World → Prop} {a : Act} {w : World} {gf : Nat} {lb : Array Value}
    (hg : a.eval g = .func (.func gf) #[] lb) (eg : ∀ args w, (callFunc gf args).run P w = .ok (.enter gf args) w)
    {encs : α → Array Value} {Z : Nat → Prop} {L : List α} {w0 : World} (hseq : SeqS P gf lb encs Z L w0) (hb0 : Below w0.heap.size w0 w) (hZ : ∀ b, Z b → b < w.heap.size) (hps : ∀ x, (encs x).size = ps.size)
    (I : List α → World → Prop) (Ix : Code → List α → World → Prop) (hI : OwnFrom w.heap.size I) (hIx : ∀ c, OwnFrom w.heap.size (Ix c)) (h0 : I [] w)
    (hround : ∀ (l m : Nat) (pre : List α) (x : α) (W : World), pre ++ [x] <+: L →
      assign.wpIn (Fence.wide.inRound l) m P (Exit.then (fun a₁ W₁ => W₁ = W ∧ ∀ W', I pre W' → body.wpIn (Fence.wide.inRound l) m P (endS w.heap.size Z I Ix (pre ++ [x]) W') a₁ W') (fun _ _ _ => False)) { tmps := (ps.zip (encs x)).foldl (fun t (p, v) => t.setIfInBounds p v) a.tmps, defers := [] } W)
    (hdone : ∀ (D : Nat) (W : World), w.heap.size ≤ D → I L W → W.heap[D]? = some (.deferred (some [])) → Q .normal { a with defers := { target := .collected D, args := #[] } :: a.defers } W)
    (hstop : ∀ (D : Nat) (c : Code) (pre : List α) (W : World), w.heap.size ≤ D → pre <+: L → Ix c pre W → W.heap[D]? = some (.deferred (some [])) → c.wpIn Fence.wide n P Q { a with defers := { target := .collected D, args := #[] } :: a.defers } W) :
    (Code.rangeFunc g ps assign body).wpIn Fence.wide n P Q a w := by
  refine wpIn_rangeFunc ?_
  intro fn hfn
  obtain ⟨rec, hrec⟩ : ∃ rec : LoopState → Option Code → Loop, rec = fun st pe => { state := st, pending := pe, fn, tmps := a.tmps, params := ps, assign, body, defers := w.heap.size } := ⟨_, rfl⟩
  obtain ⟨s, hs⟩ : ∃ s, s = w.heap.size := ⟨_, rfl⟩
  obtain ⟨W1, hW1⟩ : ∃ W1, (w.alloc (.deferred (some []))).alloc (.loop (rec .ready none)) = W1 := ⟨_, rfl⟩
  have z1 : W1.heap.size = s + 2 := by rw [← hW1, hs]; simp
  have hL1 : W1.heap[s + 1]? = some (.loop (rec .ready none)) := by
    rw [← hW1, hs]; have := World.alloc_heap_new (w.alloc (.deferred (some []))) (.loop (rec .ready none)); rwa [World.size_alloc] at this
  have hK1 : W1.heap[s]? = some (.deferred (some [])) := by
    rw [← hW1, hs]; exact (Below.heap_alloc _ _ _ (by simp)).trans (World.alloc_heap_new w _)
  have hI1 : I [] W1 := by rw [← hW1]; exact hI.alloc _ (hI.alloc _ h0)
  have hb1 : Below w0.heap.size w0 W1 := by
    rw [← hW1]; exact hb0.trans ((((Below.refl _ w).alloc (Nat.le_refl _) _).alloc (by simp) _).mono hb0.size)
  refine ⟨s + 1, [{ target := .collected s, args := #[] }], W1, { target := .fn (.func gf) lb, args := #[.func (.yield (s + 1)) #[] #[]] }, W1, gf,
    #[.func (.yield (s + 1)) #[] #[]] ++ lb, W1, ?_, ?_, ?_, ?_, fun h => (by cases h), ?_⟩
  · rw [← hW1, hrec, hs]; exact run_enterLoop_outer _ _ _ _ _
  · simp only [resolve, hg]
    simp [go_sem]
  · intro f' hf'; trivial
  · simp [invoke, go_sem, eg]
  · refine (hseq (n - 1) (s + 1) (s + 2)
      (fun pre W => I pre W ∧ W.heap[s + 1]? = some (.loop (rec .ready none)) ∧ W.heap[s]? = some (.deferred (some [])))
      (fun pre W => ∃ c, Ix c pre W ∧ W.heap[s + 1]? = some (.loop (rec .done (some c))) ∧ W.heap[s]? = some (.deferred (some [])))
      W1 hb1 (by omega)
      (fun p A B row h hg' hr => ⟨ownFrom_up hI (B' := W1.heap.size) (by omega) p A B row h.1 hg' hr, at_less h.2.1 hg' hr (by omega), at_less h.2.2 hg' hr (by omega)⟩)
      (fun p A B row ⟨c, hc, hl, hk⟩ hg' hr => ⟨c, ownFrom_up (hIx c) (B' := W1.heap.size) (by omega) p A B row hc hg' hr, at_less hl hg' hr (by omega), at_less hk hg' hr (by omega)⟩)
      ?_ ⟨hI1, hL1, hK1⟩).mono ?_
    · rintro m pre x W ⟨hi, hl, hk⟩ hlen
      have hlt : s + 1 < W.heap.size := (Array.getElem?_eq_some_iff.1 hl).1
      have hy := run_yield (P := P) (args := encs x) hl (by rw [hrec]; exact hps x)
      rw [hrec] at hy
      refine ⟨fn, _, assign, body, hy, roundIn_of_wpIn hfn (wpIn_mono (hround _ _ pre x W hlen) ?_)⟩
      intro e0 a0 w0' h0'
      cases e0 <;> try exact h0'.elim
      obtain ⟨e1, hb0'⟩ := h0'
      rw [e1]
      refine ⟨_, run_beginRound hl (by rw [hrec]), ?_⟩
      obtain ⟨W2, hW2⟩ : ∃ W2, W2 = W.putObj (s + 1) (.loop { rec .ready none with state := .busy }) := ⟨_, rfl⟩
      rw [← hW2]
      have hl2 : W2.heap[s + 1]? = some (.loop { rec .ready none with state := .busy }) := by rw [hW2]; exact World.putObj_heap_same hlt
      have hk2 : W2.heap[s]? = some (.deferred (some [])) := by rw [hW2]; exact (World.putObj_heap_other (by omega)).trans hk
      have n1 : ¬ Z (s + 1) := fun h => by have := hZ _ h; omega
      have k2 : KB (s + 2) Z W W2 := by rw [hW2]; exact KB.put _ _ n1 (by omega)
      have hi2 : I pre W2 := by rw [hW2]; exact hI.putObj _ hi (by omega) hl rfl
      refine wpIn_mono (hb0' W2 hi2) ?_
      have fin : ∀ (Y : Nat → Prop) (hYZ : ∀ k, Y k → Z k) (jump : Option Code) (W3 : World), KB w.heap.size Y W2 W3 → ∃ W4, (Instr.endRound (s + 1) jump).run P W3 = .ok (.bool jump.isNone) W4 ∧ KB (s + 2) Y W W4 ∧
          W4 = W3.putObj (s + 1) (.loop (rec (if jump.isNone then .ready else .done) jump)) ∧ W3.heap[s + 1]? = some (.loop { rec .ready none with state := .busy }) ∧
          W4.heap[s + 1]? = some (.loop (rec (if jump.isNone then .ready else .done) jump)) ∧ W4.heap[s]? = some (.deferred (some [])) := fun Y hYZ jump W3 hk3 => by
        have hl3 := (hk3.block _ (Array.getElem?_eq_some_iff.1 hl2).1 (.inr ⟨by omega, _, hl2, rfl⟩)).trans hl2
        have hkk := (hk3.block _ (Array.getElem?_eq_some_iff.1 hk2).1 (.inr ⟨by omega, _, hk2, rfl⟩)).trans hk2
        have hlt3 := (Array.getElem?_eq_some_iff.1 hl3).1
        have := run_endRound (P := P) jump hl3
        rw [hrec] at this hl3 ⊢
        exact ⟨_, this, ((k2.weaken hYZ).trans (hk3.up (by omega))).trans (KB.put _ _ (fun q => n1 (hYZ _ q)) (by omega)), rfl, hl3, World.putObj_heap_same hlt3, (World.putObj_heap_other (by omega)).trans hkk⟩
      rintro e a3 W3 hp
      cases e with
      | normal =>
        obtain ⟨hk3, hi3⟩ := hp
        obtain ⟨W4, hr, hb4, rfl, hl3, hl4, hk4⟩ := fin Z (fun _ h => h) none W3 hk3
        exact ⟨_, _, hr, .inl ⟨rfl, hb4, hI.putObj _ hi3 (by omega) hl3 rfl, hl4, hk4⟩⟩
      | ret =>
        obtain ⟨hk3, hi3⟩ := hp
        obtain ⟨W4, hr, hb4, rfl, hl3, hl4, hk4⟩ := fin (fun _ => False) (fun _ h => h.elim) (some .ret) W3 hk3
        exact ⟨_, _, hr, .inr ⟨rfl, hb4, .ret, (hIx _).putObj _ hi3 (by omega) hl3 rfl, hl4, hk4⟩⟩
      | exit id =>
        obtain ⟨hk3, hi3⟩ := hp
        obtain ⟨W4, hr, hb4, rfl, hl3, hl4, hk4⟩ := fin (fun _ => False) (fun _ h => h.elim) (some (.exit id)) W3 hk3
        exact ⟨_, _, hr, .inr ⟨rfl, hb4, .exit id, (hIx _).putObj _ hi3 (by omega) hl3 rfl, hl4, hk4⟩⟩
      | goto t =>
        obtain ⟨hk3, hi3⟩ := hp
        obtain ⟨W4, hr, hb4, rfl, hl3, hl4, hk4⟩ := fin (fun _ => False) (fun _ h => h.elim) (some (.goto t)) W3 hk3
        exact ⟨_, _, hr, .inr ⟨rfl, hb4, .goto t, (hIx _).putObj _ hi3 (by omega) hl3 rfl, hl4, hk4⟩⟩
      | panic ch => exact hp.elim
      | outgrown => exact hp.elim
    · rintro e W2 ⟨⟨v, rfl⟩, (⟨hi, hl, hk⟩ | ⟨pre, hSp, c, hi, hl, hk⟩)⟩
      · have := run_endLoop (P := P) hl (by rw [hrec]; simp)
        rw [hrec] at this
        rw [hrec] at hl
        exact ⟨none, _, this, hdone s _ (by omega) (hI.putObj _ hi (by omega) hl rfl) ((World.putObj_heap_other (by omega)).trans hk)⟩
      · have := run_endLoop (P := P) hl (by rw [hrec]; simp)
        rw [hrec] at this
        rw [hrec] at hl
        exact ⟨some c, _, this, hstop s c pre _ (by omega) hSp ((hIx c).putObj _ hi (by omega) hl rfl) ((World.putObj_heap_other (by omega)).trans hk)⟩
end Go.Proofs.YtngdebpaheejlaaGreatDoor
