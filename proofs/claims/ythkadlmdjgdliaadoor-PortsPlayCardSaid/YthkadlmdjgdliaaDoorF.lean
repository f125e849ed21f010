/- Ports in memory: a part, all parts. -/
import Derived.Test.YthkadlmdjgdliaaDoorE2
import Derived.Test.YthkadlmdjgdliaaDoorGMapMore
import Derived.DeepKeys4
namespace Go.Proofs.YthkadlmdjgdliaaDoor
open Go.RowKit
set_option linter.unusedSimpArgs false
set_option linter.unusedVariables false
open V2 (Only)

theorem keyed3 : Maps.Keyed Tryd.prog 3 := Maps.int_keyed Tryd.underlying3
theorem keyed24 : Maps.Keyed Tryd.prog 24 := Maps.Keyed.of_law (deep_law_laid (by kernel_rfl) (m := 3) (by decide) (of_decide_eq_true (by kernel_rfl)) (by kernel_rfl) (by kernel_rfl))
theorem zero3 (w : World) : (zeroValue 3).run Tryd.prog w = .ok (.int .i64 0) w := by kernel_rfl
theorem zero52 (w : World) : (zeroValue 52).run Tryd.prog w = .ok (.pointer none) w := by kernel_rfl
theorem zero65 (w : World) : (zeroValue 65).run Tryd.prog w = .ok (.agg #[]) w := by kernel_rfl
theorem wf_nat (x : Nat) (hx : x < 65536) : (Lit.int .i64 (x : Int)).wf = true := by
  have hmin : IntKind.i64.min = -9223372036854775808 := rfl
  have hmax : IntKind.i64.max = 9223372036854775807 := rfl
  simp only [Lit.wf, Bool.and_eq_true, decide_eq_true_eq]
  omega
theorem wf_int {x : Int} (h1 : -9223372036854775808 ≤ x) (h2 : x ≤ 9223372036854775807) : (Lit.int .i64 x).wf = true := by
  have hmin : IntKind.i64.min = -9223372036854775808 := rfl
  have hmax : IntKind.i64.max = 9223372036854775807 := rfl
  simp only [Lit.wf, Bool.and_eq_true, decide_eq_true_eq]
  omega

/-- What a part is: where its cursor stands, which are lent, which rest and until when. -/
structure PA where
  at1 : Nat
  L : Nat → Bool
  G : Nat → Option Nat
def PA.U (A : PA) (x : Nat) : Bool := A.L x || (A.G x).isSome
def PA.new : PA := ⟨0, fun _ => false, fun _ => none⟩
def lentM (L : Nat → Bool) : Lit → Option Value
  | .int .i64 x => if 0 ≤ x ∧ L x.toNat = true then some (.agg #[]) else none
  | _ => none
def givenM (G : Nat → Option Nat) : Lit → Option Value
  | .int .i64 x => if 0 ≤ x then (G x.toNat).map fun (u : Nat) => .int .i64 (u : Int) else none
  | _ => none
/-- The blocks of a part; they lie from lo on, below hi. -/
structure PB where
  xb : Nat
  cb : Nat
  wb : Nat
  lm : Nat
  gm : Nat
  lo : Nat
  hi : Nat
structure PartOK (w : World) (p : PB) (n t : Nat) (A : PA) : Prop where
  head : Has w p.xb 60 #[.pointer (some ⟨p.cb, 0, none⟩), .map (some p.lm), .map (some p.gm)]
  cur : Cur w p.cb p.wb n A.at1 A.U
  lent : ∃ nm, nm ≤ t ∧ GMap Tryd.prog w 3 p.lm nm (lentM A.L)
  given : ∃ nm, nm ≤ t ∧ GMap Tryd.prog w 3 p.gm nm (givenM A.G)
  apart : ∀ x, A.L x = true → A.G x = none
  bound : ∀ x u, A.G x = some u → u ≤ 2199023255552
  i1 : p.lo ≤ p.xb ∧ p.xb < p.hi
  i2 : p.lo ≤ p.cb ∧ p.cb < p.hi
  i3 : p.lo ≤ p.wb ∧ p.wb < p.hi
  i4 : p.lo ≤ p.lm ∧ p.lm < p.hi
  i5 : p.lo ≤ p.gm ∧ p.gm < p.hi
  ne : p.xb ≠ p.cb ∧ p.xb ≠ p.wb ∧ p.xb ≠ p.lm ∧ p.xb ≠ p.gm ∧ p.cb ≠ p.lm ∧ p.cb ≠ p.gm ∧ p.wb ≠ p.lm ∧ p.wb ≠ p.gm ∧ p.lm ≠ p.gm
theorem Cur.wlt {w : World} {cb wb n at1 : Nat} {U : Nat → Bool} (h : Cur w cb wb n at1 U) : wb < w.heap.size := by obtain ⟨W, h, _⟩ := h.words; exact h.lt
theorem PartOK.of_blocks {w w' : World} {p : PB} {n t : Nat} {A : PA} (h : PartOK w p n t A) (e : ∀ b, b < w.heap.size → p.lo ≤ b → b < p.hi → w'.heap[b]? = w.heap[b]?) : PartOK w' p n t A := by
  obtain ⟨m1, l1, g1⟩ := h.lent
  obtain ⟨m2, l2, g2⟩ := h.given
  exact ⟨(e _ h.head.lt h.i1.1 h.i1.2).trans h.head, h.cur.of_blocks (e _ h.cur.head.lt h.i2.1 h.i2.2) (e _ h.cur.wlt h.i3.1 h.i3.2), ⟨m1, l1, g1.of_block (e _ g1.lt h.i4.1 h.i4.2)⟩, ⟨m2, l2, g2.of_block (e _ g2.lt h.i5.1 h.i5.2)⟩, h.apart, h.bound, h.i1, h.i2, h.i3, h.i4, h.i5, h.ne⟩
theorem PartOK.more {w : World} {p : PB} {n t t' : Nat} {A : PA} (h : PartOK w p n t A) (ht : t ≤ t') : PartOK w p n t' A := by
  obtain ⟨m1, l1, g1⟩ := h.lent
  obtain ⟨m2, l2, g2⟩ := h.given
  exact ⟨h.head, h.cur, ⟨m1, by omega, g1⟩, ⟨m2, by omega, g2⟩, h.apart, h.bound, h.i1, h.i2, h.i3, h.i4, h.i5, h.ne⟩

open Classical in
noncomputable def upd {α : Type} (f : Lit → α) (k : Lit) (v : α) : Lit → α := fun x => if x = k then v else f x
theorem upd_same {α : Type} (f : Lit → α) (k : Lit) (v : α) : upd f k v k = v := by simp [upd]
theorem upd_other {α : Type} (f : Lit → α) {k x : Lit} (v : α) (h : x ≠ k) : upd f k v x = f x := by simp [upd, h]

/-- A world, and the blocks of it that stay as they are. -/
structure Base where
  w : World
  Z : Nat → Prop
structure Keeps (w0 : Base) (w : World) : Prop where
  os : w.os = w0.w.os
  tape : w.tape = w0.w.tape
  output : w.output = w0.w.output
  size : w0.w.heap.size ≤ w.heap.size
  block : ∀ b, w0.Z b → w.heap[b]? = w0.w.heap[b]?
theorem Keeps.refl (w0 : Base) : Keeps w0 w0.w := ⟨rfl, rfl, rfl, Nat.le_refl _, fun _ _ => rfl⟩
theorem Keeps.trans {w0 : Base} {w w' : World} (h : Keeps w0 w) (b : Below 0 w w') (e : ∀ b, w0.Z b → w'.heap[b]? = w.heap[b]?) : Keeps w0 w' :=
  ⟨b.os.trans h.os, b.tape.trans h.tape, b.output.trans h.output, Nat.le_trans h.size b.size, fun k hk => (e k hk).trans (h.block k hk)⟩
theorem Keeps.below {w0 : Base} {w : World} (h : Keeps w0 w) {B : Nat} (hB : ∀ b, b < B → w0.Z b) : Below B w0.w w := ⟨h.os, h.tape, h.output, h.size, fun k hk => h.block k (hB k hk)⟩
theorem Tab.of0 {w w' : World} (h : Tab w) (e : w'.heap[0]? = w.heap[0]?) : Tab w' := fun j hj => (World.cell?_of_block (w := w) (a := ⟨0, j, none⟩) e).trans (h j hj)
/-- All ports: their blocks, the parts of the keys. -/
structure Sys (w0 : Base) (w : World) (pb pm low n rest t : Nat) (B : Lit → Option PB) (S : Lit → PA) : Prop where
  head : Has w pb 51 #[.int .i64 low, .int .i64 n, .int .i64 rest, .map (some pm)]
  map : ∃ np, np ≤ t ∧ GMap Tryd.prog w 24 pm np (fun kl => (B kl).map fun p => .pointer (some ⟨p.xb, 0, none⟩))
  part : ∀ kl p, B kl = some p → PartOK w p n t (S kl) ∧ (∀ b, p.lo ≤ b → b < p.hi → ¬ w0.Z b) ∧ p.hi ≤ w.heap.size ∧ (pb < p.lo ∨ p.hi ≤ pb) ∧ (pm < p.lo ∨ p.hi ≤ pm)
  new : ∀ kl, B kl = none → S kl = PA.new
  disj : ∀ kl kl' p p', kl ≠ kl' → B kl = some p → B kl' = some p' → p.hi ≤ p'.lo ∨ p'.hi ≤ p.lo
  tab : Tab w
  bel : Keeps w0 w
  zlt : ∀ b, w0.Z b → b < w0.w.heap.size
  pos : w0.Z 0
  b1 : ¬ w0.Z pb
  b2 : ¬ w0.Z pm
  ne : pb ≠ pm
  lo1 : 1 ≤ n
  lo2 : 1 ≤ low
  hi1 : low + n ≤ 65536
  hi2 : rest ≤ 1099511627776
section
variable {w0 : Base} {w w' : World} {pb pm low n rest t : Nat} {B : Lit → Option PB} {S : Lit → PA}
theorem Sys.mlt (h : Sys w0 w pb pm low n rest t B S) : pm < w.heap.size := by obtain ⟨np, _, g⟩ := h.map; exact g.lt
theorem Sys.grow (h : Sys w0 w pb pm low n rest t B S) (hb : Below w.heap.size w w') : Sys w0 w' pb pm low n rest t B S := by
  obtain ⟨np, h1, g⟩ := h.map
  have Q : ∀ b, w0.Z b → w'.heap[b]? = w.heap[b]? := fun b hz => hb.block b (Nat.lt_of_lt_of_le (h.zlt b hz) h.bel.size)
  refine ⟨h.head.below hb, ⟨np, h1, g.below hb⟩, fun kl p hp => ?_, h.new, h.disj, h.tab.of0 (Q 0 h.pos), h.bel.trans (hb.mono (Nat.zero_le _)) Q, h.zlt, h.pos, h.b1, h.b2, h.ne, h.lo1, h.lo2, h.hi1, h.hi2⟩
  obtain ⟨q1, q2, q3, q4⟩ := h.part kl p hp
  exact ⟨q1.of_blocks (fun b hb' _ _ => hb.block b hb'), q2, Nat.le_trans q3 hb.size, q4⟩
/-- One part is turned. -/
theorem Sys.turn (h : Sys w0 w pb pm low n rest t B S) {kl : Lit} {p : PB} (hp : B kl = some p) (c : Chg (fun b => p.lo ≤ b ∧ b < p.hi) w w') {t' : Nat} (ht : t ≤ t') {A : PA} (hA : PartOK w' p n t' A) : Sys w0 w' pb pm low n rest t' B (upd S kl A) := by
  obtain ⟨np, h1, g⟩ := h.map
  obtain ⟨q1, q2, q3, q4, q5⟩ := h.part kl p hp
  have hlt := h.head.lt
  have hml := h.mlt
  have Q : ∀ b, w0.Z b → w'.heap[b]? = w.heap[b]? := fun b hz => c.block b (Nat.lt_of_lt_of_le (h.zlt b hz) h.bel.size) (fun ⟨a1, a2⟩ => q2 b a1 a2 hz)
  refine ⟨(c.block pb hlt (by omega)).trans h.head, ⟨np, by omega, g.of_block (c.block pm hml (by omega))⟩, fun kl' p' hp' => ?_, fun kl' hn => ?_, h.disj, h.tab.of0 (Q 0 h.pos), h.bel.trans (c.below (fun b _ => Nat.zero_le b) (Nat.zero_le _)) Q, h.zlt, h.pos, h.b1, h.b2, h.ne, h.lo1, h.lo2, h.hi1, h.hi2⟩
  · by_cases e : kl' = kl
    · subst e
      obtain rfl := Option.some.inj (hp.symm.trans hp')
      rw [upd_same]
      exact ⟨hA, q2, Nat.le_trans q3 c.size, q4, q5⟩
    · rw [upd_other _ _ e]
      obtain ⟨r1, r2, r3, r4⟩ := h.part kl' p' hp'
      have hd := h.disj kl' kl p' p e hp' hp
      exact ⟨(r1.of_blocks (fun b hb hb1 hb2 => c.block b hb (by omega))).more ht, r2, Nat.le_trans r3 c.size, r4⟩
  · by_cases e : kl' = kl
    · subst e; rw [hp] at hn; cases hn
    · rw [upd_other _ _ e]; exact h.new kl' hn
theorem Sys.rebase (h : Sys w0 w pb pm low n rest t B S) (Z : Nat → Prop) (hz : ∀ b, Z b → b < w.heap.size) (h0 : Z 0) (h1 : ¬ Z pb) (h2 : ¬ Z pm) (h3 : ∀ kl p, B kl = some p → ∀ b, p.lo ≤ b → b < p.hi → ¬ Z b) : Sys ⟨w, Z⟩ w pb pm low n rest t B S :=
  ⟨h.head, h.map, fun kl p hp => ⟨(h.part kl p hp).1, h3 kl p hp, (h.part kl p hp).2.2⟩, h.new, h.disj, h.tab, Keeps.refl _, hz, h0, h1, h2, h.ne, h.lo1, h.lo2, h.hi1, h.hi2⟩
end
end Go.Proofs.YthkadlmdjgdliaaDoor
