/- A base world and what stays of it; small lemmas for tables. -/
import Derived.Test.YtckbffbjdcnklaaGMapEntry
import Derived.Test.YtckbffbjdcnklaaRows
import Derived.Test.YtckbffbjdcnklaaArgs
import Derived.Deep.QuietTactic
import Derived.BigQuiet
import Derived.Deep.RegionHeld3
import Derived.Deep.AppendLies
import Derived.Maps.AppendAt
import Derived.OwnWalk
import Derived.IntWalk
import Derived.Outline
namespace Go.Proofs.Ytckbffbjdcnklaa
open Go.RowKit
set_option linter.unusedSimpArgs false
set_option linter.unusedVariables false

/-- A world, and the blocks of it that stay as they are. -/
structure Base where
  w : World
  Z : Nat → Prop
structure Keeps (w0 : Base) (w : World) : Prop where
  os : w.os = w0.w.os
  tape : w.tape = w0.w.tape
  output : w.output = w0.w.output
  size : w0.w.heap.size ≤ w.heap.size
  block : ∀ b, w0.Z b → w.heap[b]? = w0.w.heap[b]?
  zlt : ∀ b, w0.Z b → b < w0.w.heap.size
theorem Keeps.refl (w0 : Base) (h : ∀ b, w0.Z b → b < w0.w.heap.size) : Keeps w0 w0.w := ⟨rfl, rfl, rfl, Nat.le_refl _, fun _ _ => rfl, h⟩
theorem Keeps.trans {w0 : Base} {w w' : World} {S : Nat → Prop} (h : Keeps w0 w) (c : Chg S w w') (e : ∀ b, S b → ¬ w0.Z b) : Keeps w0 w' :=
  ⟨c.os.trans h.os, c.tape.trans h.tape, c.output.trans h.output, Nat.le_trans h.size c.size, fun k hk => (c.block k (Nat.lt_of_lt_of_le (h.zlt k hk) h.size) (fun hs => e k hs hk)).trans (h.block k hk), h.zlt⟩
theorem Keeps.below {w0 : Base} {w : World} (h : Keeps w0 w) {B : Nat} (hB : ∀ b, b < B → w0.Z b) : Below B w0.w w := ⟨h.os, h.tape, h.output, h.size, fun k hk => h.block k (hB k hk)⟩
theorem Keeps.new {w0 : Base} {w : World} (h : Keeps w0 w) {b : Nat} (hb : w.heap.size ≤ b) : ¬ w0.Z b := fun hz => by have := h.zlt b hz; have := h.size; omega
theorem bel_dr {B : Nat} {w w' : World} (h : Below B w w') (q : Nat) : Below B w (w'.drewN q) := ⟨h.os, h.tape, h.output, h.size, h.block⟩
theorem Chg.grown {S : Nat → Prop} {w w' : World} {row : Option Nat} (h : w.grownBy w' row) (hr : ∀ k, row = some k → S k) : Chg S w w' :=
  ⟨h.os, h.tape, h.output, h.size, fun k hk hn => h.block k hk (fun e => hn (hr k e.symm))⟩
theorem Chg.dr {S : Nat → Prop} {w w' : World} (h : Chg S w w') (q : Nat) : Chg S w (w'.drewN q) := ⟨h.os, h.tape, h.output, h.size, h.block⟩
theorem wf_nat (x : Nat) (hx : x < 9223372036854775808) : (Lit.int .i64 (x : Int)).wf = true := by
  have hmin : IntKind.i64.min = -9223372036854775808 := rfl
  have hmax : IntKind.i64.max = 9223372036854775807 := rfl
  simp only [Lit.wf, Bool.and_eq_true, decide_eq_true_eq]
  omega
theorem zero3 (w : World) : (zeroValue 3).run Try.prog w = .ok (.int .i64 0) w := by kernel_rfl
end Go.Proofs.Ytckbffbjdcnklaa
