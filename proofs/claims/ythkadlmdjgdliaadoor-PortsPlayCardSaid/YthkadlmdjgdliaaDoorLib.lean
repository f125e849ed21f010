/- Small lemmas on worlds, used by the walks of this seat; they speak of no program. -/
import Derived.WalkKit
import Derived.WalkLawsBesides
import Derived.WalkSpells
import Derived.Lib.Hide
import Derived.Below
namespace Go.Proofs.YthkadlmdjgdliaaDoor
open Go.RowKit
set_option linter.unusedSimpArgs false
set_option linter.unusedVariables false

theorem bcell {W w1 : World} (hb : Below W.heap.size W w1) : (∀ b o, b < W.heap.size → w1.cell? ⟨b, o, none⟩ = W.cell? ⟨b, o, none⟩) ∧ (∀ b o, b < W.heap.size → w1.frozen? ⟨b, o, none⟩ = W.frozen? ⟨b, o, none⟩) :=
  ⟨fun b o h => hb.cell (p := ⟨b, o, none⟩) h, fun b o h => hb.frozen (p := ⟨b, o, none⟩) h⟩

/-- Block b is a row of cells of type t, none of them frozen. -/
def Has (w : World) (b : Nat) (t : TypeId) (xs : Array Value) : Prop := w.heap[b]? = some (.cells xs t (0, 0))

section
variable {w w1 : World} {b : Nat} {t : TypeId} {xs : Array Value}
theorem Has.lt (h : Has w b t xs) : b < w.heap.size := by
  rcases Nat.lt_or_ge b w.heap.size with h' | h'
  · exact h'
  · simp [Has, Array.getElem?_eq_none h'] at h
theorem Has.cell (h : Has w b t xs) (o : Nat) : w.cell? ⟨b, o, none⟩ = xs[o]? := by
  unfold Has at h; simp [World.cell?, h]
theorem Has.free (h : Has w b t xs) (o : Nat) : w.frozen? ⟨b, o, none⟩ = false := by
  unfold Has at h; simp [World.frozen?, h]
theorem Has.new (w : World) (xs : Array Value) (t : TypeId) : Has (w.alloc (.cells xs t)) w.heap.size t xs := heap_alloc_new w _
theorem Has.below (h : Has w b t xs) (hb : Below w.heap.size w w1) : Has w1 b t xs := (hb.block b h.lt).trans h
theorem Has.belowAt {B : Nat} (h : Has w b t xs) (hb : Below B w w1) (hB : b < B) : Has w1 b t xs := (hb.block b hB).trans h
theorem Has.alloc (h : Has w b t xs) (o : Obj) : Has (w.alloc o) b t xs := (Below.heap_alloc w o b h.lt).trans h
theorem Has.drew (h : Has w b t xs) : Has w.drew b t xs := h
theorem Has.set (h : Has w b t xs) (i : Nat) (v : Value) : Has (w.setCell ⟨b, i, none⟩ v) b t (xs.setIfInBounds i v) := by
  unfold Has at *
  simp [World.setCell, Array.getElem?_modify, h]
theorem Has.setOther (h : Has w b t xs) {c : Nat} (i : Nat) (hc : b ≠ c) (v : Value) : Has (w.setCell ⟨c, i, none⟩ v) b t xs :=
  (Below.heap_setCell w ⟨c, i, none⟩ v b hc).trans h
end
theorem Below.lt_of {B : Nat} {w w1 : World} (h : Below B w w1) {k : Nat} (hk : k < w.heap.size) : k < w1.heap.size := Nat.lt_of_lt_of_le hk h.size

end Go.Proofs.YthkadlmdjgdliaaDoor
