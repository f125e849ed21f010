/- Slices that came in whose elements are structs of two integers. -/
import Derived.Test.YtlhbldbbjjlohaaDoorArgs
import Derived.Deep.SlicePairs
namespace Go.Proofs.YtlhbldbbjjlohaaDoor
open Go.RowKit Go.ChangeShapes
set_option linter.unusedSimpArgs false
set_option linter.unusedVariables false

def IsPairs (k0 k1 : IntKind) (w : World) (a : Option Addr) (len : Nat) (A B : Nat → Int) : Prop :=
  len = 0 ∨ ∃ b off, a = some ⟨b, off, none⟩ ∧ b < w.heap.size ∧ len ≤ 9223372036854775807 ∧ ∀ i, i < len → w.cell? ⟨b, off + i * 2, none⟩ = some (.int k0 (A i)) ∧ w.cell? ⟨b, off + (i * 2 + 1), none⟩ = some (.int k1 (B i)) ∧ (Lit.int k0 (A i)).wf = true ∧ (Lit.int k1 (B i)).wf = true
section
variable {H : Type} {enc : TypeId × Value → H} {P : Program} {W : World} {t e : TypeId} {a : Option Addr} {len cap : Nat} {d : DataW H} {p : List MemPlace} {f0 f1 : Field}
theorem slice_pairs {k0 k1 : IntKind} (ht : P.underlying t = some (.slice e)) (he : P.underlying e = some (.struct #[f0, f1])) (ce : P.cellsOf e = 2) (o0 : f0.offset = 0) (o1 : f1.offset = 1) (c0 : P.cellsOf f0.type = 1) (c1 : P.cellsOf f1.type = 1)
    (h0 : P.underlying f0.type = some (.int k0)) (h1 : P.underlying f1.type = some (.int k1)) (h : DataW.Trod enc P W 0 (fun _ => true) true t (.slice a len cap) d p) : ∃ A B, IsPairs k0 k1 W a len A B := by
  obtain ⟨fuel, hf⟩ := h
  rcases Go.Deep.open_slice_pairs ht he ce o0 o1 c0 c1 hf with ⟨hcs, _⟩ | ⟨x, l, c, m, n, V0, V1, D0, D1, P0, P1, hcs, _, hl, hm, hmm, _, hcell⟩
  · simp [Value.cells] at hcs
    obtain ⟨rfl, rfl, rfl⟩ := hcs
    exact ⟨fun _ => 0, fun _ => 0, .inl rfl⟩
  · simp [Value.cells] at hcs
    obtain ⟨rfl, rfl, rfl⟩ := hcs
    simp only [if_true] at hmm
    subst hmm
    by_cases hz : len = 0
    · exact ⟨fun _ => 0, fun _ => 0, .inl hz⟩
    obtain ⟨b, off, spot⟩ := x
    have hc0 := (hcell 0 (by omega)).1
    have hspot : spot = none := by simpa [Addr.add] using World.cell?_spot hc0
    subst hspot
    have hlt : b < W.heap.size := by simpa [Addr.add] using lt_of_cell hc0
    unfold maxLen at hm
    have each : ∀ i, i < len → ∃ q : Int × Int, W.cell? ⟨b, off + i * 2, none⟩ = some (.int k0 q.1) ∧ W.cell? ⟨b, off + (i * 2 + 1), none⟩ = some (.int k1 q.2) ∧ (Lit.int k0 q.1).wf = true ∧ (Lit.int k1 q.2).wf = true := by
      intro i hi
      obtain ⟨g0, g1, t0, t1⟩ := hcell i (by omega)
      obtain ⟨m0, e0, _, w0⟩ := DataW.trod_int h0 t0
      obtain ⟨m1, e1, _, w1⟩ := DataW.trod_int h1 t1
      simp at e0 e1
      rw [e0, add_none] at g0
      rw [e1, add_none] at g1
      exact ⟨(m0, m1), g0, g1, w0, w1⟩
    refine ⟨fun i => if hi : i < len then (each i hi).choose.1 else 0, fun i => if hi : i < len then (each i hi).choose.2 else 0, .inr ⟨b, off, rfl, hlt, by omega, fun i hi => ?_⟩⟩
    simp only [hi, dite_true]
    exact (each i hi).choose_spec
end
end Go.Proofs.YtlhbldbbjjlohaaDoor
