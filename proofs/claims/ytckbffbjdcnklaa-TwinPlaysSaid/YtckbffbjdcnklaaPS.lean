/- Slices that came in whose elements are structs of five one-cell fields. -/
import Derived.Test.YtckbffbjdcnklaaPX
import Derived.Deep.Slices
import Derived.Deep.Fields
import Derived.ChangeSame
namespace Go.Proofs.Ytckbffbjdcnklaa
open Go.ChangeShapes Go.WideShapes Go.Deep Go.RowKit
set_option linter.unusedSimpArgs false
set_option linter.unusedVariables false

section
variable {H : Type} {enc : TypeId × Value → H} {P : Program} {w : World} {base : Nat} {spare : Nat → Bool} {held : Bool}
theorem open_slice_fields {t e : TypeId} {fs : Array Field} {fuel : Nat} {cs : List Value} {x : DataW H × List MemPlace} (ht : P.underlying t = some (.slice e)) (he : P.underlying e = some (.struct fs))
    (hone : oneCellFields P fs = true) (hC : P.cellsOf e = fs.size) (h : DataW.trod enc P w base spare held fuel t cs = some x) :
    (cs = [.slice none 0 0] ∧ x = (.nil, [])) ∨
    ∃ (a : Addr) (len cap m : Nat) (D : Nat → DataW H) (Pl : Nat → List MemPlace), cs = [.slice (some a) len cap] ∧ base ≤ a.block ∧ len ≤ cap ∧ cap ≤ maxLen ∧ m = (if spare a.block then cap else len) ∧
      x = (.slice ((List.range len).map D) ((List.range (m - len)).map fun j => D (len + j)), MemPlace.row a (m * fs.size) ++ (List.range m).flatMap Pl) ∧
      ∀ i, i < m → ∃ (ys : List (DataW H × List MemPlace)) (n : Nat), D i = .agg (ys.map (·.1)) ∧ Pl i = ys.flatMap (·.2) ∧ ys.length = fs.size ∧
        ∀ (j : Nat) (f : Field), fs[j]? = some f → ∃ (v : Value) (y : DataW H × List MemPlace), w.cell? (a.add (i * fs.size + j)) = some v ∧ ys[j]? = some y ∧ DataW.trod enc P w base spare held n f.type [v] = some y := by
  rcases open_slice ht h with h0 | ⟨a, len, cap, m, n, D, Pl, hcs, hb, hl, hm, hmm, hx, hi⟩
  · exact .inl h0
  · refine .inr ⟨a, len, cap, m, D, Pl, hcs, hb, hl, hm, hmm, by rw [hC] at hx; exact hx, fun i him => ?_⟩
    obtain ⟨cs', hc, ht'⟩ := hi i him
    rw [hC] at hc
    obtain ⟨ys, n', hn', hy, hlen, hyl, hf⟩ := DataW.trod_struct he ht'
    obtain ⟨_, hcl, hat⟩ := World.cells?_some hc
    simp only [Prod.mk.injEq] at hy
    refine ⟨ys, n', hy.1, hy.2, hyl, fun j f hj => ?_⟩
    obtain ⟨ho, hk⟩ := hone_of hone j f hj
    have hjl : j < fs.size := (Array.getElem?_eq_some_iff.1 hj).1
    have hcell := hat j hjl
    have hv : cs'[j]? = some (cs'[j]'(by omega)) := List.getElem?_eq_getElem (by omega)
    have h1 := hf j f hj
    rw [ho, hk] at h1
    have hone' : (cs'.drop j).take 1 = [cs'[j]'(by omega)] := by
      rw [List.drop_eq_getElem_cons (by omega)]
      rfl
    rw [hone'] at h1
    have hys : ys[j]? = some (ys[j]'(by omega)) := List.getElem?_eq_getElem (by omega)
    refine ⟨_, _, ?_, hys, h1.trans hys⟩
    rw [← Go.Deep.add_add, hcell, hv]
end
section
variable {H : Type} {enc : TypeId × Value → H} {W : World} {a : Option Addr} {len cap : Nat} {d : DataW H} {p : List MemPlace}
theorem deeds_in (h : DataW.Trod enc Try.prog W 0 (fun _ => true) true 58 (.slice a len cap) d p) : ∃ D, IsDeeds W a len D := by
  obtain ⟨fuel, hf⟩ := h
  rcases open_slice_fields Try.underlying58 Try.underlying66 (by kernel_rfl) (by kernel_rfl) hf with ⟨hcs, _⟩ | ⟨x, l, c, m, D, Pl, hcs, _, hl, hm, hmm, _, hcell⟩
  · simp [Value.cells] at hcs
    obtain ⟨rfl, rfl, rfl⟩ := hcs
    exact ⟨fun _ => ⟨0, 0, ⟨#[]⟩, 0, ⟨#[]⟩⟩, .inl rfl⟩
  · simp [Value.cells] at hcs
    obtain ⟨rfl, rfl, rfl⟩ := hcs
    simp only [if_true] at hmm
    subst hmm
    by_cases hz : len = 0
    · exact ⟨fun _ => ⟨0, 0, ⟨#[]⟩, 0, ⟨#[]⟩⟩, .inl hz⟩
    obtain ⟨b, off, spot⟩ := x
    have hc0 : ∃ v, W.cell? ((⟨b, off, spot⟩ : Addr).add (0 * 5 + 0)) = some v := by
      obtain ⟨ys, n, _, _, _, hf⟩ := hcell 0 (by omega)
      obtain ⟨v, y, g, _⟩ := hf 0 _ rfl
      exact ⟨v, g⟩
    obtain ⟨v0, hc0⟩ := hc0
    have hspot : spot = none := by simpa [Addr.add] using World.cell?_spot hc0
    subst hspot
    have hlt : b < W.heap.size := by simpa [Addr.add] using lt_of_cell hc0
    unfold maxLen at hm
    have each : ∀ i, i < len → ∃ u : Deed, u.ok ∧ W.cell? ⟨b, off + i * 5, none⟩ = some (.int .i64 u.k) ∧ W.cell? ⟨b, off + i * 5 + 1, none⟩ = some (.int .i64 u.h) ∧ W.cell? ⟨b, off + i * 5 + 2, none⟩ = some (.string u.a) ∧ W.cell? ⟨b, off + i * 5 + 3, none⟩ = some (.int .i64 u.b) ∧ W.cell? ⟨b, off + i * 5 + 4, none⟩ = some (.string u.v) := by
      intro i hi
      obtain ⟨ys, n, _, _, _, hf⟩ := hcell i (by omega)
      obtain ⟨v0, y0, g0, _, t0⟩ := hf 0 _ rfl
      obtain ⟨v1, y1, g1, _, t1⟩ := hf 1 _ rfl
      obtain ⟨v2, y2, g2, _, t2⟩ := hf 2 _ rfl
      obtain ⟨v3, y3, g3, _, t3⟩ := hf 3 _ rfl
      obtain ⟨v4, y4, g4, _, t4⟩ := hf 4 _ rfl
      obtain ⟨m0, e0, _, w0⟩ := DataW.trod_int Try.underlying3 t0
      obtain ⟨m1, e1, _, w1⟩ := DataW.trod_int Try.underlying3 t1
      obtain ⟨m2, e2, _, w2⟩ := DataW.trod_string Try.underlying9 t2
      obtain ⟨m3, e3, _, w3⟩ := DataW.trod_int Try.underlying3 t3
      obtain ⟨m4, e4, _, w4⟩ := DataW.trod_string Try.underlying9 t4
      simp at e0 e1 e2 e3 e4
      rw [e0, add_none] at g0
      rw [e1, add_none] at g1
      rw [e2, add_none] at g2
      rw [e3, add_none] at g3
      rw [e4, add_none] at g4
      exact ⟨⟨m0, m1, m2, m3, m4⟩, ⟨wf_i64 w0, w2, w3⟩, g0, g1, g2, g3, g4⟩
    refine ⟨fun i => if hi : i < len then (each i hi).choose else ⟨0, 0, ⟨#[]⟩, 0, ⟨#[]⟩⟩, .inr ⟨b, off, rfl, hlt, by omega, fun i hi => ?_⟩⟩
    simp only [hi, dite_true]
    exact (each i hi).choose_spec
end
end Go.Proofs.Ytckbffbjdcnklaa
