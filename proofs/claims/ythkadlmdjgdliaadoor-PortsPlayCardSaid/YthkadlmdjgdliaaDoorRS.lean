/- Slices that came in whose elements are deeds: structs that hold a struct. -/
import Derived.Test.YthkadlmdjgdliaaDoorRG
import Derived.Deep.Slices
import Derived.Deep.Fields
import Derived.ChangeSame
namespace Go.Proofs.YthkadlmdjgdliaaDoor
open Go.ChangeShapes Go.WideShapes Go.Deep Go.RowKit
set_option linter.unusedSimpArgs false
set_option linter.unusedVariables false

section
variable {H : Type} {enc : TypeId × Value → H} {W : World} {a : Option Addr} {len cap : Nat} {d : DataW H} {p : List MemPlace}
theorem trod_one {t : TypeId} {k : IntKind} {n : Nat} {v : Value} {y : DataW H × List MemPlace} (hu : Tryd.prog.underlying t = some (.int k)) (h : DataW.trod enc Tryd.prog W 0 (fun _ => true) true n t [v] = some y) : ∃ m, v = .int k m ∧ (Lit.int k m).wf = true := by
  obtain ⟨m, e, _, hw⟩ := DataW.trod_int hu h
  simp at e
  exact ⟨m, e, hw⟩
theorem deed_trod {n : Nat} {cs : List Value} {x : DataW H × List MemPlace} (h : DataW.trod enc Tryd.prog W 0 (fun _ => true) true n 39 cs = some x) : ∃ u : Dd, u.ok ∧ cs = (dcells u).toList := by
  obtain ⟨ys, n1, _, _, hl, hyl, hf⟩ := DataW.trod_struct Tryd.underlying39 h
  rw [show Tryd.prog.cellsOf 39 = 7 by kernel_rfl] at hl
  match cs, hl with
  | [c0, c1, c2, c3, c4, c5, c6], _ =>
    have e0 : DataW.trod enc Tryd.prog W 0 (fun _ => true) true n1 3 (List.take (Tryd.prog.cellsOf 3) (List.drop 0 [c0, c1, c2, c3, c4, c5, c6])) = ys[0]? := hf 0 _ rfl
    have e1 : DataW.trod enc Tryd.prog W 0 (fun _ => true) true n1 24 (List.take (Tryd.prog.cellsOf 24) (List.drop 1 [c0, c1, c2, c3, c4, c5, c6])) = ys[1]? := hf 1 _ rfl
    have e2 : DataW.trod enc Tryd.prog W 0 (fun _ => true) true n1 3 (List.take (Tryd.prog.cellsOf 3) (List.drop 5 [c0, c1, c2, c3, c4, c5, c6])) = ys[2]? := hf 2 _ rfl
    have e3 : DataW.trod enc Tryd.prog W 0 (fun _ => true) true n1 3 (List.take (Tryd.prog.cellsOf 3) (List.drop 6 [c0, c1, c2, c3, c4, c5, c6])) = ys[3]? := hf 3 _ rfl
    rw [cn3] at e0 e2 e3
    rw [cn24] at e1
    simp only [List.drop, List.take] at e0 e1 e2 e3
    have hy : ys.length = 4 := hyl
    match ys, hy with
    | [y0, y1, y2, y3], _ =>
      simp at e0 e1 e2 e3
      obtain ⟨m0, rfl, w0⟩ := trod_one Tryd.underlying3 e0
      obtain ⟨m5, rfl, w5⟩ := trod_one Tryd.underlying3 e2
      obtain ⟨m6, rfl, w6⟩ := trod_one Tryd.underlying3 e3
      obtain ⟨zs, n2, _, _, _, hz, hg⟩ := DataW.trod_struct Tryd.underlying24 e1
      have f0 : DataW.trod enc Tryd.prog W 0 (fun _ => true) true n2 3 (List.take (Tryd.prog.cellsOf 3) (List.drop 0 [c1, c2, c3, c4])) = zs[0]? := hg 0 _ rfl
      have f1 : DataW.trod enc Tryd.prog W 0 (fun _ => true) true n2 22 (List.take (Tryd.prog.cellsOf 22) (List.drop 1 [c1, c2, c3, c4])) = zs[1]? := hg 1 _ rfl
      have f2 : DataW.trod enc Tryd.prog W 0 (fun _ => true) true n2 22 (List.take (Tryd.prog.cellsOf 22) (List.drop 2 [c1, c2, c3, c4])) = zs[2]? := hg 2 _ rfl
      have f3 : DataW.trod enc Tryd.prog W 0 (fun _ => true) true n2 3 (List.take (Tryd.prog.cellsOf 3) (List.drop 3 [c1, c2, c3, c4])) = zs[3]? := hg 3 _ rfl
      rw [cn3] at f0 f3
      rw [cn22] at f1 f2
      simp only [List.drop, List.take] at f0 f1 f2 f3
      have hz2 : zs.length = 4 := hz
      match zs, hz2 with
      | [z0, z1, z2, z3], _ =>
        simp at f0 f1 f2 f3
        obtain ⟨m1, rfl, w1⟩ := trod_one Tryd.underlying3 f0
        obtain ⟨m2, rfl, w2⟩ := trod_one Tryd.underlying22 f1
        obtain ⟨m3, rfl, w3⟩ := trod_one Tryd.underlying22 f2
        obtain ⟨m4, rfl, w4⟩ := trod_one Tryd.underlying3 f3
        exact ⟨⟨m0, m1, m2, m3, m4, m5, m6⟩, ⟨w0, w1, w2, w3, w4, w5, w6⟩, rfl⟩
theorem deeds_in (h : DataW.Trod enc Tryd.prog W 0 (fun _ => true) true 35 (.slice a len cap) d p) : ∃ D, IsDeeds W a len D := by
  obtain ⟨fuel, hf⟩ := h
  rcases open_slice Tryd.underlying35 hf with ⟨hcs, _⟩ | ⟨x, l, c, m, n, D, Pl, hcs, _, hl, hm, hmm, _, hcell⟩
  · simp [Value.cells] at hcs
    obtain ⟨rfl, rfl, rfl⟩ := hcs
    exact ⟨fun _ => ⟨0, 0, 0, 0, 0, 0, 0⟩, .inl rfl⟩
  · simp [Value.cells] at hcs
    obtain ⟨rfl, rfl, rfl⟩ := hcs
    simp only [if_true] at hmm
    subst hmm
    rw [show Tryd.prog.cellsOf 39 = 7 by kernel_rfl] at hcell
    by_cases hz : len = 0
    · exact ⟨fun _ => ⟨0, 0, 0, 0, 0, 0, 0⟩, .inl hz⟩
    obtain ⟨b, off, spot⟩ := x
    have each0 : ∀ i, i < len → ∃ u : Dd, u.ok ∧ ∀ j, j < 7 → W.cell? (((⟨b, off, spot⟩ : Addr).add (i * 7)).add j) = (dcells u)[j]? := by
      intro i hi
      obtain ⟨cs, hc, ht⟩ := hcell i (by omega)
      obtain ⟨u, hu, rfl⟩ := deed_trod ht
      obtain ⟨_, hcl, hat⟩ := World.cells?_some hc
      refine ⟨u, hu, fun j hj => ?_⟩
      rw [hat j hj]
      simp
    have hspot : spot = none := by
      obtain ⟨u, _, hc⟩ := each0 0 (by omega)
      have := hc 0 (by omega)
      simpa [Addr.add] using World.cell?_spot this
    subst hspot
    have hlt : b < W.heap.size := by
      obtain ⟨u, _, hc⟩ := each0 0 (by omega)
      have := hc 0 (by omega)
      simpa [Addr.add] using lt_of_cell this
    unfold maxLen at hm
    have each : ∀ i, i < len → ∃ u : Dd, u.ok ∧ ∀ j, j < 7 → W.cell? ⟨b, off + i * 7 + j, none⟩ = (dcells u)[j]? := by
      intro i hi
      obtain ⟨u, hu, hc⟩ := each0 i hi
      refine ⟨u, hu, fun j hj => ?_⟩
      have := hc j hj
      rwa [add_none, add_none] at this
    refine ⟨fun i => if hi : i < len then (each i hi).choose else ⟨0, 0, 0, 0, 0, 0, 0⟩, .inr ⟨b, off, rfl, hlt, by omega, fun i hi => ?_⟩⟩
    simp only [hi, dite_true]
    exact (each i hi).choose_spec
end
end Go.Proofs.YthkadlmdjgdliaaDoor
