/- TwinPlays is proved: things come and go, and are found, deed by deed, just as the chapter says, for every room and every row of deeds; the arguments stay as they were. No conditions. -/
import Derived.Test.YtckbffbjdcnklaaPS
import Derived.ProofKit
import Derived.OpenShut
import Derived.ShutString
import Derived.ChangeOld
import Derived.Below
namespace Go.Proofs.Ytckbffbjdcnklaa
namespace Plays
open Go.ChangeShapes Go.WideShapes Go.ChangeAt Go.RowKit
open Go.ChangeMaps (open_string shut_string)
set_option linter.unusedVariables false

theorem own : ownKnob Try.prog.godebug = none := by kernel_rfl
theorem laidOut : laidOutB Try.prog = true := by kernel_rfl

/-- The cells of a struct that came in. -/
theorem agg_cells {P : Program} {w : World} {r : Reach} {base : Nat} {t : TypeId} {fs : Array Field} {ts : List TypeId} {v : Value} (hu : P.underlying t = some (.struct fs)) (ht : P.cellTypes P.depth t = some ts) (hn : P.cellsOf t = ts.length)
    (h : Value.okWide P w r base t v) : ∃ cs : List Value, v = .agg ⟨cs⟩ ∧ cs.length = ts.length ∧ ∀ (i : Nat) (c : Value), cs[i]? = some c → ∃ u, ts[i]? = some u ∧ Cell.okWide P w r base u c := by
  simp only [Value.okWide, hu] at h
  obtain ⟨cs, h1, h2, ts', h3, _, h4⟩ := h
  rw [ht] at h3
  obtain rfl : ts = ts' := Option.some.inj h3
  rw [hn] at h2
  refine ⟨cs.toList, by simp [h1], by simpa using h2, fun i c hc => ?_⟩
  have hi : i < ts.length := by
    rw [← h2]
    by_cases q : i < cs.size
    · exact q
    · simp [List.getElem?_eq_none (show cs.toList.length ≤ i by simpa using q)] at hc
  have := h4 i c (by simpa using hc)
  rwa [Nat.mod_eq_of_lt hi] at this
theorem cell_int {P : Program} {w : World} {r : Reach} {base : Nat} {t : TypeId} {k : IntKind} {c : Value} (hu : P.underlying t = some (.int k)) (h : Cell.okWide P w r base t c) : ∃ n, c = .int k n ∧ k.has n := by
  simp only [Cell.okWide, hu] at h
  cases c <;> simp_all [Cell.ok]
theorem cell_bool {P : Program} {w : World} {r : Reach} {base : Nat} {t : TypeId} {c : Value} (hu : P.underlying t = some .bool) (h : Cell.okWide P w r base t c) : ∃ b, c = .bool b := by
  simp only [Cell.okWide, hu] at h
  cases c <;> simp_all [Cell.ok]


set_option maxRecDepth 100000 in
theorem lifted (os : Os) (started : os.Started) (H : Type) (enc : TypeId × Value → H) :
    ReturnsInHanded {} Try.checked os 6 .any (Rows.twinPlaysSpec.pre6 enc Try.prog Try.f6 Rows.twinPlaysRow.domain false) (Rows.twinPlaysSpec.post enc Try.prog Try.f6 false true false false) := by
  refine returnsInHanded_of_change (C := Try.checked) own started (by kernel_rfl) Try.func6
    (ChangeSpec.witness6 (enc := enc) (C := Try.checked) false ⟨#[], #[.int .i64 0, .slice none 0 0], []⟩ 8 (by kernel_rfl) (by kernel_rfl) (by kernel_rfl) (by kernel_rfl)) ?_
  intro W base args ds gs before hval0 hW hcnd _
  have hval : ∀ (j : Nat) t v, Try.f6.params[j]? = some t → args[j]? = some v → Value.okWide Try.prog W .any base t v := hval0
  have hW' := hW
  obtain ⟨p, q, hA0, hV, rfl, hfz, hnd⟩ := hW
  have hA : DataW.TrodAll enc Try.prog W 0 (fun _ => true) true Try.f6.params.toList args.toList ds p := hA0
  rw [Try.params6] at hA hval
  obtain ⟨v0, vs0, d0, ds0, p0, q0, hargs, rfl, rfl, h0, r0⟩ := trodAll_cons hA
  obtain ⟨v1, vs1, d1, ds1, p1, q1, rfl, rfl, rfl, h1, r1⟩ := trodAll_cons r0
  obtain ⟨rfl, rfl, rfl⟩ := trodAll_nil r1
  obtain rfl : args = #[v0, v1] := by cases args; simp_all
  obtain ⟨rfl, rfl⟩ := trodVars_none hV
  have k0 := h0
  have lt0 : ∀ x ∈ p0, x.block < W.heap.size := by obtain ⟨m, hm⟩ := k0; exact DataW.trod_lt m _ _ _ hm
  obtain ⟨a0, rfl, rfl, rfl, w0⟩ := open_int Try.underlying3 (hval 0 3 v0 rfl rfl) h0
  have k1 := h1
  have lt1 : ∀ x ∈ p1, x.block < W.heap.size := by obtain ⟨m, hm⟩ := k1; exact DataW.trod_lt m _ _ _ hm
  obtain ⟨a1, len1, cap1, rfl⟩ := okWide_slice Try.underlying58 (hval 1 58 v1 rfl rfl)
  obtain ⟨D, o1⟩ := deeds_in h1
  obtain ⟨b0, b1⟩ := wf_i64 w0
  clear hA0 hval0
  refine (plays_c a0 b0 b1 a1 len1 cap1 D W o1).mono fun e W' ⟨he, bel⟩ => ?_
  subst he
  exact ⟨_, rfl, _, _, _, [], _, [], hW', trodAll_mk1 (shut_bool Try.underlying4 _), (trodAll_cons_mk (shut_int Try.underlying3 w0) (trodAll_cons_mk (Below.trod laidOut (by kernel_rfl) (of_decide_eq_true (by kernel_rfl)) k1 bel lt1) trodAll_mk0)), rfl, bel.frame _, fun h => by cases h⟩

theorem over : Rows.twinPlaysRow.holds Try.pinned (OpenSpec.ofChange Rows.twinPlaysSpec) :=
  OpenClaim.holds_of_wide 6 Try.f6 rfl rfl rfl rfl rfl rfl rfl ⟨rfl, rfl, rfl, rfl, rfl⟩ rfl rfl rfl rfl rfl (by kernel_rfl) Try.func6 (by kernel_rfl)
    (of_decide_eq_true (by kernel_rfl)) (by unfold Func.isWrapper; rw [if_neg (of_decide_eq_false (by kernel_rfl))]; exact ⟨rfl, rfl⟩)
    (fun os started H enc _ => lifted os started H enc)
end Plays

theorem twinPlays_holds : Rows.TwinPlaysSaid := Plays.over
#print axioms twinPlays_holds
end Go.Proofs.Ytckbffbjdcnklaa
