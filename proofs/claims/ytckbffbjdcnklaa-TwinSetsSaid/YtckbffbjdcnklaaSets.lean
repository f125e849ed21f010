/- TwinSets is proved: what is set is what is got; all come in the order of their handles, as long as they are asked for; the arguments stay as they were. No conditions. -/
import Derived.Test.YtckbffbjdcnklaaSW
import Derived.ProofKit
import Derived.OpenShut
import Derived.ShutString
import Derived.ChangeOld
import Derived.Below
namespace Go.Proofs.Ytckbffbjdcnklaa
namespace Sets
open Go.ChangeShapes Go.WideShapes Go.ChangeAt Go.RowKit
open Go.ChangeMaps (open_string shut_string)
set_option linter.unusedVariables false

theorem own : ownKnob Try.prog.godebug = none := by kernel_rfl
theorem laidOut : laidOutB Try.prog = true := by kernel_rfl

/-- The cells of a struct that came in. -/
theorem agg_cells {P : Program} {w : World} {r : Reach} {base : Nat} {t : TypeId} {fs : Array Field} {ts : List TypeId} {v : Value} (hu : P.underlying t = some (.struct fs)) (ht : P.cellTypes P.depth t = some ts) (hn : P.cellsOf t = ts.length)
    (h : Value.okWide P w r base t v) : ∃ cs : List Value, v = .agg ⟨cs⟩ ∧ cs.length = ts.length ∧ ∀ (i : Nat) (c : Value), cs[i]? = some c → ∃ u, ts[i]? = some u ∧ Cell.okWide P w r base u c := by
  simp only [Value.okWide, hu] at h
  obtain ⟨cs, h1, h2, ts', h3, _, h4⟩ := h
  rw [ht] at h3
  obtain rfl : ts = ts' := Option.some.inj h3
  rw [hn] at h2
  refine ⟨cs.toList, by simp [h1], by simpa using h2, fun i c hc => ?_⟩
  have hi : i < ts.length := by
    rw [← h2]
    by_cases q : i < cs.size
    · exact q
    · simp [List.getElem?_eq_none (show cs.toList.length ≤ i by simpa using q)] at hc
  have := h4 i c (by simpa using hc)
  rwa [Nat.mod_eq_of_lt hi] at this
theorem cell_int {P : Program} {w : World} {r : Reach} {base : Nat} {t : TypeId} {k : IntKind} {c : Value} (hu : P.underlying t = some (.int k)) (h : Cell.okWide P w r base t c) : ∃ n, c = .int k n ∧ k.has n := by
  simp only [Cell.okWide, hu] at h
  cases c <;> simp_all [Cell.ok]
theorem cell_bool {P : Program} {w : World} {r : Reach} {base : Nat} {t : TypeId} {c : Value} (hu : P.underlying t = some .bool) (h : Cell.okWide P w r base t c) : ∃ b, c = .bool b := by
  simp only [Cell.okWide, hu] at h
  cases c <;> simp_all [Cell.ok]


set_option maxRecDepth 100000 in
theorem lifted (os : Os) (started : os.Started) (H : Type) (enc : TypeId × Value → H) :
    ReturnsInHanded {} Try.checked os 4 .any (Rows.twinSetsSpec.pre6 enc Try.prog Try.f4 Rows.twinSetsRow.domain false) (Rows.twinSetsSpec.post enc Try.prog Try.f4 false true false false) := by
  refine returnsInHanded_of_change (C := Try.checked) own started (by kernel_rfl) Try.func4
    (ChangeSpec.witness6 (enc := enc) (C := Try.checked) false ⟨#[], #[.int .u8 0, .int .u8 0, .int .i64 0, .string ByteArray.empty], []⟩ 8 (by kernel_rfl) (by kernel_rfl) (by kernel_rfl) (by kernel_rfl)) ?_
  intro W base args ds gs before hval0 hW hcnd _
  have hval : ∀ (j : Nat) t v, Try.f4.params[j]? = some t → args[j]? = some v → Value.okWide Try.prog W .any base t v := hval0
  have hW' := hW
  obtain ⟨p, q, hA0, hV, rfl, hfz, hnd⟩ := hW
  have hA : DataW.TrodAll enc Try.prog W 0 (fun _ => true) true Try.f4.params.toList args.toList ds p := hA0
  rw [Try.params4] at hA hval
  obtain ⟨v0, vs0, d0, ds0, p0, q0, hargs, rfl, rfl, h0, r0⟩ := trodAll_cons hA
  obtain ⟨v1, vs1, d1, ds1, p1, q1, rfl, rfl, rfl, h1, r1⟩ := trodAll_cons r0
  obtain ⟨v2, vs2, d2, ds2, p2, q2, rfl, rfl, rfl, h2, r2⟩ := trodAll_cons r1
  obtain ⟨v3, vs3, d3, ds3, p3, q3, rfl, rfl, rfl, h3, r3⟩ := trodAll_cons r2
  obtain ⟨rfl, rfl, rfl⟩ := trodAll_nil r3
  obtain rfl : args = #[v0, v1, v2, v3] := by cases args; simp_all
  obtain ⟨rfl, rfl⟩ := trodVars_none hV
  have k0 := h0
  have lt0 : ∀ x ∈ p0, x.block < W.heap.size := by obtain ⟨m, hm⟩ := k0; exact DataW.trod_lt m _ _ _ hm
  obtain ⟨a0, rfl, rfl, rfl, w0⟩ := open_int Try.underlying5 (hval 0 5 v0 rfl rfl) h0
  have k1 := h1
  have lt1 : ∀ x ∈ p1, x.block < W.heap.size := by obtain ⟨m, hm⟩ := k1; exact DataW.trod_lt m _ _ _ hm
  obtain ⟨a1, rfl, rfl, rfl, w1⟩ := open_int Try.underlying5 (hval 1 5 v1 rfl rfl) h1
  have k2 := h2
  have lt2 : ∀ x ∈ p2, x.block < W.heap.size := by obtain ⟨m, hm⟩ := k2; exact DataW.trod_lt m _ _ _ hm
  obtain ⟨a2, rfl, rfl, rfl, w2⟩ := open_int Try.underlying3 (hval 2 3 v2 rfl rfl) h2
  have k3 := h3
  have lt3 : ∀ x ∈ p3, x.block < W.heap.size := by obtain ⟨m, hm⟩ := k3; exact DataW.trod_lt m _ _ _ hm
  obtain ⟨a3, rfl, rfl, rfl, w3⟩ := open_string Try.underlying9 (hval 3 9 v3 rfl rfl) h3
  clear hA0 hval0
  refine (sets_w a0 w0 a1 w1 a2 w2 a3 w3).mono fun e W' ⟨he, bel⟩ => ?_
  subst he
  exact ⟨_, rfl, _, _, _, [], _, [], hW', trodAll_mk1 (shut_bool Try.underlying4 _), (trodAll_cons_mk (shut_int Try.underlying5 w0) (trodAll_cons_mk (shut_int Try.underlying5 w1) (trodAll_cons_mk (shut_int Try.underlying3 w2) (trodAll_cons_mk (shut_string Try.underlying9 w3) trodAll_mk0)))), rfl, bel.frame _, fun h => by cases h⟩

theorem over : Rows.twinSetsRow.holds Try.pinned (OpenSpec.ofChange Rows.twinSetsSpec) :=
  OpenClaim.holds_of_wide 4 Try.f4 rfl rfl rfl rfl rfl rfl rfl ⟨rfl, rfl, rfl, rfl, rfl⟩ rfl rfl rfl rfl rfl (by kernel_rfl) Try.func4 (by kernel_rfl)
    (of_decide_eq_true (by kernel_rfl)) (by unfold Func.isWrapper; rw [if_neg (of_decide_eq_false (by kernel_rfl))]; exact ⟨rfl, rfl⟩)
    (fun os started H enc _ => lifted os started H enc)
end Sets

theorem twinSets_holds : Rows.TwinSetsSaid := Sets.over
#print axioms twinSets_holds
end Go.Proofs.Ytckbffbjdcnklaa
