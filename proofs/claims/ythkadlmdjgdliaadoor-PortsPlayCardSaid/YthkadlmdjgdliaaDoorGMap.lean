/- Maps that the code itself made: which keys are there, what they hold, how many they are. They speak of no program. -/
import Derived.Maps.OwnSet
import Derived.Below
namespace Go.Proofs.YthkadlmdjgdliaaDoor
open Go.RowKit
set_option linter.unusedSimpArgs false
set_option linter.unusedVariables false

/-- An element read as itself. -/
def asIs (v : Value) : Option (DataW Value × List MemPlace) := some (.held v, [])

/-- Block b is a map of n entries: at a key there is what M says. -/
def GMap (P : Program) (w : World) (K : TypeId) (b n : Nat) (M : Lit → Option Value) : Prop :=
  ∃ D : DataW Value, w.ownsMap P K asIs b n D ∧ Maps.size D = n ∧ ∀ kl, Maps.has D kl = (M kl).isSome ∧ ∀ z, D.atKey kl z = match M kl with | some v => .held v | none => z

open Classical in
noncomputable def putM (M : Lit → Option Value) (kl : Lit) (v : Option Value) : Lit → Option Value := fun x => if x = kl then v else M x

section
variable {P : Program} {w w' : World} {K E T : TypeId} {b n : Nat} {M : Lit → Option Value}

theorem ownsMap_exact {D : DataW Value} (h : w.ownsMap P K asIs b n D) : w.ownsMap P K asIs b (Maps.size D) D := by
  obtain ⟨es, clock, hb, F, hs, rfl⟩ := h
  exact ⟨es, clock, hb, F, by simp [Maps.size, length_sorted], rfl⟩

theorem GMap.lt (h : GMap P w K b n M) : b < w.heap.size := by obtain ⟨D, h, _⟩ := h; exact h.lt
theorem GMap.of_block (h : GMap P w K b n M) (e : w'.heap[b]? = w.heap[b]?) : GMap P w' K b n M := by
  obtain ⟨D, ⟨es, clock, hb, r⟩, q⟩ := h
  exact ⟨D, ⟨es, clock, e.trans hb, r⟩, q⟩
theorem GMap.below (h : GMap P w K b n M) (hb : Below w.heap.size w w') : GMap P w' K b n M := h.of_block (hb.block b h.lt)
theorem GMap.belowAt {B : Nat} (h : GMap P w K b n M) (hb : Below B w w') (hB : b < B) : GMap P w' K b n M := h.of_block (hb.block b hB)
theorem GMap.congr {M' : Lit → Option Value} (h : GMap P w K b n M) (e : ∀ k, M k = M' k) : GMap P w K b n M' := by
  obtain rfl : M = M' := funext e
  exact h
theorem GMap.made (P : Program) (w : World) (K : TypeId) : GMap P (w.alloc (.map #[] 0)) K w.heap.size 0 (fun _ => none) :=
  ⟨.map [], World.ownsMap_made _ _ _ _, rfl, fun kl => ⟨rfl, fun z => rfl⟩⟩

theorem GMap.look (h : GMap P w K b n M) (Kd : Maps.Keyed P K) (ht : P.underlying T = some (.map K E)) {z : Value} (hz : ∀ w, (zeroValue E).run P w = .ok z w) {key : Value} {kl : Lit} (hkey : keyOf P K key = some kl) :
    (Instr.lookup T (.map (some b)) key false).run P w = .ok ((M kl).getD z) w := by
  obtain ⟨D, h, _, hM⟩ := h
  obtain ⟨v, ps, hrun, hv⟩ := h.lookup Kd ht (hz w) (zd := .held z) (zp := []) rfl hkey
  rw [hrun]
  rw [(hM kl).2] at hv
  simp only [asIs, Option.some.injEq, Prod.mk.injEq] at hv
  cases hm : M kl with
  | none => rw [hm] at hv; simp at hv; simp [hv.1]
  | some u => rw [hm] at hv; simp at hv; simp [hv.1]
theorem GMap.look_ok (h : GMap P w K b n M) (Kd : Maps.Keyed P K) (ht : P.underlying T = some (.map K E)) {z : Value} (hz : ∀ w, (zeroValue E).run P w = .ok z w) {key : Value} {kl : Lit} (hkey : keyOf P K key = some kl) :
    (Instr.lookup T (.map (some b)) key true).run P w = .ok (.tuple #[(M kl).getD z, .bool (M kl).isSome]) w := by
  obtain ⟨D, h, _, hM⟩ := h
  obtain ⟨v, ps, hrun, hv⟩ := h.look_ok Kd ht (hz w) (zd := .held z) (zp := []) rfl hkey
  rw [hrun, (hM kl).1]
  rw [(hM kl).2] at hv
  simp only [asIs, Option.some.injEq, Prod.mk.injEq] at hv
  cases hm : M kl with
  | none => rw [hm] at hv; simp at hv; simp [hv.1]
  | some u => rw [hm] at hv; simp at hv; simp [hv.1]
theorem GMap.len (h : GMap P w K b n M) (ht : P.underlying T = some (.map K E)) (ty : TypeId) : (Builtin.len_ #[T] ty #[.map (some b)]).run P w = .ok (.int .i64 n) w := by
  obtain ⟨D, h, hs, _⟩ := h
  rw [h.len ht ty, hs]
theorem putM_same (M : Lit → Option Value) (kl : Lit) (v : Option Value) : putM M kl v kl = v := by simp [putM]
theorem putM_other (M : Lit → Option Value) {kl x : Lit} (v : Option Value) (h : x ≠ kl) : putM M kl v x = M x := by simp [putM, h]

theorem turned_below (h : w.mapTurned w' b) {B : Nat} (hB : B ≤ b) : Below B w w' := by
  have g := h.grown
  exact (Below.refl B w).grown (row := some b) (w := w) ⟨g.os, g.tape, g.output, g.size, g.block⟩ (by
    obtain ⟨es, clock, _, _, hb, _⟩ := h
    have : b < w.heap.size := by
      rcases Nat.lt_or_ge b w.heap.size with q | q
      · exact q
      · simp [Array.getElem?_eq_none q] at hb
    omega) (fun k hk => by cases hk; exact hB)
theorem turned_block (h : w.mapTurned w' b) {c : Nat} (hc : c ≠ b) : w'.heap[c]? = w.heap[c]? := by
  obtain ⟨es, clock, es', clock', hb, rfl⟩ := h
  exact ChangeMaps.heap_setBlock_other hb _ hc
theorem turned_size (h : w.mapTurned w' b) : w'.heap.size = w.heap.size := by
  obtain ⟨es, clock, es', clock', hb, rfl⟩ := h
  simp [ChangeMaps.setBlock]

theorem GMap.store (h : GMap P w K b n M) (Kd : Maps.Keyed P K) (ht : P.underlying T = some (.map K E)) (hn : n < maxLen) {key val : Value} {kl : Lit} (hk : WideAt.IsKeyLit kl) (hkey : keyOf P K key = some kl) :
    ∃ w', (Instr.mapUpdate T (.map (some b)) key val).run P w = .ok () w' ∧ GMap P w' K b (if (M kl).isSome then n else n + 1) (putM M kl (some val)) ∧ w.mapTurned w' b := by
  obtain ⟨D, h, hs, hM⟩ := h
  obtain ⟨w', hrun, h', ht'⟩ := h.store Kd ht hn hkey (val := val) (d := .held val) (ps := []) rfl
  have hsz : Maps.size (D.put kl (.held val)) = if (M kl).isSome then n else n + 1 := by rw [Maps.size_put (h.tidy Kd), (hM kl).1, hs]
  refine ⟨w', hrun, ⟨D.put kl (.held val), hsz ▸ ownsMap_exact h', hsz, fun x => ?_⟩, ht'⟩
  by_cases e : x = kl
  · subst e
    rw [putM_same]
    exact ⟨Maps.has_put_same h.isMap hk _, fun z => Maps.atKey_put_same h.isMap hk _ z⟩
  · rw [putM_other _ _ e]
    exact ⟨(Maps.has_put_other e _).trans (hM x).1, fun z => (Maps.atKey_put_other e _ z).trans ((hM x).2 z)⟩
theorem GMap.drop (h : GMap P w K b n M) (Kd : Maps.Keyed P K) (ht : P.underlying T = some (.map K E)) {key : Value} {kl : Lit} (hkey : keyOf P K key = some kl) (ty : TypeId) :
    ∃ w', (Builtin.delete_ #[T, K] ty #[.map (some b), key]).run P w = .ok (.tuple #[]) w' ∧ GMap P w' K b (if (M kl).isSome then n - 1 else n) (putM M kl none) ∧ w.mapTurned w' b := by
  obtain ⟨D, h, hs, hM⟩ := h
  obtain ⟨w', hrun, h', ht'⟩ := h.drop Kd ht hkey ty
  have hsz : Maps.size (D.del kl) = if (M kl).isSome then n - 1 else n := by
    have := Maps.size_del (k := kl) (h.tidy Kd)
    rw [(hM kl).1, hs] at this
    split at this <;> rename_i e <;> simp [e] <;> omega
  refine ⟨w', hrun, ⟨D.del kl, hsz ▸ ownsMap_exact h', hsz, fun x => ?_⟩, ht'⟩
  by_cases e : x = kl
  · subst e
    rw [putM_same]
    exact ⟨Maps.has_del_same, fun z => Maps.atKey_del_same z⟩
  · rw [putM_other _ _ e]
    exact ⟨(Maps.has_del_other e).trans (hM x).1, fun z => (Maps.atKey_del_other e z).trans ((hM x).2 z)⟩
end
end Go.Proofs.YthkadlmdjgdliaaDoor
