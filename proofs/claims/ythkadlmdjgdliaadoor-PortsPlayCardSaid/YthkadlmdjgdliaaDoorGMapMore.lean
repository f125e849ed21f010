/- Maps that the code itself made: deletes in a range; which blocks a call turned. They speak of no program. -/
import Derived.Test.YthkadlmdjgdliaaDoorGMapOps
namespace Go.Proofs.YthkadlmdjgdliaaDoor
open Go.RowKit
set_option linter.unusedSimpArgs false
set_option linter.unusedVariables false

/-- Only blocks of S were turned, and new ones made. -/
structure Chg (S : Nat → Prop) (w w' : World) : Prop where
  os : w'.os = w.os
  tape : w'.tape = w.tape
  output : w'.output = w.output
  size : w.heap.size ≤ w'.heap.size
  block : ∀ k, k < w.heap.size → ¬ S k → w'.heap[k]? = w.heap[k]?
section
variable {S T : Nat → Prop} {w w1 w' : World}
theorem Chg.refl (S : Nat → Prop) (w : World) : Chg S w w := ⟨rfl, rfl, rfl, Nat.le_refl _, fun _ _ _ => rfl⟩
theorem Chg.trans (h : Chg S w w1) (k : Chg S w1 w') : Chg S w w' :=
  ⟨k.os.trans h.os, k.tape.trans h.tape, k.output.trans h.output, Nat.le_trans h.size k.size, fun i hi hn => (k.block i (Nat.lt_of_lt_of_le hi h.size) hn).trans (h.block i hi hn)⟩
theorem Chg.mono (h : Chg S w w') (hS : ∀ b, b < w.heap.size → S b → T b) : Chg T w w' := ⟨h.os, h.tape, h.output, h.size, fun k hk hn => h.block k hk fun hs => hn (hS k hk hs)⟩
theorem Chg.below (h : Chg S w w') {B : Nat} (hS : ∀ b, S b → B ≤ b) (hB : B ≤ w.heap.size) : Below B w w' :=
  ⟨h.os, h.tape, h.output, h.size, fun k hk => h.block k (Nat.lt_of_lt_of_le hk hB) fun hs => absurd (hS k hs) (by omega)⟩
theorem Chg.of_below (h : Below w.heap.size w w') : Chg S w w' := ⟨h.os, h.tape, h.output, h.size, fun k hk _ => h.block k hk⟩
theorem Chg.of_below' {B : Nat} (h : Below B w w') (hS : ∀ b, b < w.heap.size → B ≤ b → S b) : Chg S w w' := ⟨h.os, h.tape, h.output, h.size, fun k hk hn => by
  rcases Nat.lt_or_ge k B with q | q
  · exact h.block k q
  · exact absurd (hS k hk q) hn⟩
theorem Chg.alloc (h : Chg S w w') (o : Obj) : Chg S w (w'.alloc o) := h.trans (.of_below ((Below.refl _ _).alloc (Nat.le_refl _) _))
theorem Chg.drew (h : Chg S w w') : Chg S w w'.drew := ⟨h.os, h.tape, h.output, h.size, h.block⟩
theorem Chg.set (h : Chg S w w') {b : Nat} (hb : S b) (i : Nat) (v : Value) : Chg S w (w'.setCell ⟨b, i, none⟩ v) :=
  ⟨h.os, h.tape, h.output, by simpa using h.size, fun k hk hn => (Below.heap_setCell w' ⟨b, i, none⟩ v k (fun e => hn (by subst e; exact hb))).trans (h.block k hk hn)⟩
theorem Chg.turned {b : Nat} (h : w.mapTurned w' b) (hb : S b) : Chg S w w' := by
  have g := h.grown
  exact ⟨g.os, g.tape, g.output, g.size, fun k hk hn => turned_block h (fun e => hn (by subst e; exact hb))⟩
end

section
variable {P : Program} {w w' : World} {K E T : TypeId} {b n : Nat} {M : Lit → Option Value}
/-- 'range m' over a map of at most n entries. -/
def GRangeN (P : Program) (w : World) (K : TypeId) (b r n : Nat) (M : Lit → Option Value) (left : Lit → Bool) (cnt : Nat) : Prop :=
  ∃ D, w.ranges P K asIs b r n D left cnt ∧ ∀ kl, Maps.has D kl = (M kl).isSome ∧ ∀ z, D.atKey kl z = match M kl with | some v => .held v | none => z
section
variable {r cnt : Nat} {left : Lit → Bool}
theorem GRangeN.left_eq (h : GRangeN P w K b r n M left cnt) : w.rangeLeft b r = cnt := by obtain ⟨D, h, _⟩ := h; exact h.left_eq
theorem GRangeN.lt (h : GRangeN P w K b r n M left cnt) : r < w.heap.size := by obtain ⟨D, h, _⟩ := h; exact h.lt
theorem GRangeN.of_blocks (h : GRangeN P w K b r n M left cnt) (e1 : w'.heap[b]? = w.heap[b]?) (e2 : w'.heap[r]? = w.heap[r]?) : GRangeN P w' K b r n M left cnt := by
  obtain ⟨D, ⟨es, clock, since, seen, c0, h1, h2, h3, h4, h5, h6⟩, q⟩ := h
  exact ⟨D, ⟨es, clock, since, seen, c0, e1.trans h1, h2, h3, h4, e2.trans h5, h6⟩, q⟩
theorem GRangeN.blt (h : GRangeN P w K b r n M left cnt) : b < w.heap.size := by
  obtain ⟨D, h, q⟩ := h
  exact h.owns.lt
theorem GRangeN.ne (h : GRangeN P w K b r n M left cnt) : r ≠ b := by
  obtain ⟨D, h, hM⟩ := h
  exact h.ne
theorem GRangeN.map (h : GRangeN P w K b r n M left cnt) : ∃ n', n' ≤ n ∧ GMap P w K b n' M := by
  obtain ⟨D, h, hM⟩ := h
  exact ⟨_, h.owns.size_le, D, ownsMap_exact h.owns, rfl, hM⟩
theorem GRangeN.congr {M' : Lit → Option Value} (h : GRangeN P w K b r n M left cnt) (e : ∀ k, M k = M' k) : GRangeN P w K b r n M' left cnt := by
  obtain rfl : M = M' := funext e
  exact h
theorem GRangeN.drop (h : GRangeN P w K b r n M left cnt) (Kd : Maps.Keyed P K) (ht : P.underlying T = some (.map K E)) {key : Value} {kl : Lit} (hkey : keyOf P K key = some kl) (ty : TypeId) :
    ∃ w' cnt', (Builtin.delete_ #[T, K] ty #[.map (some b), key]).run P w = .ok (.tuple #[]) w' ∧ GRangeN P w' K b r n (putM M kl none) (fun x => left x && !x.sameKey kl) cnt' ∧ cnt' ≤ cnt ∧ w.mapTurned w' b := by
  obtain ⟨D, h, hM⟩ := h
  obtain ⟨w', cnt', hrun, r1, r2, r3⟩ := h.drop Kd ht hkey ty
  refine ⟨w', cnt', hrun, ⟨D.del kl, r1, fun x => ?_⟩, r2, r3⟩
  by_cases e : x = kl
  · subst e
    rw [putM_same]
    exact ⟨Maps.has_del_same, fun z => Maps.atKey_del_same z⟩
  · rw [putM_other _ _ e]
    exact ⟨(Maps.has_del_other e).trans (hM x).1, fun z => (Maps.atKey_del_other e z).trans ((hM x).2 z)⟩
end
end

section
variable {P : Program} (w : World) {ops : Array Oper} {rest : List Oper} {o : Oper} {a : Act} {Q : Exit → Act → World → Prop} {K E : TypeId} {b n : Nat} {M : Lit → Option Value}
theorem wpList_grn_range (hg : o.guard = none) (m : Operand) (t : TypeId) (hop : o.op = Op.range t m) (Kd : Maps.Keyed P K) (ht : P.underlying t = some (.map K E))
    (hm : a.eval m = .map (some b)) (h : GMap P w K b n M)
    (hK : ∀ w', GRangeN P w' K b w.heap.size n M (fun kl => (M kl).isSome) n → Below w.heap.size w w' → w'.heap.size = w.heap.size + 1 → wpList P ops Q rest (a.put o.dst (.pointer (some ⟨w.heap.size, 0, none⟩))) w') :
    wpList P ops Q (o :: rest) a w := by
  obtain ⟨D, h, hs, hM⟩ := h
  refine wpList_range_own w hg m t hop K E Kd ht asIs b n D hm h fun w' h1 h2 h3 => ?_
  have e : Maps.has D = fun kl => (M kl).isSome := funext fun kl => (hM kl).1
  rw [e, hs] at h1
  exact hK w' ⟨D, h1, hM⟩ ((Below.refl _ _).grown h2 (Nat.le_refl _) (fun k hk => by cases hk)) h3
theorem wpList_grn_next {α β : Type} (hg : o.guard = none) (it : Operand) (hop : o.op = Op.next it false) (Kd : Maps.Keyed P K) (mkK : α → Value) (mkV : β → Value)
    (invK : ∀ key kl, keyOf P K key = some kl → ∃ x, key = mkK x) {r cnt : Nat} {left : Lit → Bool} (hit : a.eval it = .pointer (some ⟨r, 0, none⟩)) (h : GRangeN P w K b r n M left cnt) (hV : ∀ kl v, M kl = some v → ∃ c, v = mkV c)
    (hL : ∀ kl, left kl = true → (M kl).isSome = true)
    (hDone : (∀ kl, left kl = false) → wpList P ops Q rest (a.put o.dst (.tuple #[.bool false])) w)
    (hMore : ∀ (x : α) (c : β) (kl : Lit) (w' : World) (cnt' : Nat), keyOf P K (mkK x) = some kl → left kl = true → M kl = some (mkV c) → GRangeN P w' K b r n M (fun z => left z && !z.sameKey kl) cnt' → cnt' < cnt →
      (∀ B, B ≤ r → Below B w w') → w'.heap.size = w.heap.size → (∀ k, k ≠ r → w'.heap[k]? = w.heap[k]?) → (Instr.entry (.pointer (some ⟨r, 0, none⟩))).run P w' = .ok (.tuple #[mkK x, mkV c]) w' → wpList P ops Q rest (a.put o.dst (.tuple #[.bool true, mkK x, mkV c])) w') :
    wpList P ops Q (o :: rest) a w := by
  obtain ⟨D, h, hM⟩ := h
  have hr := h.lt
  refine wpList_plain hg fun K' hK' => ?_
  unfold Oper.wp
  rcases h.next Kd o.type with ⟨h0, hl, hrun⟩ | ⟨key, v, kl, y, w', cnt', hkey, hlk, hv, hat, hrun, hrg, hlt, hgr, hsz, hen⟩
  · simp [execOp, hop, hit, hrun, Result.andThen]
    exact hK' _ _ (hDone hl)
  · obtain ⟨x, rfl⟩ := invK key kl hkey
    have hs := hL kl hlk
    obtain ⟨u, hu⟩ := Option.isSome_iff_exists.1 hs
    obtain ⟨c, hc⟩ := hV kl u hu
    have h2 := (hM kl).2
    rw [hu] at h2
    have h3 := (hat (.held undef)).symm.trans (h2 (.held undef))
    simp only [asIs, Option.some.injEq] at hv
    subst hv
    simp at h3
    subst h3
    subst hc
    simp [execOp, hop, hit, hrun, Result.andThen]
    refine hK' _ _ (hMore x c kl w' cnt' hkey hlk hu ⟨D, hrg, hM⟩ hlt (fun B hB => (Below.refl B w).grown (row := some r) hgr (by omega) (fun k hk => by cases hk; exact hB)) hsz (fun k hk => ?_) hen)
    rcases Nat.lt_or_ge k w.heap.size with q | q
    · exact hgr.block k q (fun e => hk (by cases e; rfl))
    · simp [Array.getElem?_eq_none q, Array.getElem?_eq_none (show w'.heap.size ≤ k by omega)]
theorem wpList_grn_delete (hg : o.guard = none) (m x : Operand) (t : TypeId) (hop : o.op = Op.call { callee := Callee.builtin Builtin.delete, args := #[m, x], argTypes := #[t, K] }) (Kd : Maps.Keyed P K) (ht : P.underlying t = some (.map K E))
    (hm : a.eval m = .map (some b)) {r cnt : Nat} {left : Lit → Bool} (h : GRangeN P w K b r n M left cnt) (key : Value) (kl : Lit) (hx : a.eval x = key) (hkey : keyOf P K key = some kl)
    (hK : ∀ w' cnt', GRangeN P w' K b r n (putM M kl none) (fun x => left x && !x.sameKey kl) cnt' → cnt' ≤ cnt → w.mapTurned w' b → wpList P ops Q rest (a.put o.dst (.tuple #[])) w') :
    wpList P ops Q (o :: rest) a w := by
  refine wpList_plain hg fun K' hK' => ?_
  obtain ⟨w', cnt', hrun, r1, r2, r3⟩ := h.drop Kd ht hkey o.type
  unfold Oper.wp
  simp [execOp, hop, resolve, invoke, builtin, hm, hx, hrun, Result.andThen]
  exact hK' _ _ (hK w' cnt' r1 r2 r3)
end
end Go.Proofs.YthkadlmdjgdliaaDoor
