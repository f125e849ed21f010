/- Maps that the code itself made: the operations on them, for the walk. They speak of no program. -/
import Derived.Test.YthkadlmdjgdliaaDoorGMap
import Derived.Test.YthkadlmdjgdliaaDoorLib
import Derived.Maps.RangeWalk
namespace Go.Proofs.YthkadlmdjgdliaaDoor
open Go.RowKit
set_option linter.unusedSimpArgs false
set_option linter.unusedVariables false

section
variable {P : Program} {w : World} {K E : TypeId} {b n : Nat} {M : Lit → Option Value}
/-- 'range m': the walk holds what the iterator says of the entries still to come. -/
def GRange (P : Program) (w : World) (K : TypeId) (b r : Nat) (M : Lit → Option Value) (left : Lit → Bool) (cnt : Nat) : Prop :=
  ∃ n D, w.ranges P K asIs b r n D left cnt ∧ ∀ kl, Maps.has D kl = (M kl).isSome ∧ ∀ z, D.atKey kl z = match M kl with | some v => .held v | none => z
theorem GRange.left_eq {r cnt : Nat} {left : Lit → Bool} (h : GRange P w K b r M left cnt) : w.rangeLeft b r = cnt := by obtain ⟨n, D, h, _⟩ := h; exact h.left_eq
theorem GRange.lt {r cnt : Nat} {left : Lit → Bool} (h : GRange P w K b r M left cnt) : r < w.heap.size := by obtain ⟨n, D, h, _⟩ := h; exact h.lt
theorem GRange.of_blocks {w' : World} {r cnt : Nat} {left : Lit → Bool} (h : GRange P w K b r M left cnt) (e1 : w'.heap[b]? = w.heap[b]?) (e2 : w'.heap[r]? = w.heap[r]?) : GRange P w' K b r M left cnt := by
  obtain ⟨n, D, ⟨es, clock, since, seen, c0, h1, h2, h3, h4, h5, h6⟩, q⟩ := h
  exact ⟨n, D, ⟨es, clock, since, seen, c0, e1.trans h1, h2, h3, h4, e2.trans h5, h6⟩, q⟩
theorem GRange.blt {r cnt : Nat} {left : Lit → Bool} (h : GRange P w K b r M left cnt) : b < w.heap.size := by
  obtain ⟨n, D, h, q⟩ := h
  exact h.owns.lt
theorem GRange.below {w' : World} {r cnt : Nat} {left : Lit → Bool} (h : GRange P w K b r M left cnt) (hb : Below w.heap.size w w') : GRange P w' K b r M left cnt :=
  h.of_blocks (hb.block b h.blt) (hb.block r h.lt)

end

section
variable {P : Program} (w : World) {ops : Array Oper} {rest : List Oper} {o : Oper} {a : Act} {Q : Exit → Act → World → Prop} {K E : TypeId} {b n : Nat} {M : Lit → Option Value}

theorem wpList_gm_insert (hg : o.guard = none) (m x v : Operand) (t : TypeId) (hop : o.op = Op.insert t m x v) (Kd : Maps.Keyed P K) (ht : P.underlying t = some (.map K E))
    (hm : a.eval m = .map (some b)) (h : GMap P w K b n M) (hn : n < maxLen) (key val : Value) (kl : Lit) (hk : WideAt.IsKeyLit kl) (hx : a.eval x = key) (hv : a.eval v = val) (hkey : keyOf P K key = some kl)
    (hK : ∀ w', GMap P w' K b (if (M kl).isSome then n else n + 1) (putM M kl (some val)) → w.mapTurned w' b → wpList P ops Q rest (a.put o.dst undef) w') :
    wpList P ops Q (o :: rest) a w := by
  refine wpList_plain hg fun K' hK' => ?_
  obtain ⟨w', hrun, r1, r2⟩ := h.store Kd ht hn hk hkey (val := val)
  unfold Oper.wp
  simp [execOp, hop, hm, hx, hv, hrun, Result.andThen]
  exact hK' _ _ (hK w' r1 r2)
theorem wpList_gm_update (hg : o.guard = none) (m x v : Operand) (t : TypeId) (hop : o.op = Op.mapUpdate t m x v) (Kd : Maps.Keyed P K) (ht : P.underlying t = some (.map K E))
    (hm : a.eval m = .map (some b)) (h : GMap P w K b n M) (hn : n < maxLen) (key val : Value) (kl : Lit) (hk : WideAt.IsKeyLit kl) (hx : a.eval x = key) (hv : a.eval v = val) (hkey : keyOf P K key = some kl)
    (hK : ∀ w', GMap P w' K b (if (M kl).isSome then n else n + 1) (putM M kl (some val)) → w.mapTurned w' b → wpList P ops Q rest (a.put o.dst undef) w') :
    wpList P ops Q (o :: rest) a w := by
  refine wpList_plain hg fun K' hK' => ?_
  obtain ⟨w', hrun, r1, r2⟩ := h.store Kd ht hn hk hkey (val := val)
  unfold Oper.wp
  simp [execOp, hop, hm, hx, hv, hrun, Result.andThen]
  exact hK' _ _ (hK w' r1 r2)
theorem wpList_gm_look (hg : o.guard = none) (m x : Operand) (t : TypeId) (hop : o.op = Op.lookup t m x false) (Kd : Maps.Keyed P K) (ht : P.underlying t = some (.map K E)) {z : Value} (hz : ∀ w, (zeroValue E).run P w = .ok z w)
    (hm : a.eval m = .map (some b)) (h : GMap P w K b n M) (key : Value) (kl : Lit) (hx : a.eval x = key) (hkey : keyOf P K key = some kl) (v : Value) (hv : (M kl).getD z = v)
    (hK : wpList P ops Q rest (a.put o.dst v) w) :
    wpList P ops Q (o :: rest) a w := by
  refine wpList_plain hg fun K' hK' => ?_
  have hrun := h.look Kd ht hz hkey
  rw [hv] at hrun
  unfold Oper.wp
  simp [execOp, hop, hm, hx, hrun, Result.andThen]
  exact hK' _ _ hK
theorem wpList_gm_look_ok (hg : o.guard = none) (m x : Operand) (t : TypeId) (hop : o.op = Op.lookup t m x true) (Kd : Maps.Keyed P K) (ht : P.underlying t = some (.map K E)) {z : Value} (hz : ∀ w, (zeroValue E).run P w = .ok z w)
    (hm : a.eval m = .map (some b)) (h : GMap P w K b n M) (key : Value) (kl : Lit) (hx : a.eval x = key) (hkey : keyOf P K key = some kl) (v : Value) (hv : (M kl).getD z = v) (s : Bool) (hs : (M kl).isSome = s)
    (hK : wpList P ops Q rest (a.put o.dst (.tuple #[v, .bool s])) w) :
    wpList P ops Q (o :: rest) a w := by
  refine wpList_plain hg fun K' hK' => ?_
  have hrun := h.look_ok Kd ht hz hkey
  rw [hv, hs] at hrun
  unfold Oper.wp
  simp [execOp, hop, hm, hx, hrun, Result.andThen]
  exact hK' _ _ hK
theorem wpList_gm_delete (hg : o.guard = none) (m x : Operand) (t : TypeId) (hop : o.op = Op.call { callee := Callee.builtin Builtin.delete, args := #[m, x], argTypes := #[t, K] }) (Kd : Maps.Keyed P K) (ht : P.underlying t = some (.map K E))
    (hm : a.eval m = .map (some b)) (h : GMap P w K b n M) (key : Value) (kl : Lit) (hx : a.eval x = key) (hkey : keyOf P K key = some kl)
    (hK : ∀ w', GMap P w' K b (if (M kl).isSome then n - 1 else n) (putM M kl none) → w.mapTurned w' b → wpList P ops Q rest (a.put o.dst (.tuple #[])) w') :
    wpList P ops Q (o :: rest) a w := by
  refine wpList_plain hg fun K' hK' => ?_
  obtain ⟨w', hrun, r1, r2⟩ := h.drop Kd ht hkey o.type
  unfold Oper.wp
  simp [execOp, hop, resolve, invoke, builtin, hm, hx, hrun, Result.andThen]
  exact hK' _ _ (hK w' r1 r2)
theorem wpList_gm_len (hg : o.guard = none) (m : Operand) (t : TypeId) (hop : o.op = Op.call { callee := Callee.builtin Builtin.len, args := #[m], argTypes := #[t] }) (ht : P.underlying t = some (.map K E))
    (hm : a.eval m = .map (some b)) (h : GMap P w K b n M) (hK : wpList P ops Q rest (a.put o.dst (.int .i64 n)) w) :
    wpList P ops Q (o :: rest) a w := by
  refine wpList_plain hg fun K' hK' => ?_
  have hrun := h.len ht o.type
  unfold Oper.wp
  simp [execOp, hop, resolve, invoke, builtin, hm, hrun, Result.andThen]
  exact hK' _ _ hK

theorem wpList_gm_range (hg : o.guard = none) (m : Operand) (t : TypeId) (hop : o.op = Op.range t m) (Kd : Maps.Keyed P K) (ht : P.underlying t = some (.map K E))
    (hm : a.eval m = .map (some b)) (h : GMap P w K b n M)
    (hK : ∀ w', GRange P w' K b w.heap.size M (fun kl => (M kl).isSome) n → Below w.heap.size w w' → w'.heap.size = w.heap.size + 1 → wpList P ops Q rest (a.put o.dst (.pointer (some ⟨w.heap.size, 0, none⟩))) w') :
    wpList P ops Q (o :: rest) a w := by
  obtain ⟨D, h, hs, hM⟩ := h
  refine wpList_range_own w hg m t hop K E Kd ht asIs b n D hm h fun w' h1 h2 h3 => ?_
  have e : Maps.has D = fun kl => (M kl).isSome := funext fun kl => (hM kl).1
  rw [e, hs] at h1
  exact hK w' ⟨n, D, h1, hM⟩ ((Below.refl _ _).grown h2 (Nat.le_refl _) (fun k hk => by cases hk)) h3
theorem wpList_gm_next {α β : Type} (hg : o.guard = none) (it : Operand) (hop : o.op = Op.next it false) (Kd : Maps.Keyed P K) (mkK : α → Value) (mkV : β → Value)
    (invK : ∀ key kl, keyOf P K key = some kl → ∃ x, key = mkK x) {r cnt : Nat} {left : Lit → Bool} (hit : a.eval it = .pointer (some ⟨r, 0, none⟩)) (h : GRange P w K b r M left cnt) (hr : r < w.heap.size) (hV : ∀ kl v, M kl = some v → ∃ c, v = mkV c)
    (hL : ∀ kl, left kl = true → (M kl).isSome = true)
    (hDone : (∀ kl, left kl = false) → wpList P ops Q rest (a.put o.dst (.tuple #[.bool false])) w)
    (hMore : ∀ (x : α) (c : β) (kl : Lit) (w' : World) (cnt' : Nat), keyOf P K (mkK x) = some kl → left kl = true → M kl = some (mkV c) → GRange P w' K b r M (fun z => left z && !z.sameKey kl) cnt' → cnt' < cnt →
      (∀ B, B ≤ r → Below B w w') → w'.heap.size = w.heap.size → (Instr.entry (.pointer (some ⟨r, 0, none⟩))).run P w' = .ok (.tuple #[mkK x, mkV c]) w' → wpList P ops Q rest (a.put o.dst (.tuple #[.bool true, mkK x, mkV c])) w') :
    wpList P ops Q (o :: rest) a w := by
  obtain ⟨n, D, h, hM⟩ := h
  refine wpList_plain hg fun K' hK' => ?_
  unfold Oper.wp
  rcases h.next Kd o.type with ⟨h0, hl, hrun⟩ | ⟨key, v, kl, y, w', cnt', hkey, hlk, hv, hat, hrun, hrg, hlt, hgr, hsz, hen⟩
  · simp [execOp, hop, hit, hrun, Result.andThen]
    exact hK' _ _ (hDone hl)
  · obtain ⟨x, rfl⟩ := invK key kl hkey
    have hs := hL kl hlk
    obtain ⟨u, hu⟩ := Option.isSome_iff_exists.1 hs
    obtain ⟨c, hc⟩ := hV kl u hu
    have h2 := (hM kl).2
    rw [hu] at h2
    have h3 := (hat (.held undef)).symm.trans (h2 (.held undef))
    simp only [asIs, Option.some.injEq] at hv
    subst hv
    simp at h3
    subst h3
    subst hc
    simp [execOp, hop, hit, hrun, Result.andThen]
    exact hK' _ _ (hMore x c kl w' cnt' hkey hlk hu ⟨n, D, hrg, hM⟩ hlt (fun B hB => (Below.refl B w).grown (row := some r) hgr (by omega) (fun k hk => by cases hk; exact hB)) hsz hen)
end

section
variable {P : Program} {ops : Array Oper} {rest : List Oper} {a : Act} {w : World} {Q : Exit → Act → World → Prop} {d : Option Tmp} {t ty : TypeId} {m x v : Operand} {pos : String} {after : Array Edge} {g : Option (Nat × Bool)}
/-- Fits where the goal's next operation is an insert. -/
theorem is_insert (h : wpList P ops Q (⟨d, .insert t m x v, ty, pos, after, g⟩ :: rest) a w) : wpList P ops Q (⟨d, .insert t m x v, ty, pos, after, g⟩ :: rest) a w := h
/-- Fits where the goal's next operation sets a map's entry. -/
theorem is_update (h : wpList P ops Q (⟨d, .mapUpdate t m x v, ty, pos, after, g⟩ :: rest) a w) : wpList P ops Q (⟨d, .mapUpdate t m x v, ty, pos, after, g⟩ :: rest) a w := h
end
end Go.Proofs.YthkadlmdjgdliaaDoor
