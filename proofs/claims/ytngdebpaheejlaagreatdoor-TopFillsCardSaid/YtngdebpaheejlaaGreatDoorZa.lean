/- Texts as lists of bytes. Small lemmas on worlds, used by the walks of this seat; they speak of no program. Maps that the code itself made: which keys are there, what they hold, how many they are. They speak of no program. Maps that the code itself made: the operations on them, for the walk. They speak of no program. Maps that the code itself made: deletes in a range; which blocks a call turned. They speak of no program. Maps that the code itself made: a new entry laid in two steps (m[k], .. = v, ..). They speak of no program. -/
import Derived.Laws.Strings
import Derived.WalkKit
import Derived.WalkLawsBesides
import Derived.WalkSpells
import Derived.Lib.Hide
import Derived.Below
import Derived.Maps.OwnSet
import Derived.Maps.RangeWalk
import Derived.WideKeyEntry
namespace Go.Proofs.YtngdebpaheejlaaGreatDoor
set_option linter.unusedSimpArgs false
set_option linter.unusedVariables false
/-- The text of some bytes. -/
def bs (l : List Nat) : ByteArray := ⟨(l.map UInt8.ofNat).toArray⟩
theorem bs_size (l : List Nat) : (bs l).size = l.length := by simp [bs, ByteArray.size]
theorem bs_app (a b : List Nat) : bs a ++ bs b = bs (a ++ b) := by
  apply ByteArray.ext
  simp [bs]
theorem bs_nil : (⟨#[]⟩ : ByteArray) = bs [] := rfl
theorem bs_get (l : List Nat) (i : Nat) (h : i < (bs l).size) : ((bs l)[i]'h).toNat = l.getD i 0 % 256 := by
  have hl : i < l.length := by rwa [bs_size] at h
  have : (bs l)[i]'h = UInt8.ofNat (l[i]) := by
    show (bs l).data[i]'h = _
    simp [bs]
  rw [this]
  simp [List.getD, hl]
theorem bs_extract (l : List Nat) (a b : Nat) : (bs l).extract a b = bs ((l.take b).drop a) := by
  apply ByteArray.ext
  simp only [ByteArray.data_extract, bs]
  apply Array.ext'
  simp [List.drop_take, List.map_drop, List.map_take]
/-- Bytes. -/
def Byt (l : List Nat) : Prop := ∀ x ∈ l, x < 256
/-- A text's byte. -/
def bt (l : List Nat) (i : Nat) : Nat := l.getD i 0
theorem bt_lt {l : List Nat} (h : Byt l) (i : Nat) : bt l i < 256 := by
  unfold bt
  by_cases hi : i < l.length
  · simp [List.getD, hi]; exact h _ (List.getElem_mem hi)
  · simp [List.getD, hi]
theorem bs_bt {l : List Nat} (hl : Byt l) (i : Nat) (h : i < (bs l).size) : ((bs l)[i]'h).toNat = bt l i := by
  rw [bs_get]
  exact Nat.mod_eq_of_lt (bt_lt hl i)
/-- A number's bytes. -/
def numB (size n : Nat) : List Nat := (List.range size).map fun i => n / 256 ^ (size - 1 - i) % 256
/-- The number of some bytes. -/
def valB (l : List Nat) : Nat := l.foldl (fun n b => n * 256 + b) 0
end Go.Proofs.YtngdebpaheejlaaGreatDoor
namespace Go.Proofs.YtngdebpaheejlaaGreatDoor
open Go.RowKit
set_option linter.unusedSimpArgs false
set_option linter.unusedVariables false
theorem bcell {W w1 : World} (hb : Below W.heap.size W w1) : (∀ b o, b < W.heap.size → w1.cell? ⟨b, o, none⟩ = W.cell? ⟨b, o, none⟩) ∧ (∀ b o, b < W.heap.size → w1.frozen? ⟨b, o, none⟩ = W.frozen? ⟨b, o, none⟩) :=
  ⟨fun b o h => hb.cell (p := ⟨b, o, none⟩) h, fun b o h => hb.frozen (p := ⟨b, o, none⟩) h⟩
/-- Block b is a row of cells of type t, none of them frozen. -/
def Has (w : World) (b : Nat) (t : TypeId) (xs : Array Value) : Prop := w.heap[b]? = some (.cells xs t (0, 0))
section
variable {w w1 : World} {b : Nat} {t : TypeId} {xs : Array Value}
theorem Has.lt (h : Has w b t xs) : b < w.heap.size := by
  rcases Nat.lt_or_ge b w.heap.size with h' | h'
  · exact h'
  · simp [Has, Array.getElem?_eq_none h'] at h
theorem Has.cell (h : Has w b t xs) (o : Nat) : w.cell? ⟨b, o, none⟩ = xs[o]? := by
  unfold Has at h; simp [World.cell?, h]
theorem Has.free (h : Has w b t xs) (o : Nat) : w.frozen? ⟨b, o, none⟩ = false := by
  unfold Has at h; simp [World.frozen?, h]
theorem Has.new (w : World) (xs : Array Value) (t : TypeId) : Has (w.alloc (.cells xs t)) w.heap.size t xs := heap_alloc_new w _
theorem Has.below (h : Has w b t xs) (hb : Below w.heap.size w w1) : Has w1 b t xs := (hb.block b h.lt).trans h
theorem Has.belowAt {B : Nat} (h : Has w b t xs) (hb : Below B w w1) (hB : b < B) : Has w1 b t xs := (hb.block b hB).trans h
theorem Has.alloc (h : Has w b t xs) (o : Obj) : Has (w.alloc o) b t xs := (Below.heap_alloc w o b h.lt).trans h
theorem Has.drew (h : Has w b t xs) : Has w.drew b t xs := h
theorem Has.set (h : Has w b t xs) (i : Nat) (v : Value) : Has (w.setCell ⟨b, i, none⟩ v) b t (xs.setIfInBounds i v) := by
  unfold Has at *
  simp [World.setCell, Array.getElem?_modify, h]
theorem Has.setOther (h : Has w b t xs) {c : Nat} (i : Nat) (hc : b ≠ c) (v : Value) : Has (w.setCell ⟨c, i, none⟩ v) b t xs :=
  (Below.heap_setCell w ⟨c, i, none⟩ v b hc).trans h
end
theorem Below.lt_of {B : Nat} {w w1 : World} (h : Below B w w1) {k : Nat} (hk : k < w.heap.size) : k < w1.heap.size := Nat.lt_of_lt_of_le hk h.size
end Go.Proofs.YtngdebpaheejlaaGreatDoor
namespace Go.Proofs.YtngdebpaheejlaaGreatDoor
open Go.RowKit
set_option linter.unusedSimpArgs false
set_option linter.unusedVariables false
/-- An element read as itself. -/
def asIs (v : Value) : Option (DataW Value × List MemPlace) := some (.held v, [])
/-- Block b is a map of n entries: at a key there is what M says. -/
def GMap (P : Program) (w : World) (K : TypeId) (b n : Nat) (M : Lit → Option Value) : Prop :=
  ∃ D : DataW Value, w.ownsMap P K asIs b n D ∧ Maps.size D = n ∧ ∀ kl, Maps.has D kl = (M kl).isSome ∧ ∀ z, D.atKey kl z = match M kl with | some v => .held v | none => z
open Classical in
noncomputable def putM (M : Lit → Option Value) (kl : Lit) (v : Option Value) : Lit → Option Value := fun x => if x = kl then v else M x
section
variable {P : Program} {w w' : World} {K E T : TypeId} {b n : Nat} {M : Lit → Option Value}
theorem ownsMap_exact {D : DataW Value} (h : w.ownsMap P K asIs b n D) : w.ownsMap P K asIs b (Maps.size D) D := by
  obtain ⟨es, clock, hb, F, hs, rfl⟩ := h
  exact ⟨es, clock, hb, F, by simp [Maps.size, length_sorted], rfl⟩
theorem GMap.lt (h : GMap P w K b n M) : b < w.heap.size := by obtain ⟨D, h, _⟩ := h; exact h.lt
theorem GMap.of_block (h : GMap P w K b n M) (e : w'.heap[b]? = w.heap[b]?) : GMap P w' K b n M := by
  obtain ⟨D, ⟨es, clock, hb, r⟩, q⟩ := h
  exact ⟨D, ⟨es, clock, e.trans hb, r⟩, q⟩
theorem GMap.below (h : GMap P w K b n M) (hb : Below w.heap.size w w') : GMap P w' K b n M := h.of_block (hb.block b h.lt)
theorem GMap.belowAt {B : Nat} (h : GMap P w K b n M) (hb : Below B w w') (hB : b < B) : GMap P w' K b n M := h.of_block (hb.block b hB)
theorem GMap.congr {M' : Lit → Option Value} (h : GMap P w K b n M) (e : ∀ k, M k = M' k) : GMap P w K b n M' := by
  obtain rfl : M = M' := funext e
  exact h
theorem GMap.made (P : Program) (w : World) (K : TypeId) : GMap P (w.alloc (.map #[] 0)) K w.heap.size 0 (fun _ => none) :=
  ⟨.map [], World.ownsMap_made _ _ _ _, rfl, fun kl => ⟨rfl, fun z => rfl⟩⟩
theorem GMap.look (h : GMap P w K b n M) (Kd : Maps.Keyed P K) (ht : P.underlying T = some (.map K E)) {z : Value} (hz : ∀ w, (zeroValue E).run P w = .ok z w) {key : Value} {kl : Lit} (hkey : keyOf P K key = some kl) :
    (Instr.lookup T (.map (some b)) key false).run P w = .ok ((M kl).getD z) w := by
  obtain ⟨D, h, _, hM⟩ := h
  obtain ⟨v, ps, hrun, hv⟩ := h.lookup Kd ht (hz w) (zd := .held z) (zp := []) rfl hkey
  rw [hrun]
  rw [(hM kl).2] at hv
  simp only [asIs, Option.some.injEq, Prod.mk.injEq] at hv
  cases hm : M kl with
  | none => rw [hm] at hv; simp at hv; simp [hv.1]
  | some u => rw [hm] at hv; simp at hv; simp [hv.1]
theorem GMap.look_ok (h : GMap P w K b n M) (Kd : Maps.Keyed P K) (ht : P.underlying T = some (.map K E)) {z : Value} (hz : ∀ w, (zeroValue E).run P w = .ok z w) {key : Value} {kl : Lit} (hkey : keyOf P K key = some kl) :
    (Instr.lookup T (.map (some b)) key true).run P w = .ok (.tuple #[(M kl).getD z, .bool (M kl).isSome]) w := by
  obtain ⟨D, h, _, hM⟩ := h
  obtain ⟨v, ps, hrun, hv⟩ := h.look_ok Kd ht (hz w) (zd := .held z) (zp := []) rfl hkey
  rw [hrun, (hM kl).1]
  rw [(hM kl).2] at hv
  simp only [asIs, Option.some.injEq, Prod.mk.injEq] at hv
  cases hm : M kl with
  | none => rw [hm] at hv; simp at hv; simp [hv.1]
  | some u => rw [hm] at hv; simp at hv; simp [hv.1]
theorem GMap.len (h : GMap P w K b n M) (ht : P.underlying T = some (.map K E)) (ty : TypeId) : (Builtin.len_ #[T] ty #[.map (some b)]).run P w = .ok (.int .i64 n) w := by
  obtain ⟨D, h, hs, _⟩ := h
  rw [h.len ht ty, hs]
theorem putM_same (M : Lit → Option Value) (kl : Lit) (v : Option Value) : putM M kl v kl = v := by simp [putM]
theorem putM_other (M : Lit → Option Value) {kl x : Lit} (v : Option Value) (h : x ≠ kl) : putM M kl v x = M x := by simp [putM, h]
theorem turned_below (h : w.mapTurned w' b) {B : Nat} (hB : B ≤ b) : Below B w w' := by
  have g := h.grown
  exact (Below.refl B w).grown (row := some b) (w := w) ⟨g.os, g.tape, g.output, g.size, g.block⟩ (by
    obtain ⟨es, clock, _, _, hb, _⟩ := h
    have : b < w.heap.size := by
      rcases Nat.lt_or_ge b w.heap.size with q | q
      · exact q
      · simp [Array.getElem?_eq_none q] at hb
    omega) (fun k hk => by cases hk; exact hB)
theorem turned_block (h : w.mapTurned w' b) {c : Nat} (hc : c ≠ b) : w'.heap[c]? = w.heap[c]? := by
  obtain ⟨es, clock, es', clock', hb, rfl⟩ := h
  exact ChangeMaps.heap_setBlock_other hb _ hc
theorem turned_size (h : w.mapTurned w' b) : w'.heap.size = w.heap.size := by
  obtain ⟨es, clock, es', clock', hb, rfl⟩ := h
  simp [ChangeMaps.setBlock]
theorem GMap.store (h : GMap P w K b n M) (Kd : Maps.Keyed P K) (ht : P.underlying T = some (.map K E)) (hn : n < maxLen) {key val : Value} {kl : Lit} (hk : WideAt.IsKeyLit kl) (hkey : keyOf P K key = some kl) :
    ∃ w', (Instr.mapUpdate T (.map (some b)) key val).run P w = .ok () w' ∧ GMap P w' K b (if (M kl).isSome then n else n + 1) (putM M kl (some val)) ∧ w.mapTurned w' b := by
  obtain ⟨D, h, hs, hM⟩ := h
  obtain ⟨w', hrun, h', ht'⟩ := h.store Kd ht hn hkey (val := val) (d := .held val) (ps := []) rfl
  have hsz : Maps.size (D.put kl (.held val)) = if (M kl).isSome then n else n + 1 := by rw [Maps.size_put (h.tidy Kd), (hM kl).1, hs]
  refine ⟨w', hrun, ⟨D.put kl (.held val), hsz ▸ ownsMap_exact h', hsz, fun x => ?_⟩, ht'⟩
  by_cases e : x = kl
  · subst e
    rw [putM_same]
    exact ⟨Maps.has_put_same h.isMap hk _, fun z => Maps.atKey_put_same h.isMap hk _ z⟩
  · rw [putM_other _ _ e]
    exact ⟨(Maps.has_put_other e _).trans (hM x).1, fun z => (Maps.atKey_put_other e _ z).trans ((hM x).2 z)⟩
theorem GMap.drop (h : GMap P w K b n M) (Kd : Maps.Keyed P K) (ht : P.underlying T = some (.map K E)) {key : Value} {kl : Lit} (hkey : keyOf P K key = some kl) (ty : TypeId) :
    ∃ w', (Builtin.delete_ #[T, K] ty #[.map (some b), key]).run P w = .ok (.tuple #[]) w' ∧ GMap P w' K b (if (M kl).isSome then n - 1 else n) (putM M kl none) ∧ w.mapTurned w' b := by
  obtain ⟨D, h, hs, hM⟩ := h
  obtain ⟨w', hrun, h', ht'⟩ := h.drop Kd ht hkey ty
  have hsz : Maps.size (D.del kl) = if (M kl).isSome then n - 1 else n := by
    have := Maps.size_del (k := kl) (h.tidy Kd)
    rw [(hM kl).1, hs] at this
    split at this <;> rename_i e <;> simp [e] <;> omega
  refine ⟨w', hrun, ⟨D.del kl, hsz ▸ ownsMap_exact h', hsz, fun x => ?_⟩, ht'⟩
  by_cases e : x = kl
  · subst e
    rw [putM_same]
    exact ⟨Maps.has_del_same, fun z => Maps.atKey_del_same z⟩
  · rw [putM_other _ _ e]
    exact ⟨(Maps.has_del_other e).trans (hM x).1, fun z => (Maps.atKey_del_other e z).trans ((hM x).2 z)⟩
end
end Go.Proofs.YtngdebpaheejlaaGreatDoor
namespace Go.Proofs.YtngdebpaheejlaaGreatDoor
open Go.RowKit
set_option linter.unusedSimpArgs false
set_option linter.unusedVariables false
section
variable {P : Program} {w : World} {K E : TypeId} {b n : Nat} {M : Lit → Option Value}
/-- 'range m': the walk holds what the iterator says of the entries still to come. -/
def GRange (P : Program) (w : World) (K : TypeId) (b r : Nat) (M : Lit → Option Value) (left : Lit → Bool) (cnt : Nat) : Prop :=
  ∃ n D, w.ranges P K asIs b r n D left cnt ∧ ∀ kl, Maps.has D kl = (M kl).isSome ∧ ∀ z, D.atKey kl z = match M kl with | some v => .held v | none => z
theorem GRange.left_eq {r cnt : Nat} {left : Lit → Bool} (h : GRange P w K b r M left cnt) : w.rangeLeft b r = cnt := by obtain ⟨n, D, h, _⟩ := h; exact h.left_eq
theorem GRange.lt {r cnt : Nat} {left : Lit → Bool} (h : GRange P w K b r M left cnt) : r < w.heap.size := by obtain ⟨n, D, h, _⟩ := h; exact h.lt
theorem GRange.of_blocks {w' : World} {r cnt : Nat} {left : Lit → Bool} (h : GRange P w K b r M left cnt) (e1 : w'.heap[b]? = w.heap[b]?) (e2 : w'.heap[r]? = w.heap[r]?) : GRange P w' K b r M left cnt := by
  obtain ⟨n, D, ⟨es, clock, since, seen, c0, h1, h2, h3, h4, h5, h6⟩, q⟩ := h
  exact ⟨n, D, ⟨es, clock, since, seen, c0, e1.trans h1, h2, h3, h4, e2.trans h5, h6⟩, q⟩
theorem GRange.blt {r cnt : Nat} {left : Lit → Bool} (h : GRange P w K b r M left cnt) : b < w.heap.size := by
  obtain ⟨n, D, h, q⟩ := h
  exact h.owns.lt
theorem GRange.below {w' : World} {r cnt : Nat} {left : Lit → Bool} (h : GRange P w K b r M left cnt) (hb : Below w.heap.size w w') : GRange P w' K b r M left cnt :=
  h.of_blocks (hb.block b h.blt) (hb.block r h.lt)
end
section
variable {P : Program} (w : World) {ops : Array Oper} {rest : List Oper} {o : Oper} {a : Act} {Q : Exit → Act → World → Prop} {K E : TypeId} {b n : Nat} {M : Lit → Option Value}
theorem wpList_gm_insert (hg : o.guard = none) (m x v : Operand) (t : TypeId) (hop : o.op = Op.insert t m x v) (Kd : Maps.Keyed P K) (ht : P.underlying t = some (.map K E))
    (hm : a.eval m = .map (some b)) (h : GMap P w K b n M) (hn : n < maxLen) (key val : Value) (kl : Lit) (hk : WideAt.IsKeyLit kl) (hx : a.eval x = key) (hv : a.eval v = val) (hkey : keyOf P K key = some kl)
    (hK : ∀ w', GMap P w' K b (if (M kl).isSome then n else n + 1) (putM M kl (some val)) → w.mapTurned w' b → wpList P ops Q rest (a.put o.dst undef) w') :
    wpList P ops Q (o :: rest) a w := by
  refine wpList_plain hg fun K' hK' => ?_
  obtain ⟨w', hrun, r1, r2⟩ := h.store Kd ht hn hk hkey (val := val)
  unfold Oper.wp
  simp [execOp, hop, hm, hx, hv, hrun, Result.andThen]
  exact hK' _ _ (hK w' r1 r2)
theorem wpList_gm_update (hg : o.guard = none) (m x v : Operand) (t : TypeId) (hop : o.op = Op.mapUpdate t m x v) (Kd : Maps.Keyed P K) (ht : P.underlying t = some (.map K E))
    (hm : a.eval m = .map (some b)) (h : GMap P w K b n M) (hn : n < maxLen) (key val : Value) (kl : Lit) (hk : WideAt.IsKeyLit kl) (hx : a.eval x = key) (hv : a.eval v = val) (hkey : keyOf P K key = some kl)
    (hK : ∀ w', GMap P w' K b (if (M kl).isSome then n else n + 1) (putM M kl (some val)) → w.mapTurned w' b → wpList P ops Q rest (a.put o.dst undef) w') :
    wpList P ops Q (o :: rest) a w := by
  refine wpList_plain hg fun K' hK' => ?_
  obtain ⟨w', hrun, r1, r2⟩ := h.store Kd ht hn hk hkey (val := val)
  unfold Oper.wp
  simp [execOp, hop, hm, hx, hv, hrun, Result.andThen]
  exact hK' _ _ (hK w' r1 r2)
theorem wpList_gm_look (hg : o.guard = none) (m x : Operand) (t : TypeId) (hop : o.op = Op.lookup t m x false) (Kd : Maps.Keyed P K) (ht : P.underlying t = some (.map K E)) {z : Value} (hz : ∀ w, (zeroValue E).run P w = .ok z w)
    (hm : a.eval m = .map (some b)) (h : GMap P w K b n M) (key : Value) (kl : Lit) (hx : a.eval x = key) (hkey : keyOf P K key = some kl) (v : Value) (hv : (M kl).getD z = v)
    (hK : wpList P ops Q rest (a.put o.dst v) w) :
    wpList P ops Q (o :: rest) a w := by
  refine wpList_plain hg fun K' hK' => ?_
  have hrun := h.look Kd ht hz hkey
  rw [hv] at hrun
  unfold Oper.wp
  simp [execOp, hop, hm, hx, hrun, Result.andThen]
  exact hK' _ _ hK
theorem wpList_gm_look_ok (hg : o.guard = none) (m x : Operand) (t : TypeId) (hop : o.op = Op.lookup t m x true) (Kd : Maps.Keyed P K) (ht : P.underlying t = some (.map K E)) {z : Value} (hz : ∀ w, (zeroValue E).run P w = .ok z w)
    (hm : a.eval m = .map (some b)) (h : GMap P w K b n M) (key : Value) (kl : Lit) (hx : a.eval x = key) (hkey : keyOf P K key = some kl) (v : Value) (hv : (M kl).getD z = v) (s : Bool) (hs : (M kl).isSome = s)
    (hK : wpList P ops Q rest (a.put o.dst (.tuple #[v, .bool s])) w) :
    wpList P ops Q (o :: rest) a w := by
  refine wpList_plain hg fun K' hK' => ?_
  have hrun := h.look_ok Kd ht hz hkey
  rw [hv, hs] at hrun
  unfold Oper.wp
  simp [execOp, hop, hm, hx, hrun, Result.andThen]
  exact hK' _ _ hK
theorem wpList_gm_delete (hg : o.guard = none) (m x : Operand) (t : TypeId) (hop : o.op = Op.call { callee := Callee.builtin Builtin.delete, args := #[m, x], argTypes := #[t, K] }) (Kd : Maps.Keyed P K) (ht : P.underlying t = some (.map K E))
    (hm : a.eval m = .map (some b)) (h : GMap P w K b n M) (key : Value) (kl : Lit) (hx : a.eval x = key) (hkey : keyOf P K key = some kl)
    (hK : ∀ w', GMap P w' K b (if (M kl).isSome then n - 1 else n) (putM M kl none) → w.mapTurned w' b → wpList P ops Q rest (a.put o.dst (.tuple #[])) w') :
    wpList P ops Q (o :: rest) a w := by
  refine wpList_plain hg fun K' hK' => ?_
  obtain ⟨w', hrun, r1, r2⟩ := h.drop Kd ht hkey o.type
  unfold Oper.wp
  simp [execOp, hop, resolve, invoke, builtin, hm, hx, hrun, Result.andThen]
  exact hK' _ _ (hK w' r1 r2)
theorem wpList_gm_len (hg : o.guard = none) (m : Operand) (t : TypeId) (hop : o.op = Op.call { callee := Callee.builtin Builtin.len, args := #[m], argTypes := #[t] }) (ht : P.underlying t = some (.map K E))
    (hm : a.eval m = .map (some b)) (h : GMap P w K b n M) (hK : wpList P ops Q rest (a.put o.dst (.int .i64 n)) w) :
    wpList P ops Q (o :: rest) a w := by
  refine wpList_plain hg fun K' hK' => ?_
  have hrun := h.len ht o.type
  unfold Oper.wp
  simp [execOp, hop, resolve, invoke, builtin, hm, hrun, Result.andThen]
  exact hK' _ _ hK
theorem wpList_gm_range (hg : o.guard = none) (m : Operand) (t : TypeId) (hop : o.op = Op.range t m) (Kd : Maps.Keyed P K) (ht : P.underlying t = some (.map K E))
    (hm : a.eval m = .map (some b)) (h : GMap P w K b n M)
    (hK : ∀ w', GRange P w' K b w.heap.size M (fun kl => (M kl).isSome) n → Below w.heap.size w w' → w'.heap.size = w.heap.size + 1 → wpList P ops Q rest (a.put o.dst (.pointer (some ⟨w.heap.size, 0, none⟩))) w') :
    wpList P ops Q (o :: rest) a w := by
  obtain ⟨D, h, hs, hM⟩ := h
  refine wpList_range_own w hg m t hop K E Kd ht asIs b n D hm h fun w' h1 h2 h3 => ?_
  have e : Maps.has D = fun kl => (M kl).isSome := funext fun kl => (hM kl).1
  rw [e, hs] at h1
  exact hK w' ⟨n, D, h1, hM⟩ ((Below.refl _ _).grown h2 (Nat.le_refl _) (fun k hk => by cases hk)) h3
theorem wpList_gm_next {α β : Type} (hg : o.guard = none) (it : Operand) (hop : o.op = Op.next it false) (Kd : Maps.Keyed P K) (mkK : α → Value) (mkV : β → Value)
    (invK : ∀ key kl, keyOf P K key = some kl → ∃ x, key = mkK x) {r cnt : Nat} {left : Lit → Bool} (hit : a.eval it = .pointer (some ⟨r, 0, none⟩)) (h : GRange P w K b r M left cnt) (hr : r < w.heap.size) (hV : ∀ kl v, M kl = some v → ∃ c, v = mkV c)
    (hL : ∀ kl, left kl = true → (M kl).isSome = true)
    (hDone : (∀ kl, left kl = false) → wpList P ops Q rest (a.put o.dst (.tuple #[.bool false])) w)
    (hMore : ∀ (x : α) (c : β) (kl : Lit) (w' : World) (cnt' : Nat), keyOf P K (mkK x) = some kl → left kl = true → M kl = some (mkV c) → GRange P w' K b r M (fun z => left z && !z.sameKey kl) cnt' → cnt' < cnt →
      (∀ B, B ≤ r → Below B w w') → w'.heap.size = w.heap.size → (Instr.entry (.pointer (some ⟨r, 0, none⟩))).run P w' = .ok (.tuple #[mkK x, mkV c]) w' → wpList P ops Q rest (a.put o.dst (.tuple #[.bool true, mkK x, mkV c])) w') :
    wpList P ops Q (o :: rest) a w := by
  obtain ⟨n, D, h, hM⟩ := h
  refine wpList_plain hg fun K' hK' => ?_
  unfold Oper.wp
  rcases h.next Kd o.type with ⟨h0, hl, hrun⟩ | ⟨key, v, kl, y, w', cnt', hkey, hlk, hv, hat, hrun, hrg, hlt, hgr, hsz, hen⟩
  · simp [execOp, hop, hit, hrun, Result.andThen]
    exact hK' _ _ (hDone hl)
  · obtain ⟨x, rfl⟩ := invK key kl hkey
    have hs := hL kl hlk
    obtain ⟨u, hu⟩ := Option.isSome_iff_exists.1 hs
    obtain ⟨c, hc⟩ := hV kl u hu
    have h2 := (hM kl).2
    rw [hu] at h2
    have h3 := (hat (.held undef)).symm.trans (h2 (.held undef))
    simp only [asIs, Option.some.injEq] at hv
    subst hv
    simp at h3
    subst h3
    subst hc
    simp [execOp, hop, hit, hrun, Result.andThen]
    exact hK' _ _ (hMore x c kl w' cnt' hkey hlk hu ⟨n, D, hrg, hM⟩ hlt (fun B hB => (Below.refl B w).grown (row := some r) hgr (by omega) (fun k hk => by cases hk; exact hB)) hsz hen)
end
section
variable {P : Program} {ops : Array Oper} {rest : List Oper} {a : Act} {w : World} {Q : Exit → Act → World → Prop} {d : Option Tmp} {t ty : TypeId} {m x v : Operand} {pos : String} {after : Array Edge} {g : Option (Nat × Bool)}
/-- Fits where the goal's next operation is an insert. -/
theorem is_insert (h : wpList P ops Q (⟨d, .insert t m x v, ty, pos, after, g⟩ :: rest) a w) : wpList P ops Q (⟨d, .insert t m x v, ty, pos, after, g⟩ :: rest) a w := h
/-- Fits where the goal's next operation sets a map's entry. -/
theorem is_update (h : wpList P ops Q (⟨d, .mapUpdate t m x v, ty, pos, after, g⟩ :: rest) a w) : wpList P ops Q (⟨d, .mapUpdate t m x v, ty, pos, after, g⟩ :: rest) a w := h
end
end Go.Proofs.YtngdebpaheejlaaGreatDoor
namespace Go.Proofs.YtngdebpaheejlaaGreatDoor
open Go.RowKit
set_option linter.unusedSimpArgs false
set_option linter.unusedVariables false
/-- Only blocks of S were turned, and new ones made. -/
structure Chg (S : Nat → Prop) (w w' : World) : Prop where
  os : w'.os = w.os
  tape : w'.tape = w.tape
  output : w'.output = w.output
  size : w.heap.size ≤ w'.heap.size
  block : ∀ k, k < w.heap.size → ¬ S k → w'.heap[k]? = w.heap[k]?
section
variable {S T : Nat → Prop} {w w1 w' : World}
theorem Chg.refl (S : Nat → Prop) (w : World) : Chg S w w := ⟨rfl, rfl, rfl, Nat.le_refl _, fun _ _ _ => rfl⟩
theorem Chg.trans (h : Chg S w w1) (k : Chg S w1 w') : Chg S w w' :=
  ⟨k.os.trans h.os, k.tape.trans h.tape, k.output.trans h.output, Nat.le_trans h.size k.size, fun i hi hn => (k.block i (Nat.lt_of_lt_of_le hi h.size) hn).trans (h.block i hi hn)⟩
theorem Chg.mono (h : Chg S w w') (hS : ∀ b, b < w.heap.size → S b → T b) : Chg T w w' := ⟨h.os, h.tape, h.output, h.size, fun k hk hn => h.block k hk fun hs => hn (hS k hk hs)⟩
theorem Chg.below (h : Chg S w w') {B : Nat} (hS : ∀ b, S b → B ≤ b) (hB : B ≤ w.heap.size) : Below B w w' :=
  ⟨h.os, h.tape, h.output, h.size, fun k hk => h.block k (Nat.lt_of_lt_of_le hk hB) fun hs => absurd (hS k hs) (by omega)⟩
theorem Chg.of_below (h : Below w.heap.size w w') : Chg S w w' := ⟨h.os, h.tape, h.output, h.size, fun k hk _ => h.block k hk⟩
theorem Chg.of_below' {B : Nat} (h : Below B w w') (hS : ∀ b, b < w.heap.size → B ≤ b → S b) : Chg S w w' := ⟨h.os, h.tape, h.output, h.size, fun k hk hn => by
  rcases Nat.lt_or_ge k B with q | q
  · exact h.block k q
  · exact absurd (hS k hk q) hn⟩
theorem Chg.alloc (h : Chg S w w') (o : Obj) : Chg S w (w'.alloc o) := h.trans (.of_below ((Below.refl _ _).alloc (Nat.le_refl _) _))
theorem Chg.drew (h : Chg S w w') : Chg S w w'.drew := ⟨h.os, h.tape, h.output, h.size, h.block⟩
theorem Chg.set (h : Chg S w w') {b : Nat} (hb : S b) (i : Nat) (v : Value) : Chg S w (w'.setCell ⟨b, i, none⟩ v) :=
  ⟨h.os, h.tape, h.output, by simpa using h.size, fun k hk hn => (Below.heap_setCell w' ⟨b, i, none⟩ v k (fun e => hn (by subst e; exact hb))).trans (h.block k hk hn)⟩
theorem Chg.turned {b : Nat} (h : w.mapTurned w' b) (hb : S b) : Chg S w w' := by
  have g := h.grown
  exact ⟨g.os, g.tape, g.output, g.size, fun k hk hn => turned_block h (fun e => hn (by subst e; exact hb))⟩
end
section
variable {P : Program} {w w' : World} {K E T : TypeId} {b n : Nat} {M : Lit → Option Value}
/-- 'range m' over a map of at most n entries. -/
def GRangeN (P : Program) (w : World) (K : TypeId) (b r n : Nat) (M : Lit → Option Value) (left : Lit → Bool) (cnt : Nat) : Prop :=
  ∃ D, w.ranges P K asIs b r n D left cnt ∧ ∀ kl, Maps.has D kl = (M kl).isSome ∧ ∀ z, D.atKey kl z = match M kl with | some v => .held v | none => z
section
variable {r cnt : Nat} {left : Lit → Bool}
theorem GRangeN.left_eq (h : GRangeN P w K b r n M left cnt) : w.rangeLeft b r = cnt := by obtain ⟨D, h, _⟩ := h; exact h.left_eq
theorem GRangeN.lt (h : GRangeN P w K b r n M left cnt) : r < w.heap.size := by obtain ⟨D, h, _⟩ := h; exact h.lt
theorem GRangeN.of_blocks (h : GRangeN P w K b r n M left cnt) (e1 : w'.heap[b]? = w.heap[b]?) (e2 : w'.heap[r]? = w.heap[r]?) : GRangeN P w' K b r n M left cnt := by
  obtain ⟨D, ⟨es, clock, since, seen, c0, h1, h2, h3, h4, h5, h6⟩, q⟩ := h
  exact ⟨D, ⟨es, clock, since, seen, c0, e1.trans h1, h2, h3, h4, e2.trans h5, h6⟩, q⟩
theorem GRangeN.blt (h : GRangeN P w K b r n M left cnt) : b < w.heap.size := by
  obtain ⟨D, h, q⟩ := h
  exact h.owns.lt
theorem GRangeN.ne (h : GRangeN P w K b r n M left cnt) : r ≠ b := by
  obtain ⟨D, h, hM⟩ := h
  exact h.ne
theorem GRangeN.map (h : GRangeN P w K b r n M left cnt) : ∃ n', n' ≤ n ∧ GMap P w K b n' M := by
  obtain ⟨D, h, hM⟩ := h
  exact ⟨_, h.owns.size_le, D, ownsMap_exact h.owns, rfl, hM⟩
theorem GRangeN.congr {M' : Lit → Option Value} (h : GRangeN P w K b r n M left cnt) (e : ∀ k, M k = M' k) : GRangeN P w K b r n M' left cnt := by
  obtain rfl : M = M' := funext e
  exact h
theorem GRangeN.drop (h : GRangeN P w K b r n M left cnt) (Kd : Maps.Keyed P K) (ht : P.underlying T = some (.map K E)) {key : Value} {kl : Lit} (hkey : keyOf P K key = some kl) (ty : TypeId) :
    ∃ w' cnt', (Builtin.delete_ #[T, K] ty #[.map (some b), key]).run P w = .ok (.tuple #[]) w' ∧ GRangeN P w' K b r n (putM M kl none) (fun x => left x && !x.sameKey kl) cnt' ∧ cnt' ≤ cnt ∧ w.mapTurned w' b := by
  obtain ⟨D, h, hM⟩ := h
  obtain ⟨w', cnt', hrun, r1, r2, r3⟩ := h.drop Kd ht hkey ty
  refine ⟨w', cnt', hrun, ⟨D.del kl, r1, fun x => ?_⟩, r2, r3⟩
  by_cases e : x = kl
  · subst e
    rw [putM_same]
    exact ⟨Maps.has_del_same, fun z => Maps.atKey_del_same z⟩
  · rw [putM_other _ _ e]
    exact ⟨(Maps.has_del_other e).trans (hM x).1, fun z => (Maps.atKey_del_other e z).trans ((hM x).2 z)⟩
end
end
section
variable {P : Program} (w : World) {ops : Array Oper} {rest : List Oper} {o : Oper} {a : Act} {Q : Exit → Act → World → Prop} {K E : TypeId} {b n : Nat} {M : Lit → Option Value}
theorem wpList_grn_range (hg : o.guard = none) (m : Operand) (t : TypeId) (hop : o.op = Op.range t m) (Kd : Maps.Keyed P K) (ht : P.underlying t = some (.map K E))
    (hm : a.eval m = .map (some b)) (h : GMap P w K b n M)
    (hK : ∀ w', GRangeN P w' K b w.heap.size n M (fun kl => (M kl).isSome) n → Below w.heap.size w w' → w'.heap.size = w.heap.size + 1 → wpList P ops Q rest (a.put o.dst (.pointer (some ⟨w.heap.size, 0, none⟩))) w') :
    wpList P ops Q (o :: rest) a w := by
  obtain ⟨D, h, hs, hM⟩ := h
  refine wpList_range_own w hg m t hop K E Kd ht asIs b n D hm h fun w' h1 h2 h3 => ?_
  have e : Maps.has D = fun kl => (M kl).isSome := funext fun kl => (hM kl).1
  rw [e, hs] at h1
  exact hK w' ⟨D, h1, hM⟩ ((Below.refl _ _).grown h2 (Nat.le_refl _) (fun k hk => by cases hk)) h3
theorem wpList_grn_next {α β : Type} (hg : o.guard = none) (it : Operand) (hop : o.op = Op.next it false) (Kd : Maps.Keyed P K) (mkK : α → Value) (mkV : β → Value)
    (invK : ∀ key kl, keyOf P K key = some kl → ∃ x, key = mkK x) {r cnt : Nat} {left : Lit → Bool} (hit : a.eval it = .pointer (some ⟨r, 0, none⟩)) (h : GRangeN P w K b r n M left cnt) (hV : ∀ kl v, M kl = some v → ∃ c, v = mkV c)
    (hL : ∀ kl, left kl = true → (M kl).isSome = true)
    (hDone : (∀ kl, left kl = false) → wpList P ops Q rest (a.put o.dst (.tuple #[.bool false])) w)
    (hMore : ∀ (x : α) (c : β) (kl : Lit) (w' : World) (cnt' : Nat), keyOf P K (mkK x) = some kl → left kl = true → M kl = some (mkV c) → GRangeN P w' K b r n M (fun z => left z && !z.sameKey kl) cnt' → cnt' < cnt →
      (∀ B, B ≤ r → Below B w w') → w'.heap.size = w.heap.size → (∀ k, k ≠ r → w'.heap[k]? = w.heap[k]?) → (Instr.entry (.pointer (some ⟨r, 0, none⟩))).run P w' = .ok (.tuple #[mkK x, mkV c]) w' → wpList P ops Q rest (a.put o.dst (.tuple #[.bool true, mkK x, mkV c])) w') :
    wpList P ops Q (o :: rest) a w := by
  obtain ⟨D, h, hM⟩ := h
  have hr := h.lt
  refine wpList_plain hg fun K' hK' => ?_
  unfold Oper.wp
  rcases h.next Kd o.type with ⟨h0, hl, hrun⟩ | ⟨key, v, kl, y, w', cnt', hkey, hlk, hv, hat, hrun, hrg, hlt, hgr, hsz, hen⟩
  · simp [execOp, hop, hit, hrun, Result.andThen]
    exact hK' _ _ (hDone hl)
  · obtain ⟨x, rfl⟩ := invK key kl hkey
    have hs := hL kl hlk
    obtain ⟨u, hu⟩ := Option.isSome_iff_exists.1 hs
    obtain ⟨c, hc⟩ := hV kl u hu
    have h2 := (hM kl).2
    rw [hu] at h2
    have h3 := (hat (.held undef)).symm.trans (h2 (.held undef))
    simp only [asIs, Option.some.injEq] at hv
    subst hv
    simp at h3
    subst h3
    subst hc
    simp [execOp, hop, hit, hrun, Result.andThen]
    refine hK' _ _ (hMore x c kl w' cnt' hkey hlk hu ⟨D, hrg, hM⟩ hlt (fun B hB => (Below.refl B w).grown (row := some r) hgr (by omega) (fun k hk => by cases hk; exact hB)) hsz (fun k hk => ?_) hen)
    rcases Nat.lt_or_ge k w.heap.size with q | q
    · exact hgr.block k q (fun e => hk (by cases e; rfl))
    · simp [Array.getElem?_eq_none q, Array.getElem?_eq_none (show w'.heap.size ≤ k by omega)]
theorem wpList_grn_delete (hg : o.guard = none) (m x : Operand) (t : TypeId) (hop : o.op = Op.call { callee := Callee.builtin Builtin.delete, args := #[m, x], argTypes := #[t, K] }) (Kd : Maps.Keyed P K) (ht : P.underlying t = some (.map K E))
    (hm : a.eval m = .map (some b)) {r cnt : Nat} {left : Lit → Bool} (h : GRangeN P w K b r n M left cnt) (key : Value) (kl : Lit) (hx : a.eval x = key) (hkey : keyOf P K key = some kl)
    (hK : ∀ w' cnt', GRangeN P w' K b r n (putM M kl none) (fun x => left x && !x.sameKey kl) cnt' → cnt' ≤ cnt → w.mapTurned w' b → wpList P ops Q rest (a.put o.dst (.tuple #[])) w') :
    wpList P ops Q (o :: rest) a w := by
  refine wpList_plain hg fun K' hK' => ?_
  obtain ⟨w', cnt', hrun, r1, r2, r3⟩ := h.drop Kd ht hkey o.type
  unfold Oper.wp
  simp [execOp, hop, resolve, invoke, builtin, hm, hx, hrun, Result.andThen]
  exact hK' _ _ (hK w' cnt' r1 r2 r3)
end
end Go.Proofs.YtngdebpaheejlaaGreatDoor
namespace Go.Proofs.YtngdebpaheejlaaGreatDoor
open Go.RowKit
set_option linter.unusedSimpArgs false
set_option linter.unusedVariables false
section
variable {P : Program} {w : World} {K E T : TypeId} {b n : Nat} {M : Lit → Option Value}
theorem GMap.entry (h : GMap P w K b n M) (Kd : Maps.Keyed P K) (ht : P.underlying T = some (.map K E)) {z : Value} (hz : ∀ w, (zeroValue E).run P w = .ok z w) (hn : n < maxLen) {key : Value} {kl : Lit} (hk : WideAt.IsKeyLit kl) (hkey : keyOf P K key = some kl) (hno : M kl = none) (val : Value) :
    ∃ w1 st, (Instr.mapEntry T (.map (some b)) key).run P w = .ok (.tuple #[z, .int .i64 st]) w1 ∧ w.mapTurned w1 b ∧
      ∀ W1 : World, W1.heap[b]? = w1.heap[b]? → ∃ W2, (Instr.entryStore T (.map (some b)) (.int .i64 st) val).run P W1 = .ok () W2 ∧ GMap P W2 K b (n + 1) (putM M kl (some val)) ∧ W1.mapTurned W2 b := by
  have h0 := h
  obtain ⟨D, ⟨es, clock, hb, F, hs, rfl⟩, hsz, hM⟩ := h
  have hlk := h0.look_ok Kd ht hz hkey
  rw [hno] at hlk
  rcases Kd.find w hkey es.toList F.keys with ⟨f1, f2⟩ | ⟨j, e0, f1, f2, f3⟩
  · obtain ⟨w', hrun, g', ht'⟩ := h0.store Kd ht hn hk hkey (val := val)
    have hw' : w' = ChangeMaps.setBlock w b (.map (es.push ⟨key, val, clock⟩) (clock + 1)) := by
      simp [Instr.mapUpdate, run_underlying ht, MapKept.run_getObj_map hb, Kd.check w false hkey, f1, MapKept.run_setObj_map _ hb, Result.andThen, ChangeMaps.setBlock] at hrun
      rw [← hrun]
      rfl
    refine ⟨ChangeMaps.setBlock w b (.map (es.push ⟨key, z, clock⟩) (clock + 1)), clock, ?_, ⟨es, clock, _, _, hb, rfl⟩, fun W1 hW1 => ?_⟩
    · simp [Instr.mapEntry, run_underlying ht, MapKept.run_getObj_map hb, Kd.check w false hkey, f1, hz w, MapKept.run_setObj_map _ hb, Result.andThen, ChangeMaps.setBlock, goInt]
    · rw [ChangeMaps.heap_setBlock_same hb] at hW1
      refine ⟨ChangeMaps.setBlock W1 b (.map (es.push ⟨key, val, clock⟩) (clock + 1)), ?_, ?_, ⟨_, _, _, _, hW1, rfl⟩⟩
      · obtain ⟨s1, s2, _⟩ := F.stamped
        have hidx : (es.push ⟨key, z, clock⟩).findIdx? (fun e => ((e.born : Nat) : Int) == ((clock : Nat) : Int)) = some es.size := by
          rw [WideElems.findIdx_arr]
          refine WideElems.findIdx_born (l := (es.push ⟨key, z, clock⟩).toList) (j := es.size) (e0 := ⟨key, z, clock⟩) ?_ (by simp)
          rw [Array.toList_push, List.map_append]
          refine List.nodup_append.2 ⟨s2, by simp, fun a ha c hc e1 => ?_⟩
          obtain ⟨x, hx, rfl⟩ := List.mem_map.1 ha
          have hlt := s1 x hx
          simp at hc
          omega
        have hmod : (es.push ⟨key, z, clock⟩).modify es.size (fun e => { e with val := val }) = es.push ⟨key, val, clock⟩ := by
          apply Array.ext'
          rw [Array.toList_modify, Array.toList_push, Array.toList_push, ← Array.length_toList, WideElems.modify_last]
        simp [Instr.entryStore, MapKept.run_getObj_map hW1, asInt, asIntOf, hidx, hmod, MapKept.run_setObj_map _ hW1, Result.andThen, ChangeMaps.setBlock]
      · rw [hno] at g'
        simp at g'
        refine g'.of_block ?_
        rw [ChangeMaps.heap_setBlock_same hW1, hw', ChangeMaps.heap_setBlock_same hb]
  · exfalso
    simp [Instr.lookup, run_underlying ht, MapKept.run_getObj_map hb, Kd.check w _ hkey, f1, Result.andThen] at hlk
end
end Go.Proofs.YtngdebpaheejlaaGreatDoor
