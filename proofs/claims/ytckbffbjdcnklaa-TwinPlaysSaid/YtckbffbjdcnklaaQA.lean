/- The document's own table: appends of rows. -/
import Derived.Test.YtckbffbjdcnklaaQL
namespace Go.Proofs.Ytckbffbjdcnklaa
open Go.RowKit
set_option linter.unusedSimpArgs false
set_option linter.unusedVariables false

/-- The rows, cell by cell. -/
def qcells (l : List QR) : List Value := l.flatMap fun q => [.int .i64 (q.h : Int), .string q.a, .int .i64 q.b, .string q.v]
theorem qcells_len (l : List QR) : (qcells l).length = l.length * 4 := by
  induction l with
  | nil => rfl
  | cons q l ih => unfold qcells at *; simp [List.flatMap_cons, ih]; omega
theorem qcells_app (l m : List QR) : qcells (l ++ m) = qcells l ++ qcells m := by simp [qcells]
theorem qcells_at : ∀ (l : List QR) (i k : Nat) (q : QR), l[i]? = some q → k < 4 → (qcells l)[i * 4 + k]? = some (qf q k)
  | [], i, k, q, h, _ => by simp at h
  | p :: l, 0, k, q, h, hk => by
    simp at h
    subst h
    match k, hk with
    | 0, _ => rfl
    | 1, _ => rfl
    | 2, _ => rfl
    | 3, _ => rfl
  | p :: l, i + 1, k, q, h, hk => by
    have := qcells_at l i k q (by simpa using h) hk
    have e : (i + 1) * 4 + k = (i * 4 + k) + 4 := by omega
    rw [e]
    show ([_, _, _, _] ++ qcells l)[i * 4 + k + 4]? = _
    rw [List.getElem?_append_right (by simp)]
    simpa using this
/-- Every cell of the rows is some row's. -/
theorem qcells_of {l : List QR} {j : Nat} {u : Value} (h : (qcells l)[j]? = some u) : ∃ i k q, j = i * 4 + k ∧ k < 4 ∧ l[i]? = some q ∧ u = qf q k := by
  have hj : j < l.length * 4 := by rw [← qcells_len]; exact (List.getElem?_eq_some_iff.1 h).1
  have hi : j / 4 < l.length := by omega
  refine ⟨j / 4, j % 4, l[j / 4], by omega, by omega, List.getElem?_eq_getElem hi, ?_⟩
  have := qcells_at l (j / 4) (j % 4) _ (List.getElem?_eq_getElem hi) (by omega)
  rw [show j / 4 * 4 + j % 4 = j by omega, h] at this
  exact Option.some.inj this
theorem qf_one (q : QR) (k : Nat) : (qf q k).oneCell' = true := by
  unfold qf
  split <;> simp [Value.oneCell']
section
variable {w w' : World} {l m : List QR} {v u : Value}
theorem LAt.own (h : LAt w v l) : w.ownsRow 0 71 4 v l.length (qcells l) := by
  rcases h with ⟨rfl, rfl⟩ | ⟨f, c, cur, rfl, g1, g2, g3, g4, g5⟩
  · exact ⟨rfl, .inl ⟨rfl, rfl⟩⟩
  · refine ⟨qcells_len l, .inr ⟨f, c, cur, rfl, Nat.zero_le _, g1, g3, g4, g2, ?_⟩⟩
    apply List.ext_getElem?
    intro j
    rw [List.getElem?_take]
    by_cases hj : j < l.length * 4
    · have hi : j / 4 < l.length := by omega
      have a1 := qcells_at l (j / 4) (j % 4) _ (List.getElem?_eq_getElem hi) (by omega)
      have a2 := g5 (j / 4) _ (j % 4) (List.getElem?_eq_getElem hi) (by omega)
      rw [show j / 4 * 4 + j % 4 = j by omega] at a1 a2
      rw [if_pos hj, Array.getElem?_toList, a2, a1]
    · rw [if_neg hj, List.getElem?_eq_none (by rw [qcells_len]; omega)]
theorem LAt.of_own (h : w.ownsRow 0 71 4 v l.length (qcells l)) : LAt w v l := by
  rcases h.2 with ⟨h1, h2⟩ | ⟨f, c, cur, e, _, h1, h3, h4, h2, h5⟩
  · exact .inl ⟨h1, List.eq_nil_of_length_eq_zero h2⟩
  · refine .inr ⟨f, c, cur, e, h1, h2, h3, h4, fun i q k hi hk => ?_⟩
    have a1 := qcells_at l i k q hi hk
    have hil : i < l.length := (List.getElem?_eq_some_iff.1 hi).1
    rw [← h5, List.getElem?_take, if_pos (by omega), Array.getElem?_toList] at a1
    exact a1
/-- A value that reads as rows. -/
def View (W : World) (u : Value) (m : List QR) : Prop := (u = .slice none 0 0 ∧ m = []) ∨ ∃ f o c, u = .slice (some ⟨f, o, none⟩) m.length c ∧ ∀ i q k, m[i]? = some q → k < 4 → W.cell? ⟨f, o + (i * 4 + k), none⟩ = some (qf q k)
theorem info71 : (Try.prog.info? 71).map (fun i => (i.zero, i.size, i.bytes)) = some (some (.agg #[.int .i64 0, .string ⟨#[]⟩, .int .i64 0, .string ⟨#[]⟩]), 4, 48) := by kernel_rfl
theorem app_nil (ty : TypeId) (w : World) (f n c : Nat) (h : n ≤ c) : (Builtin.append_ #[67, 67] ty #[.slice (some ⟨f, 0, none⟩) n c, .slice none 0 0]).run Try.prog w = .ok (.slice (some ⟨f, 0, none⟩) n c) w := by
  have hu := Try.underlying67
  have hi : (sizeOf 71).run Try.prog w = .ok 4 w := by kernel_rfl
  unfold Builtin.append_
  simp [go_sem, hu, hi, Builtin.lenOf, Builtin.firstCells, h]
theorem app_run (ty : TypeId) (hv : LAt w v l) (hu : View w u m) (hb : l.length + m.length ≤ 70000) : ∃ v' w', (Builtin.append_ #[67, 67] ty #[v, u]).run Try.prog w = .ok v' w' ∧ LAt w' v' (l ++ m) ∧ w.grownBy w' v.ownBlock ∧ (v'.ownBlock = v.ownBlock ∨ v'.ownBlock = some w.heap.size) := by
  obtain ⟨i0, hi0, hz0, hs0, hb0⟩ := info_parts info71
  rcases hu with ⟨rfl, rfl⟩ | ⟨f, o, c, rfl, hc⟩
  · refine ⟨v, w, ?_, by simpa using hv, ?_, .inl rfl⟩
    · rcases hv with ⟨rfl, rfl⟩ | ⟨f, c, cur, rfl, g1, g2, g3, g4, g5⟩
      · kernel_rfl
      · exact app_nil ty w f l.length c g3
    · exact ⟨rfl, rfl, rfl, Nat.le_refl _, fun _ _ _ => rfl⟩
  · obtain ⟨v', w', h1, h2, h3, _, h5⟩ := run_append_own_at (P := Try.prog) w 0 67 ty 71 i0 _ 4 48 Try.underlying67 hi0 hz0 hs0 hb0 rfl (by decide) v l.length (qcells l) hv.own ⟨f, o, none⟩ m.length c (qcells m) (qcells_len m)
      (fun j u' hj => by
        obtain ⟨i, k, q, rfl, hk, hq, rfl⟩ := qcells_of hj
        rw [add_none]
        exact hc i q k hq hk)
      (fun u' hu' => by
        obtain ⟨j, hj⟩ := List.getElem?_of_mem hu'
        obtain ⟨i, k, q, rfl, hk, hq, rfl⟩ := qcells_of hj
        exact qf_one q k)
      (by unfold maxLen; omega) (by omega) (Nat.zero_le _)
    refine ⟨v', w', h1, LAt.of_own ?_, h3, h5⟩
    rw [List.length_append, qcells_app]
    exact h2
theorem wpList_app {ops : Array Oper} {rest : List Oper} {o : Oper} {a : Act} {Q : Exit → Act → World → Prop} (hgd : o.guard = none) (s x : Operand) (ho : o.op = .call { callee := .builtin .append, args := #[s, x], argTypes := #[67, 67] })
    (v u : Value) (l m : List QR) (hs : a.eval s = v) (hx : a.eval x = u) (hv : LAt w v l) (hu : View w u m) (hb : l.length + m.length ≤ 70000) (n : Nat) (hn : n = l.length + m.length)
    (h : ∀ b c w', LAt w' (.slice b n c) (l ++ m) → w.grownBy w' v.ownBlock → ((Value.slice b n c).ownBlock = v.ownBlock ∨ (Value.slice b n c).ownBlock = some w.heap.size) → wpList Try.prog ops Q rest (a.put o.dst (.slice b n c)) w') : wpList Try.prog ops Q (o :: rest) a w :=
  wpList_plain hgd fun _ hK => by
    obtain ⟨v', w', hr, h2, h3, h4⟩ := app_run o.type hv hu hb
    obtain ⟨b, c, e⟩ := h2.slice
    rw [List.length_append, ← hn] at e
    subst e
    unfold Oper.wp execOp
    simp only [ho, resolve, invoke, builtin, Sem.run_bind, Sem.run_pure, Result.andThen_ok, List.map_toArray, List.map_cons, List.map_nil, hs, hx, hr]
    exact hK _ _ (h b c w' h2 h3 h4)
theorem app_keep {wr w1 w2 : World} {o : Obj} {b1 : Value} (G1 : wr.grownBy w1 (Value.slice none 0 0).ownBlock) (N1 : b1.ownBlock = (Value.slice none 0 0).ownBlock ∨ b1.ownBlock = some wr.heap.size) (G2 : (w1.alloc o).grownBy w2 b1.ownBlock) (k : Nat) (hk : k < wr.heap.size) : w2.heap[k]? = wr.heap[k]? := by
  have s1 := G1.size
  refine (G2.block k (by simp; omega) (fun e => ?_)).trans ((Below.heap_alloc w1 _ k (by omega)).trans (G1.block k hk (fun e => by cases e)))
  rcases N1 with q | q
  · rw [q] at e; cases e
  · rw [q] at e; cases e; omega
theorem app_keep2 {wr w1 w2 w3 : World} {o : Obj} {b1 b2 : Value} (G1 : wr.grownBy w1 (Value.slice none 0 0).ownBlock) (N1 : b1.ownBlock = (Value.slice none 0 0).ownBlock ∨ b1.ownBlock = some wr.heap.size) (G2 : (w1.alloc o).grownBy w2 b1.ownBlock) (N2 : b2.ownBlock = b1.ownBlock ∨ b2.ownBlock = some (w1.alloc o).heap.size) (G3 : w2.grownBy w3 b2.ownBlock) (k : Nat) (hk : k < wr.heap.size) : w3.heap[k]? = wr.heap[k]? := by
  have s1 := G1.size
  have s2 := G2.size
  simp at s2
  refine (G3.block k (by omega) (fun e => ?_)).trans (app_keep G1 N1 G2 k hk)
  rcases N2 with q | q
  · rw [q] at e
    rcases N1 with q | q
    · rw [q] at e; cases e
    · rw [q] at e; cases e; omega
  · rw [q] at e; simp at e; omega
theorem LAt.setOther (h : LAt w v l) {b : Nat} (hb : ∀ k, v.ownBlock = some k → k ≠ b) (i : Nat) (x : Value) : LAt (w.setCell ⟨b, i, none⟩ x) v l := by
  rcases h with h | ⟨f, c, cur, rfl, g1, g2⟩
  · exact .inl h
  · exact .inr ⟨f, c, cur, rfl, g1.setOther i (fun e => hb f rfl e) x, g2⟩
theorem app_own {wr w1 w2 : World} {o : Obj} {b1 b2 b3 : Value} (s1 : wr.heap.size ≤ w1.heap.size) (s2 : (w1.alloc o).heap.size ≤ w2.heap.size) (N1 : b1.ownBlock = (Value.slice none 0 0).ownBlock ∨ b1.ownBlock = some wr.heap.size) (N2 : b2.ownBlock = b1.ownBlock ∨ b2.ownBlock = some (w1.alloc o).heap.size) (N3 : b3.ownBlock = b2.ownBlock ∨ b3.ownBlock = some w2.heap.size) (k : Nat) (hk : b3.ownBlock = some k) : wr.heap.size ≤ k := by
  simp at s2
  rcases N3 with q | q
  · rw [q] at hk
    rcases N2 with q | q
    · rw [q] at hk
      rcases N1 with q | q
      · rw [q] at hk; cases hk
      · rw [q] at hk; cases hk; omega
    · rw [q] at hk; simp at hk; omega
  · rw [q] at hk; cases hk; omega
theorem app_chg {wr w1 w2 w3 : World} {o : Obj} {b1 b2 : Value} (S : Nat → Prop) (G1 : wr.grownBy w1 (Value.slice none 0 0).ownBlock) (N1 : b1.ownBlock = (Value.slice none 0 0).ownBlock ∨ b1.ownBlock = some wr.heap.size) (G2 : (w1.alloc o).grownBy w2 b1.ownBlock) (N2 : b2.ownBlock = b1.ownBlock ∨ b2.ownBlock = some (w1.alloc o).heap.size) (G3 : w2.grownBy w3 b2.ownBlock) : Chg S wr w3 := by
  have s1 := G1.size
  have s2 := G2.size
  have s3 := G3.size
  simp at s2
  exact ⟨G3.os.trans (G2.os.trans G1.os), G3.tape.trans (G2.tape.trans G1.tape), G3.output.trans (G2.output.trans G1.output), by omega, fun k hk _ => app_keep2 G1 N1 G2 N2 G3 k hk⟩
theorem LAt.takeV {va : Option Addr} {len vc j : Nat} (h : LAt w (.slice va len vc) l) (hj : j ≤ len) : View w (.slice va j vc) (l.take j) := by
  rcases h with ⟨e, rfl⟩ | ⟨f, c, cur, e, g1, g2, g3, g4, g5⟩
  · cases e
    obtain rfl : j = 0 := by omega
    exact .inl ⟨rfl, by simp⟩
  · cases e
    refine .inr ⟨f, 0, vc, by rw [List.length_take, Nat.min_eq_left hj], fun i q k hi hk => ?_⟩
    have hij : i < j := by
      have := (List.getElem?_eq_some_iff.1 hi).1
      rw [List.length_take] at this
      omega
    rw [List.getElem?_take, if_pos hij] at hi
    rw [Nat.zero_add]
    exact (g1.cell _).trans (g5 i q k hi hk)
theorem LAt.dropV {len vc j d : Nat} {f : Nat} (h : LAt w (.slice (some ⟨f, 0, none⟩) len vc) l) (hj : j ≤ len) : View w (.slice (some ⟨f, j * 4, none⟩) (len - j) d) (l.drop j) := by
  rcases h with ⟨e, rfl⟩ | ⟨f', c, cur, e, g1, g2, g3, g4, g5⟩
  · cases e
  · cases e
    refine .inr ⟨f, j * 4, d, by rw [List.length_drop], fun i q k hi hk => ?_⟩
    rw [List.getElem?_drop] at hi
    have := (g1.cell _).trans (g5 (j + i) q k hi hk)
    rwa [show (j + i) * 4 + k = j * 4 + (i * 4 + k) by omega] at this
theorem LAt.grow {w' : World} (h : LAt w v l) (hb : Below w.heap.size w w') : LAt w' v l := by
  rcases h with h | ⟨f, c, cur, e, g1, g2⟩
  · exact .inl h
  · exact .inr ⟨f, c, cur, e, (hb.block _ g1.lt).trans g1, g2⟩
/-- One row, laid into a block of its own. -/
theorem View.one (w : World) (q : QR) (h : Int) (hh : h = (q.h : Int)) : View (w.alloc (.cells #[.int .i64 h, .string q.a, .int .i64 q.b, .string q.v] 71)) (.slice (some ⟨w.heap.size, 0, none⟩) 1 1) [q] := by
  subst hh
  refine .inr ⟨w.heap.size, 0, 1, rfl, fun i p k hi hk => ?_⟩
  have hB := Has.new w #[.int .i64 (q.h : Int), .string q.a, .int .i64 q.b, .string q.v] 71
  match i, hi with
  | 0, hi =>
    simp at hi
    subst hi
    rw [hB.cell]
    match k, hk with
    | 0, _ => rfl
    | 1, _ => rfl
    | 2, _ => rfl
    | 3, _ => rfl
theorem View.of_block {w' : World} (h : View w u m) (e : ∀ f o c k, u = .slice (some ⟨f, o, none⟩) k c → w'.heap[f]? = w.heap[f]?) : View w' u m := by
  rcases h with h | ⟨f, o, c, rfl, h⟩
  · exact .inl h
  · exact .inr ⟨f, o, c, rfl, fun i q k hi hk => (World.cell?_of_block (w := w) (a := ⟨f, o + (i * 4 + k), none⟩) (e f o c _ rfl)).trans (h i q k hi hk)⟩
end
end Go.Proofs.Ytckbffbjdcnklaa
