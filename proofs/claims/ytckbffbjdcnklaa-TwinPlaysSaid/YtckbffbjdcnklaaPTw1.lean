/- A table in memory (instance P); New, Len, ByA, ByB, at, Get. -/
import Derived.Test.YtckbffbjdcnklaaTwBase
namespace Go.Proofs.Ytckbffbjdcnklaa.P
open Go.RowKit
set_option linter.unusedSimpArgs false
set_option linter.unusedVariables false

structure Row where
  a : ByteArray
  b : Int
  v : ByteArray
def vA (x : ByteArray) : Value := .string x
def vB (x : Int) : Value := .int .i64 x
def vV (x : ByteArray) : Value := .string x
def zA : Value := .string ⟨#[]⟩
def zB : Value := .int .i64 0
def zV : Value := .string ⟨#[]⟩
def kA (x : ByteArray) : Lit := .string x.data.toList
def kB (x : Int) : Lit := .int .i64 x
def okA (x : ByteArray) : Prop := x.size ≤ maxLen
def okB (x : Int) : Prop := (Lit.int .i64 x).wf = true
theorem keyedA : Maps.Keyed Try.prog 9 := Maps.Keyed.of_law (WideMaps.string_law Try.underlying9)
theorem keyedB : Maps.Keyed Try.prog 3 := Maps.int_keyed Try.underlying3
theorem keyA {x : ByteArray} (h : okA x) : keyOf Try.prog 9 (vA x) = some (kA x) := WideMaps.keyOf_string_mk Try.underlying9 h
theorem keyB {x : Int} (h : okB x) : keyOf Try.prog 3 (vB x) = some (kB x) := Maps.keyOf_int_mk Try.underlying3 h
theorem kA_inj {x y : ByteArray} (h : kA x = kA y) : x = y := ByteArray.ext (Array.ext' (Lit.string.inj h))
theorem kB_inj {x y : Int} (h : kB x = kB y) : x = y := (Lit.int.inj h).2
/-- Cell k of a row. -/
def fld : Option Row → Nat → Value
  | none, 0 => zA
  | none, 1 => zB
  | none, 2 => zV
  | some r, 0 => vA r.a
  | some r, 1 => vB r.b
  | some r, 2 => vV r.v
  | r, _ => .bool r.isSome
/-- Block g holds the rows of the handles up to m. -/
def RowsAt (w : World) (g cap m : Nat) (R : Nat → Option Row) : Prop :=
  ∃ cur : Array Value, w.heap[g]? = some (.cells cur 109 (0, 0)) ∧ cur.size = cap * 4 ∧ m + 1 ≤ cap ∧ cap ≤ maxLen ∧ ∀ h k, h ≤ m → k < 4 → cur[h * 4 + k]? = some (fld (R h) k)
structure TS (w0 : Base) (w : World) (tb g cap am bm room m cnt : Nat) (R : Nat → Option Row) (fa : ByteArray → Option Nat) (fb : Int → Option Nat) (fr : Value) : Prop where
  head : Has w tb 105 #[.int .i64 room, .slice (some ⟨g, 0, none⟩) (m + 1 : Nat) cap, fr, .map (some am), .map (some bm)]
  rows : RowsAt w g cap m R
  ma : ∃ M, GMap Try.prog w 9 am cnt M ∧ ∀ x, okA x → M (kA x) = (fa x).map fun (h : Nat) => .int .i64 (h : Int)
  mb : ∃ M, GMap Try.prog w 3 bm cnt M ∧ ∀ x, okB x → M (kB x) = (fb x).map fun (h : Nat) => .int .i64 (h : Int)
  coA : ∀ x h, okA x → (fa x = some h ↔ ∃ r, R h = some r ∧ r.a = x)
  coB : ∀ x h, okB x → (fb x = some h ↔ ∃ r, R h = some r ∧ r.b = x)
  okR : ∀ h r, R h = some r → okA r.a ∧ okB r.b ∧ 1 ≤ h ∧ h ≤ m
  ne : tb ≠ g ∧ tb ≠ am ∧ tb ≠ bm ∧ g ≠ am ∧ g ≠ bm ∧ am ≠ bm
  z : ¬ w0.Z tb ∧ ¬ w0.Z g ∧ ¬ w0.Z am ∧ ¬ w0.Z bm
  bel : Keeps w0 w
  hm : m ≤ 70000
  hc : cnt ≤ 70000
  hr : room ≤ 70000
section
variable {w0 : Base} {w w' : World} {tb g cap am bm room m cnt : Nat} {R : Nat → Option Row} {fa : ByteArray → Option Nat} {fb : Int → Option Nat} {fr : Value}
theorem RowsAt.of_block (h : RowsAt w g cap m R) (e : w'.heap[g]? = w.heap[g]?) : RowsAt w' g cap m R := by
  obtain ⟨cur, h1, h2⟩ := h
  exact ⟨cur, e.trans h1, h2⟩
theorem RowsAt.lt (h : RowsAt w g cap m R) : g < w.heap.size := by
  obtain ⟨cur, h1, _⟩ := h
  exact Has.lt (w := w) (b := g) (t := 109) (xs := cur) h1
theorem RowsAt.cell (h : RowsAt w g cap m R) {x k : Nat} (hx : x ≤ m) (hk : k < 4) : w.cell? ⟨g, x * 4 + k, none⟩ = some (fld (R x) k) := by
  obtain ⟨cur, h1, _, _, _, h2⟩ := h
  exact (Has.cell (w := w) (b := g) (t := 109) (xs := cur) h1 _).trans (h2 x k hx hk)
theorem RowsAt.free (h : RowsAt w g cap m R) (o : Nat) : w.frozen? ⟨g, o, none⟩ = false := by
  obtain ⟨cur, h1, _⟩ := h
  exact Has.free (w := w) (b := g) (t := 109) (xs := cur) h1 o
theorem TS.alt (h : TS w0 w tb g cap am bm room m cnt R fa fb fr) : am < w.heap.size := by obtain ⟨M, q, _⟩ := h.ma; exact q.lt
theorem TS.blt (h : TS w0 w tb g cap am bm room m cnt R fa fb fr) : bm < w.heap.size := by obtain ⟨M, q, _⟩ := h.mb; exact q.lt
theorem TS.of_blocks (h : TS w0 w tb g cap am bm room m cnt R fa fb fr) {S : Nat → Prop} (c : Chg S w w') (n1 : ¬ S tb) (n2 : ¬ S g) (n3 : ¬ S am) (n4 : ¬ S bm) (hz : ∀ b, S b → ¬ w0.Z b) : TS w0 w' tb g cap am bm room m cnt R fa fb fr := by
  obtain ⟨MA, q1, q2⟩ := h.ma
  obtain ⟨MB, q3, q4⟩ := h.mb
  exact ⟨(c.block _ h.head.lt n1).trans h.head, h.rows.of_block (c.block _ h.rows.lt n2), ⟨MA, q1.of_block (c.block _ q1.lt n3), q2⟩, ⟨MB, q3.of_block (c.block _ q3.lt n4), q4⟩, h.coA, h.coB, h.okR, h.ne, h.z, h.bel.trans c hz, h.hm, h.hc, h.hr⟩
theorem TS.grow (h : TS w0 w tb g cap am bm room m cnt R fa fb fr) (hb : Below w.heap.size w w') : TS w0 w' tb g cap am bm room m cnt R fa fb fr :=
  h.of_blocks (S := fun _ => False) (Chg.of_below hb) (fun h => h) (fun h => h) (fun h => h) (fun h => h) (fun _ h => h.elim)
theorem new_bad (n : Int) (hn : n < 1 ∨ 65536 < n) (w : World) : Calls Try.prog 29 #[.int .i64 n] w fun e w' => e = .returned (.tuple #[.pointer none, .int .i64 1]) ∧ w = w' := by
  by_cases h1 : n < 1
  · clear hn
    go_enter Try.func29, Try.ntmps29
    go_wp2
    go_ret2
    exact ⟨rfl, rfl⟩
  · have h2 : 65536 < n := by omega
    clear hn
    go_enter Try.func29, Try.ntmps29
    go_wp2
    go_ret2
    exact ⟨rfl, rfl⟩
set_option maxHeartbeats 800000 in
theorem new_c (room : Nat) (h1 : 1 ≤ room) (h2 : room ≤ 65536) (w : World) : Calls Try.prog 29 #[.int .i64 room] w fun e w' => ∃ tb g am bm, e = .returned (.tuple #[.pointer (some ⟨tb, 0, none⟩), .int .i64 0]) ∧ TS ⟨w, fun b => b < w.heap.size⟩ w' tb g 1 am bm room 0 0 (fun _ => none) (fun _ => none) (fun _ => none) (.slice none 0 0) := by
  have hmm := @run_makeMap Try.prog
  have hmk : ∀ W : World, (Instr.makeSlice 103 (.int .i64 1) (.int .i64 1)).run Try.prog W = .ok (.slice (some ⟨W.heap.size, 0, none⟩) 1 1) (W.alloc (.cells #[zA, zB, zV, .bool false] 109)) := fun W => by kernel_rfl
  have FIN : Hid (TS ⟨w, fun b => b < w.heap.size⟩ ((((w.alloc (.cells #[zA, zB, zV, .bool false] 109)).alloc (.map #[] 0)).alloc (.map #[] 0)).alloc (.cells #[.int .i64 room, .slice (some ⟨w.heap.size, 0, none⟩) 1 1, .slice none 0 0, .map (some (w.heap.size + 1)), .map (some (w.heap.size + 1 + 1))] 105)) (w.heap.size + 1 + 1 + 1) w.heap.size 1 (w.heap.size + 1) (w.heap.size + 1 + 1) room 0 0 (fun _ => none) (fun _ => none) (fun _ => none) (.slice none 0 0)) := by
    have g1 := GMap.made Try.prog (w.alloc (.cells #[zA, zB, zV, .bool false] 109)) 9
    have g2 := GMap.made Try.prog ((w.alloc (.cells #[zA, zB, zV, .bool false] 109)).alloc (.map #[] 0)) 3
    simp at g1 g2
    have b4 : Below w.heap.size w ((((w.alloc (.cells #[zA, zB, zV, .bool false] 109)).alloc (.map #[] 0)).alloc (.map #[] 0)).alloc (.cells #[.int .i64 room, .slice (some ⟨w.heap.size, 0, none⟩) 1 1, .slice none 0 0, .map (some (w.heap.size + 1)), .map (some (w.heap.size + 1 + 1))] 105)) :=
      ((((Below.refl _ _).alloc (Nat.le_refl _) _).alloc (by simp) _).alloc (by simp; omega) _).alloc (by simp; omega) _
    refine ⟨?_, ⟨#[zA, zB, zV, .bool false], ?_, rfl, Nat.le_refl _, by unfold maxLen; omega, fun h k hh hk => ?_⟩, ⟨_, (g1.of_block ((Below.heap_alloc _ _ _ (by simp <;> omega)).trans (Below.heap_alloc _ _ _ (by simp <;> omega)))), fun x _ => rfl⟩, ⟨_, g2.of_block (Below.heap_alloc _ _ _ (by simp)), fun x _ => rfl⟩, fun x h _ => (by simp), fun x h _ => (by simp), fun h r e => (by cases e), by omega, by simp; omega, ⟨b4.os, b4.tape, b4.output, b4.size, b4.block, fun b h => h⟩, by omega, by omega, by omega⟩
    · have := Has.new (((w.alloc (.cells #[zA, zB, zV, .bool false] 109)).alloc (.map #[] 0)).alloc (.map #[] 0)) #[.int .i64 room, .slice (some ⟨w.heap.size, 0, none⟩) 1 1, .slice none 0 0, .map (some (w.heap.size + 1)), .map (some (w.heap.size + 1 + 1))] 105
      simp at this
      exact this
    · exact (((Has.new w #[zA, zB, zV, .bool false] 109).alloc _).alloc _).alloc _
    · obtain rfl : h = 0 := by omega
      match k, hk with
      | 0, _ => rfl
      | 1, _ => rfl
      | 2, _ => rfl
      | 3, _ => rfl
  go_enter Try.func29, Try.ntmps29
  go_wp2
  go_ret2
  first | exact ⟨_, _, _, _, by first | rfl | simp, FIN.out⟩ | exact ⟨_, rfl, _, _, _, FIN.out⟩
set_option maxHeartbeats 800000 in
theorem len_c (h : TS w0 w tb g cap am bm room m cnt R fa fb fr) : Calls Try.prog 32 #[.pointer (some ⟨tb, 0, none⟩)] w fun e w' => e = .returned (.int .i64 cnt) ∧ w = w' := by
  have c3 := h.head.cell 3
  obtain ⟨M, gm, _⟩ := h.ma
  have hl := gm.len Try.underlying75 3
  simp at c3
  clear h gm
  go_enter Try.func32, Try.ntmps32
  go_wp2
  go_ret
  exact ⟨rfl, rfl⟩
theorem TS.lookA (h : TS w0 w tb g cap am bm room m cnt R fa fb fr) {x : ByteArray} (hx : okA x) : (Instr.lookup 75 (.map (some am)) (vA x) true).run Try.prog w = .ok (.tuple #[.int .i64 (((fa x).getD 0 : Nat) : Int), .bool (fa x).isSome]) w := by
  obtain ⟨M, gm, hM⟩ := h.ma
  have := gm.look_ok keyedA Try.underlying75 zero3 (keyA hx)
  rw [hM x hx] at this
  rw [this]
  cases fa x <;> rfl
theorem TS.lookB (h : TS w0 w tb g cap am bm room m cnt R fa fb fr) {x : Int} (hx : okB x) : (Instr.lookup 86 (.map (some bm)) (vB x) true).run Try.prog w = .ok (.tuple #[.int .i64 (((fb x).getD 0 : Nat) : Int), .bool (fb x).isSome]) w := by
  obtain ⟨M, gm, hM⟩ := h.mb
  have := gm.look_ok keyedB Try.underlying86 zero3 (keyB hx)
  rw [hM x hx] at this
  rw [this]
  cases fb x <;> rfl
theorem byA_c (h : TS w0 w tb g cap am bm room m cnt R fa fb fr) (x : ByteArray) (hx : okA x) : Calls Try.prog 51 #[.pointer (some ⟨tb, 0, none⟩), vA x] w fun e w' => e = .returned (.tuple #[.int .i64 (((fa x).getD 0 : Nat) : Int), .bool (fa x).isSome]) ∧ w = w' := by
  have c3 := h.head.cell 3
  have lk := h.lookA hx
  simp at c3
  generalize (fa x).getD 0 = q at lk ⊢
  generalize (fa x).isSome = s at lk ⊢
  unfold vA at *
  clear h hx
  go_enter Try.func51, Try.ntmps51
  go_wp2
  go_ret2
  exact ⟨rfl, rfl⟩
theorem byB_c (h : TS w0 w tb g cap am bm room m cnt R fa fb fr) (x : Int) (hx : okB x) : Calls Try.prog 35 #[.pointer (some ⟨tb, 0, none⟩), vB x] w fun e w' => e = .returned (.tuple #[.int .i64 (((fb x).getD 0 : Nat) : Int), .bool (fb x).isSome]) ∧ w = w' := by
  have c4 := h.head.cell 4
  have lk := h.lookB hx
  simp at c4
  generalize (fb x).getD 0 = q at lk ⊢
  generalize (fb x).isSome = s at lk ⊢
  unfold vB at *
  clear h hx
  go_enter Try.func35, Try.ntmps35
  go_wp2
  go_ret2
  exact ⟨rfl, rfl⟩
set_option maxHeartbeats 800000 in
theorem at_no (h : TS w0 w tb g cap am bm room m cnt R fa fb fr) (x : Int) (hx : x < 1 ∨ (m : Int) < x ∨ R x.toNat = none) : Calls Try.prog 57 #[.pointer (some ⟨tb, 0, none⟩), .int .i64 x] w fun e w' => e = .returned (.pointer none) ∧ w = w' := by
  have c1 := h.head.cell 1
  have hm := h.hm
  simp at c1
  by_cases h1 : x < 1
  · clear h hx
    go_enter Try.func57, Try.ntmps57
    go_wp2
    go_ret
    exact ⟨rfl, rfl⟩
  by_cases h2 : (m : Int) < x
  · have h3 : (m : Int) + 1 ≤ x := by omega
    clear h hx
    go_enter Try.func57, Try.ntmps57
    go_wp2
    go_ret
    exact ⟨rfl, rfl⟩
  · obtain ⟨y, rfl⟩ : ∃ y : Nat, x = (y : Int) := ⟨x.toNat, by omega⟩
    have hy : R y = none := by rcases hx with q | q | q <;> first | omega | exact q
    have h3 : (y : Int) < (m : Int) + 1 := by omega
    have h4 : 1 ≤ (y : Int) := by omega
    have cc := h.rows.cell (x := y) (k := 3) (by omega) (by omega)
    rw [hy] at cc
    have cd : w.cell? ⟨g, y * 4 + 3, none⟩ = some (.bool false) := cc
    clear h hx cc hy
    go_enter Try.func57, Try.ntmps57
    go_wp2
    go_ret
    exact ⟨rfl, rfl⟩
set_option maxHeartbeats 800000 in
theorem at_yes (h : TS w0 w tb g cap am bm room m cnt R fa fb fr) (x : Nat) (r : Row) (hr : R x = some r) : Calls Try.prog 57 #[.pointer (some ⟨tb, 0, none⟩), .int .i64 x] w fun e w' => e = .returned (.pointer (some ⟨g, x * 4, none⟩)) ∧ w = w' := by
  have c1 := h.head.cell 1
  have hm := h.hm
  obtain ⟨_, _, r1, r2⟩ := h.okR x r hr
  simp at c1
  have h3 : (x : Int) < (m : Int) + 1 := by omega
  have h4 : 1 ≤ (x : Int) := by omega
  have cc := h.rows.cell (x := x) (k := 3) (by omega) (by omega)
  rw [hr] at cc
  have cd : w.cell? ⟨g, x * 4 + 3, none⟩ = some (.bool true) := cc
  clear h hr cc
  go_enter Try.func57, Try.ntmps57
  go_wp2
  go_ret
  exact ⟨rfl, rfl⟩
end
end Go.Proofs.Ytckbffbjdcnklaa.P
