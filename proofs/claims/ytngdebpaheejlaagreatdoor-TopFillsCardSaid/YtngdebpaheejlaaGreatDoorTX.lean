/- The table with two keys of the flows: Put of what is new. -/
import Derived.Test.YtngdebpaheejlaaGreatDoorZm
import Derived.Test.YtngdebpaheejlaaGreatDoorZh
namespace Go.Proofs.YtngdebpaheejlaaGreatDoor
open Go.RowKit Go.Shelf
set_option linter.unusedSimpArgs false
set_option linter.unusedVariables false
theorem info324 : (Tryz.prog.info? 324).map (fun i => (i.zero, i.size, i.bytes)) = some (some (.agg #[.int .i64 0, .int .u32 0, .int .u32 0, .int .i64 0, .int .i64 0, .int .i64 0, .int .u32 0, .int .u32 0, .int .i64 0, .int .i64 0, .int .i64 0, .int .u32 0, .int .u32 0, .int .i64 0, .int .i64 0, .int .i64 0, .int .u32 0, .int .u32 0, .int .i64 0, .int .i64 0, .int .i64 0, .int .i64 0, .int .i64 0, .bool false, .bool false]), 25, 168) := by kernel_rfl
theorem Row.cellAt {S : Nat → Prop} {w : World} {t : TypeId} {size m g cap : Nat} {xs : List Value} (h : Row S w t size (.slice (some ⟨g, 0, none⟩) m cap) m xs) {i : Nat} (hi : i < m * size) : w.cell? ⟨g, i, none⟩ = xs[i]? := by
  rcases h.1.2 with ⟨e, _⟩ | ⟨g', cap', cur, e, _, q1, _, _, q2, q3⟩
  · cases e
  · cases e
    rw [← q3, List.getElem?_take, if_pos hi]
    exact (Has.cell (w := w) (b := g) (t := t) (xs := cur) q1 i).trans (by simp)
theorem Row.freeAt {S : Nat → Prop} {w : World} {t : TypeId} {size m g cap : Nat} {xs : List Value} (h : Row S w t size (.slice (some ⟨g, 0, none⟩) m cap) m xs) (i : Nat) : w.frozen? ⟨g, i, none⟩ = false := by
  rcases h.1.2 with ⟨e, _⟩ | ⟨g', cap', cur, e, _, q1, _, _, q2, q3⟩
  · cases e
  · cases e
    exact Has.free (w := w) (b := g) (t := t) (xs := cur) q1 i
theorem Row.setIn {S : Nat → Prop} {w : World} {t : TypeId} {size m g cap : Nat} {xs : List Value} (h : Row S w t size (.slice (some ⟨g, 0, none⟩) m cap) m xs) (i : Nat) (u : Value) : Row S (w.setCell ⟨g, i, none⟩ u) t size (.slice (some ⟨g, 0, none⟩) m cap) m (xs.set i u) := by
  refine ⟨⟨by simpa using h.1.1, ?_⟩, h.2⟩
  rcases h.1.2 with ⟨e, _⟩ | ⟨g', cap', cur, e, q0, q1, q2, q3, q4, q5⟩
  · cases e
  · cases e
    exact .inr ⟨g, cap, cur.setIfInBounds i u, rfl, q0, Has.set (w := w) (b := g) (t := t) (xs := cur) q1 i u, q2, q3, by simpa using q4, by rw [← q5]; simp [List.take_set]⟩
theorem app_set {α : Type} (l zs : List α) (i : Nat) (v : α) : (l ++ zs).set (l.length + i) v = l ++ zs.set i v := by
  rw [List.set_append_right _ _ (by omega)]; simp
theorem app_set0 {α : Type} (l zs : List α) (v : α) : (l ++ zs).set l.length v = l ++ zs.set 0 v := app_set l zs 0 v
theorem Row.setMany {S : Nat → Prop} {t : TypeId} {size m g cap : Nat} : ∀ (vs : List Value) (o : Nat) {w : World} {xs : List Value}, Row S w t size (.slice (some ⟨g, 0, none⟩) m cap) m xs → ∃ ys, Row S (w.setCells g o vs) t size (.slice (some ⟨g, 0, none⟩) m cap) m ys ∧ ∀ l zs, xs = l ++ zs → l.length = o → zs.length = vs.length → ys = l ++ vs
  | [], o, w, xs, h => ⟨xs, h, fun l zs e _ hz => by
    have : zs = [] := List.eq_nil_of_length_eq_zero hz
    rw [e, this]⟩
  | v :: r, o, w, xs, h => by
    obtain ⟨ys, h1, h2⟩ := Row.setMany r (o + 1) (h.setIn o v)
    refine ⟨ys, h1, fun l zs e ho hz => ?_⟩
    cases zs with
    | nil => simp at hz
    | cons z zr =>
      have := h2 (l ++ [v]) zr (by rw [e, ← ho, app_set0]; simp) (by simp; omega) (by simpa using hz)
      rw [this]; simp
theorem Has.setMany {t : TypeId} {g b : Nat} {ys : Array Value} (hb : b ≠ g) : ∀ (vs : List Value) (o : Nat) {w : World}, Has w b t ys → Has (w.setCells g o vs) b t ys
  | [], o, w, h => h
  | v :: r, o, w, h => Has.setMany hb r (o + 1) (h.setOther o hb v)
theorem heap_setMany {g b : Nat} (hb : b ≠ g) : ∀ (vs : List Value) (o : Nat) {w : World}, (w.setCells g o vs).heap[b]? = w.heap[b]?
  | [], o, w => rfl
  | v :: r, o, w => (heap_setMany hb r (o + 1)).trans (Below.heap_setCell _ _ _ _ hb)
theorem Chg.setMany {S : Nat → Prop} {w : World} {g : Nat} (hb : S g) : ∀ (vs : List Value) (o : Nat) {w' : World}, Chg S w w' → Chg S w (w'.setCells g o vs)
  | [], o, w', h => h
  | v :: r, o, w', h => Chg.setMany hb r (o + 1) (h.set hb o v)
theorem Row.len {S : Nat → Prop} {w : World} {t : TypeId} {size m : Nat} {v : Value} {xs : List Value} (h : Row S w t size v m xs) : xs.length = m * size := h.1.1
set_option maxRecDepth 100000 in
set_option maxHeartbeats 6400000 in
theorem twput_t (S : Nat → Prop) (t am bm r n : Nat) (gA gB : Value → Option Value) (l : List Value) (a0 a1 a2 a3 a4 b0 b1 b2 b3 b4 v0 v1 v2 : Int) (v3 : Bool) (hka : (keyOf Tryz.prog 97 (.agg #[.int .i64 a0, .int .u32 a1, .int .u32 a2, .int .i64 a3, .int .i64 a4])).isSome = true) (hkb : (keyOf Tryz.prog 97 (.agg #[.int .i64 b0, .int .u32 b1, .int .u32 b2, .int .i64 b3, .int .i64 b4])).isSome = true) (hnA : gA (.agg #[.int .i64 a0, .int .u32 a1, .int .u32 a2, .int .i64 a3, .int .i64 a4]) = none) (hnB : gB (.agg #[.int .i64 b0, .int .u32 b1, .int .u32 b2, .int .i64 b3, .int .i64 b4]) = none) (hnr : n < r) (hr : r ≤ 100) (w : World) (hS : ∀ b, S b → b < w.heap.size) (h : Tw S w t am bm r n gA gB l) :
    Calls Tryz.prog 140 #[.pointer (some ⟨t, 0, none⟩), .agg #[.int .i64 a0, .int .u32 a1, .int .u32 a2, .int .i64 a3, .int .i64 a4], .agg #[.int .i64 b0, .int .u32 b1, .int .u32 b2, .int .i64 b3, .int .i64 b4], .agg #[.int .i64 a0, .int .u32 a1, .int .u32 a2, .int .i64 a3, .int .i64 a4, .int .i64 b0, .int .u32 b1, .int .u32 b2, .int .i64 b3, .int .i64 b4, .int .i64 v0, .int .i64 v1, .int .i64 v2, .bool v3]] w fun e w' => e = .returned (.tuple #[.int .i64 ((n : Int) + 1), .int .i64 0]) ∧ Tw (fun b => S b ∨ w.heap.size ≤ b) w' t am bm r (n + 1) (setK gA (.agg #[.int .i64 a0, .int .u32 a1, .int .u32 a2, .int .i64 a3, .int .i64 a4]) (.int .i64 ((n : Int) + 1))) (setK gB (.agg #[.int .i64 b0, .int .u32 b1, .int .u32 b2, .int .i64 b3, .int .i64 b4]) (.int .i64 ((n : Int) + 1))) (l ++ [.int .i64 a0, .int .u32 a1, .int .u32 a2, .int .i64 a3, .int .i64 a4, .int .i64 b0, .int .u32 b1, .int .u32 b2, .int .i64 b3, .int .i64 b4, .int .i64 a0, .int .u32 a1, .int .u32 a2, .int .i64 a3, .int .i64 a4, .int .i64 b0, .int .u32 b1, .int .u32 b2, .int .i64 b3, .int .i64 b4, .int .i64 v0, .int .i64 v1, .int .i64 v2, .bool v3, .bool true]) ∧ Chg S w w' := by
  have h1 : Tw S (((w.alloc (.cells #[.int .i64 a0, .int .u32 a1, .int .u32 a2, .int .i64 a3, .int .i64 a4] 97)).alloc (.cells #[.int .i64 b0, .int .u32 b1, .int .u32 b2, .int .i64 b3, .int .i64 b4] 97)).alloc (.cells #[.int .i64 a0, .int .u32 a1, .int .u32 a2, .int .i64 a3, .int .i64 a4, .int .i64 b0, .int .u32 b1, .int .u32 b2, .int .i64 b3, .int .i64 b4, .int .i64 v0, .int .i64 v1, .int .i64 v2, .bool v3] 99)) t am bm r n gA gB l := ((h.keep (KeepM.alloc _ _ _)).keep (KeepM.alloc _ _ _)).keep (KeepM.alloc _ _ _)
  have hX : Has (((w.alloc (.cells #[.int .i64 a0, .int .u32 a1, .int .u32 a2, .int .i64 a3, .int .i64 a4] 97)).alloc (.cells #[.int .i64 b0, .int .u32 b1, .int .u32 b2, .int .i64 b3, .int .i64 b4] 97)).alloc (.cells #[.int .i64 a0, .int .u32 a1, .int .u32 a2, .int .i64 a3, .int .i64 a4, .int .i64 b0, .int .u32 b1, .int .u32 b2, .int .i64 b3, .int .i64 b4, .int .i64 v0, .int .i64 v1, .int .i64 v2, .bool v3] 99)) w.heap.size 97 #[.int .i64 a0, .int .u32 a1, .int .u32 a2, .int .i64 a3, .int .i64 a4] := ((Has.new w #[.int .i64 a0, .int .u32 a1, .int .u32 a2, .int .i64 a3, .int .i64 a4] 97).alloc _).alloc _
  have hY : Has (((w.alloc (.cells #[.int .i64 a0, .int .u32 a1, .int .u32 a2, .int .i64 a3, .int .i64 a4] 97)).alloc (.cells #[.int .i64 b0, .int .u32 b1, .int .u32 b2, .int .i64 b3, .int .i64 b4] 97)).alloc (.cells #[.int .i64 a0, .int .u32 a1, .int .u32 a2, .int .i64 a3, .int .i64 a4, .int .i64 b0, .int .u32 b1, .int .u32 b2, .int .i64 b3, .int .i64 b4, .int .i64 v0, .int .i64 v1, .int .i64 v2, .bool v3] 99)) (w.heap.size + 1) 97 #[.int .i64 b0, .int .u32 b1, .int .u32 b2, .int .i64 b3, .int .i64 b4] := (has_made (by simp)).alloc _
  have hZ : Has (((w.alloc (.cells #[.int .i64 a0, .int .u32 a1, .int .u32 a2, .int .i64 a3, .int .i64 a4] 97)).alloc (.cells #[.int .i64 b0, .int .u32 b1, .int .u32 b2, .int .i64 b3, .int .i64 b4] 97)).alloc (.cells #[.int .i64 a0, .int .u32 a1, .int .u32 a2, .int .i64 a3, .int .i64 a4, .int .i64 b0, .int .u32 b1, .int .u32 b2, .int .i64 b3, .int .i64 b4, .int .i64 v0, .int .i64 v1, .int .i64 v2, .bool v3] 99)) (w.heap.size + 1 + 1) 99 #[.int .i64 a0, .int .u32 a1, .int .u32 a2, .int .i64 a3, .int .i64 a4, .int .i64 b0, .int .u32 b1, .int .u32 b2, .int .i64 b3, .int .i64 b4, .int .i64 v0, .int .i64 v1, .int .i64 v2, .bool v3] := has_made (by simp)
  have hC : Chg S w (((w.alloc (.cells #[.int .i64 a0, .int .u32 a1, .int .u32 a2, .int .i64 a3, .int .i64 a4] 97)).alloc (.cells #[.int .i64 b0, .int .u32 b1, .int .u32 b2, .int .i64 b3, .int .i64 b4] 97)).alloc (.cells #[.int .i64 a0, .int .u32 a1, .int .u32 a2, .int .i64 a3, .int .i64 a4, .int .i64 b0, .int .u32 b1, .int .u32 b2, .int .i64 b3, .int .i64 b4, .int .i64 v0, .int .i64 v1, .int .i64 v2, .bool v3] 99)) := (((Chg.refl S w).alloc _).alloc _).alloc _
  have z1 : (((w.alloc (.cells #[.int .i64 a0, .int .u32 a1, .int .u32 a2, .int .i64 a3, .int .i64 a4] 97)).alloc (.cells #[.int .i64 b0, .int .u32 b1, .int .u32 b2, .int .i64 b3, .int .i64 b4] 97)).alloc (.cells #[.int .i64 a0, .int .u32 a1, .int .u32 a2, .int .i64 a3, .int .i64 a4, .int .i64 b0, .int .u32 b1, .int .u32 b2, .int .i64 b3, .int .i64 b4, .int .i64 v0, .int .i64 v1, .int .i64 v2, .bool v3] 99)).heap.size = w.heap.size + 1 + 1 + 1 := by simp
  have ine : ((n : Int) == (r : Int)) = false := by simp; omega
  go_enter Tryz.func140, Tryz.ntmps140
  go_wp2_with fail
  obtain ⟨w1, hw⟩ : ∃ W, W = ((w.alloc (.cells #[.int .i64 a0, .int .u32 a1, .int .u32 a2, .int .i64 a3, .int .i64 a4] 97)).alloc (.cells #[.int .i64 b0, .int .u32 b1, .int .u32 b2, .int .i64 b3, .int .i64 b4] 97)).alloc (.cells #[.int .i64 a0, .int .u32 a1, .int .u32 a2, .int .i64 a3, .int .i64 a4, .int .i64 b0, .int .u32 b1, .int .u32 b2, .int .i64 b3, .int .i64 b4, .int .i64 v0, .int .i64 v1, .int .i64 v2, .bool v3] 99) := ⟨_, rfl⟩
  rw [← hw] at h1 hX hY hZ hC z1 ⊢
  obtain ⟨bx, hbx⟩ : ∃ b, b = w.heap.size := ⟨_, rfl⟩
  obtain ⟨by_, hby⟩ : ∃ b, b = w.heap.size + 1 := ⟨_, rfl⟩
  obtain ⟨bz, hbz⟩ : ∃ b, b = w.heap.size + 1 + 1 := ⟨_, rfl⟩
  have LO : Hid (bx = w.heap.size ∧ by_ = w.heap.size + 1 ∧ bz = w.heap.size + 1 + 1 ∧ w1.heap.size = w.heap.size + 1 + 1 + 1) := ⟨hbx, hby, hbz, z1⟩
  rw [← hbz] at hZ ⊢
  rw [← hby] at hY ⊢
  rw [← hbx] at hX ⊢
  clear hw hbx hby hbz z1 h
  have HS := Lib.hid hS
  clear hS
  have KA : Hid (∀ W, Below w1.heap.size w1 W → W.cell? ⟨t, 3, none⟩ = some (.map (some am)) ∧ W.cell? ⟨bx, 0, none⟩ = some (.int .i64 a0) ∧ W.cell? ⟨bx, 1, none⟩ = some (.int .u32 a1) ∧ W.cell? ⟨bx, 2, none⟩ = some (.int .u32 a2) ∧ W.cell? ⟨bx, 3, none⟩ = some (.int .i64 a3) ∧ W.cell? ⟨bx, 4, none⟩ = some (.int .i64 a4) ∧ (Instr.lookup 164 (.map (some am)) (.agg #[.int .i64 a0, .int .u32 a1, .int .u32 a2, .int .i64 a3, .int .i64 a4]) true).run Tryz.prog W = .ok (.tuple #[.int .i64 0, .bool false]) W) := fun W hW => by
    obtain ⟨o1, ⟨sv, q1, q2⟩, q3, q4, q5⟩ := h1.keep (KeepM.below hW)
    have x := hX.below hW
    exact ⟨(q1.cell 3).trans rfl, (x.cell 0).trans rfl, (x.cell 1).trans rfl, (x.cell 2).trans rfl, (x.cell 3).trans rfl, (x.cell 4).trans rfl, q3.look_ok keyed97 Tryz.underlying164 zero3' _ hka _ _ (by rw [hnA]; rfl) (by rw [hnA]; rfl)⟩
  go_region_held3 (fun W => W.cell? ⟨t, 3, none⟩ = some (.map (some am)) ∧ W.cell? ⟨bx, 0, none⟩ = some (.int .i64 a0) ∧ W.cell? ⟨bx, 1, none⟩ = some (.int .u32 a1) ∧ W.cell? ⟨bx, 2, none⟩ = some (.int .u32 a2) ∧ W.cell? ⟨bx, 3, none⟩ = some (.int .i64 a3) ∧ W.cell? ⟨bx, 4, none⟩ = some (.int .i64 a4) ∧ (Instr.lookup 164 (.map (some am)) (.agg #[.int .i64 a0, .int .u32 a1, .int .u32 a2, .int .i64 a3, .int .i64 a4]) true).run Tryz.prog W = .ok (.tuple #[.int .i64 0, .bool false]) W) (first | exact KA.out _ ((Below.refl _ _).drew)) (fail)
  have LO2 : Hid (bx = w.heap.size ∧ by_ = w.heap.size + 1 ∧ bz = w.heap.size + 1 + 1 ∧ w1.drew.heap.size = w.heap.size + 1 + 1 + 1) := LO.out
  have h2 : Tw S w1.drew t am bm r n gA gB l := h1.keep (fun _ _ _ => rfl)
  have hX2 := hX.drew
  have hY2 := hY.drew
  have hZ2 := hZ.drew
  have hC2 := hC.drew
  clear KA h1 hX hY hZ hC LO
  generalize w1.drew = w2 at h2 hX2 hY2 hZ2 hC2 LO2 ⊢
  go_wp2_with fail
  have KA : Hid (∀ W, Below w2.heap.size w2 W → W.cell? ⟨t, 4, none⟩ = some (.map (some bm)) ∧ W.cell? ⟨by_, 0, none⟩ = some (.int .i64 b0) ∧ W.cell? ⟨by_, 1, none⟩ = some (.int .u32 b1) ∧ W.cell? ⟨by_, 2, none⟩ = some (.int .u32 b2) ∧ W.cell? ⟨by_, 3, none⟩ = some (.int .i64 b3) ∧ W.cell? ⟨by_, 4, none⟩ = some (.int .i64 b4) ∧ (Instr.lookup 164 (.map (some bm)) (.agg #[.int .i64 b0, .int .u32 b1, .int .u32 b2, .int .i64 b3, .int .i64 b4]) true).run Tryz.prog W = .ok (.tuple #[.int .i64 0, .bool false]) W) := fun W hW => by
    obtain ⟨o1, ⟨sv, q1, q2⟩, q3, q4, q5⟩ := h2.keep (KeepM.below hW)
    have x := hY2.below hW
    exact ⟨(q1.cell 4).trans rfl, (x.cell 0).trans rfl, (x.cell 1).trans rfl, (x.cell 2).trans rfl, (x.cell 3).trans rfl, (x.cell 4).trans rfl, q4.look_ok keyed97 Tryz.underlying164 zero3' _ hkb _ _ (by rw [hnB]; rfl) (by rw [hnB]; rfl)⟩
  go_region_held3 (fun W => W.cell? ⟨t, 4, none⟩ = some (.map (some bm)) ∧ W.cell? ⟨by_, 0, none⟩ = some (.int .i64 b0) ∧ W.cell? ⟨by_, 1, none⟩ = some (.int .u32 b1) ∧ W.cell? ⟨by_, 2, none⟩ = some (.int .u32 b2) ∧ W.cell? ⟨by_, 3, none⟩ = some (.int .i64 b3) ∧ W.cell? ⟨by_, 4, none⟩ = some (.int .i64 b4) ∧ (Instr.lookup 164 (.map (some bm)) (.agg #[.int .i64 b0, .int .u32 b1, .int .u32 b2, .int .i64 b3, .int .i64 b4]) true).run Tryz.prog W = .ok (.tuple #[.int .i64 0, .bool false]) W) (first | exact KA.out _ ((Below.refl _ _).drew)) (fail)
  have LO3 : Hid (bx = w.heap.size ∧ by_ = w.heap.size + 1 ∧ bz = w.heap.size + 1 + 1 ∧ w2.drew.heap.size = w.heap.size + 1 + 1 + 1) := LO2.out
  have h3 : Tw S w2.drew t am bm r n gA gB l := h2.keep (fun _ _ _ => rfl)
  have hX3 := hX2.drew
  have hY3 := hY2.drew
  have hZ3 := hZ2.drew
  have hC3 := hC2.drew
  clear KA h2 hX2 hY2 hZ2 hC2 LO2
  generalize w2.drew = w3 at h3 hX3 hY3 hZ3 hC3 LO3 ⊢
  go_wp2_with fail
  have KA : Hid (∀ W, Below w3.heap.size w3 W → W.cell? ⟨t, 0, none⟩ = some (.int .i64 (r : Int)) ∧ Tw S W t am bm r n gA gB l) := fun W hW => by
    have q := h3.keep (KeepM.below hW)
    obtain ⟨sv, q1, _⟩ := q.st
    exact ⟨(q1.cell 0).trans rfl, q⟩
  go_region_held3 (fun W => W.cell? ⟨t, 0, none⟩ = some (.int .i64 (r : Int)) ∧ Tw S W t am bm r n gA gB l) (first | exact KA.out _ (Below.refl _ _).drew | exact KA.out _ (Below.refl _ _).drew.drew) ((go_at_call 27; refine (twlen_c S t am bm r n gA gB l _ (by first | assumption | exact (KA.out _ (Below.refl _ _).drew).2)).mono ?_; rintro _ _ ⟨rfl, rfl⟩))
  all_goals
    have LO4 : Hid (bx = w.heap.size ∧ by_ = w.heap.size + 1 ∧ bz = w.heap.size + 1 + 1 ∧ w3.drew.heap.size = w.heap.size + 1 + 1 + 1) := LO3.out
    have h4 : Tw S w3.drew t am bm r n gA gB l := h3.keep (fun _ _ _ => rfl)
    have hX4 := hX3.drew
    have hY4 := hY3.drew
    have hZ4 := hZ3.drew
    have hC4 := hC3.drew
    clear KA h3 hX3 hY3 hZ3 hC3 LO3
    generalize w3.drew = w4 at h4 hX4 hY4 hZ4 hC4 LO4 ⊢
    obtain ⟨o1, ⟨sv, q1, q2⟩, q3, q4, q5⟩ := h4
    obtain ⟨g, cap, rfl⟩ : ∃ g cap, sv = .slice (some ⟨g, 0, none⟩) (n + 1) cap := by
      rcases q2.1.2 with ⟨rfl, e⟩ | ⟨g, cap, cur, rfl, _⟩
      · omega
      · exact ⟨g, cap, rfl⟩
    obtain ⟨i0, hi0, hz0, hs0, hb0⟩ := info_parts info324
    have c1 := (q1.cell 1).trans rfl
    have c2 := (q1.cell 2).trans rfl
    have OWN := q2.1
    have HCN : Hid (∀ (j : Nat) (u : Value), [.int .i64 0, .int .u32 0, .int .u32 0, .int .i64 0, .int .i64 0, .int .i64 0, .int .u32 0, .int .u32 0, .int .i64 0, .int .i64 0, .int .i64 0, .int .u32 0, .int .u32 0, .int .i64 0, .int .i64 0, .int .i64 0, .int .u32 0, .int .u32 0, .int .i64 0, .int .i64 0, .int .i64 0, .int .i64 0, .int .i64 0, .bool false, .bool false][j]? = some u → (w4.alloc (.cells #[.int .i64 0, .int .u32 0, .int .u32 0, .int .i64 0, .int .i64 0, .int .i64 0, .int .u32 0, .int .u32 0, .int .i64 0, .int .i64 0, .int .i64 0, .int .u32 0, .int .u32 0, .int .i64 0, .int .i64 0, .int .i64 0, .int .u32 0, .int .u32 0, .int .i64 0, .int .i64 0, .int .i64 0, .int .i64 0, .int .i64 0, .bool false, .bool false] 324)).cell? ((⟨w4.heap.size, 0, none⟩ : Addr).add j) = some u) := fun j u hj => by
      have := (Has.new w4 #[.int .i64 0, .int .u32 0, .int .u32 0, .int .i64 0, .int .i64 0, .int .i64 0, .int .u32 0, .int .u32 0, .int .i64 0, .int .i64 0, .int .i64 0, .int .u32 0, .int .u32 0, .int .i64 0, .int .i64 0, .int .i64 0, .int .u32 0, .int .u32 0, .int .i64 0, .int .i64 0, .int .i64 0, .int .i64 0, .int .i64 0, .bool false, .bool false] 324).cell j
      rw [add_none, Nat.zero_add, this]
      simpa using hj
    have hmx : n + 1 + 1 ≤ maxLen := by unfold maxLen; omega
    have Q1 := Lib.hid q1
    have Q2 := Lib.hid q2
    have Q3 := Lib.hid q3
    have Q4 := Lib.hid q4
    clear q1 q2 q3 q4
    go_wp2_with (at_builtin; go_loud (refine wpList_append_lies _ rfl _ _ 162 rfl 0 324 i0 _ 25 168 Tryz.underlying162 hi0 hz0 hs0 hb0 rfl (by decide) _ (n + 1) _ rfl (OWN.alloc _) ⟨w4.heap.size, 0, none⟩ 1 1 [.int .i64 0, .int .u32 0, .int .u32 0, .int .i64 0, .int .i64 0, .int .i64 0, .int .u32 0, .int .u32 0, .int .i64 0, .int .i64 0, .int .i64 0, .int .u32 0, .int .u32 0, .int .i64 0, .int .i64 0, .int .i64 0, .int .u32 0, .int .u32 0, .int .i64 0, .int .i64 0, .int .i64 0, .int .i64 0, .int .i64 0, .bool false, .bool false] rfl rfl HCN.out (by simp [Value.oneCell']) (by omega) hmx (by omega) (by simp) (w4.heap.size + 1) (by simp) ?_))
    intro g2 cap2 w5 own G hat hlt
    obtain ⟨hR5, hC5, hz5, up⟩ := Q2.out.app own G hat
    have hH5 := (up _ Q1.out.lt (Q2.out.ne Q1.out (by decide))).trans Q1.out
    have c1' : w5.cell? ⟨t, 1, none⟩ = _ := Has.cell hH5 1
    have f1 : w5.frozen? ⟨t, 1, none⟩ = false := Has.free hH5 1
    go_wp2_with fail
    have hgt : g2 ≠ t := fun e => hR5.ne hH5 (by decide) (by rw [e]; rfl)
    have hH6 : Has (w5.setCell ⟨t, 1, none⟩ (.slice (some ⟨g2, 0, none⟩) (n + 1 + 1) cap2)) t 166 #[.int .i64 (r : Int), .slice (some ⟨g2, 0, none⟩) (n + 1 + 1) cap2, .slice none 0 0, .map (some am), .map (some bm)] := by have := Has.set (w := w5) (b := t) (t := 166) hH5 1 (.slice (some ⟨g2, 0, none⟩) (n + 1 + 1) cap2); simpa using this
    have hR6 : Row (fun b => S b ∨ w4.heap.size ≤ b) (w5.setCell ⟨t, 1, none⟩ (.slice (some ⟨g2, 0, none⟩) (n + 1 + 1) cap2)) 324 25 (.slice (some ⟨g2, 0, none⟩) (n + 1 + 1) cap2) (n + 1 + 1) (l ++ [.int .i64 0, .int .u32 0, .int .u32 0, .int .i64 0, .int .i64 0, .int .i64 0, .int .u32 0, .int .u32 0, .int .i64 0, .int .i64 0, .int .i64 0, .int .u32 0, .int .u32 0, .int .i64 0, .int .i64 0, .int .i64 0, .int .u32 0, .int .u32 0, .int .i64 0, .int .i64 0, .int .i64 0, .int .i64 0, .int .i64 0, .bool false, .bool false]) := hR5.setOther (hR5.ne hH5 (by decide)) 1 _
    have hl := Q2.out.len
    have z6 : (w5.setCell ⟨t, 1, none⟩ (.slice (some ⟨g2, 0, none⟩) (n + 1 + 1) cap2)).heap.size = w5.heap.size := by simp
    have X6 : ∀ c ty xs, (ty = 97 ∨ ty = 99) → Has w4 c ty xs → Has (w5.setCell ⟨t, 1, none⟩ (.slice (some ⟨g2, 0, none⟩) (n + 1 + 1) cap2)) c ty xs := fun c ty xs ht hc => by
      have ne1 : ty ≠ 166 := by rintro rfl; rcases ht with e | e <;> exact absurd e (by decide)
      have ne2 : ty ≠ 324 := by rintro rfl; rcases ht with e | e <;> exact absurd e (by decide)
      exact Has.setOther (w := w5) (b := c) (t := ty) ((up _ hc.lt (Q2.out.ne hc (fun e => ne2 e.symm))).trans hc) 1 (hc.ne Q1.out ne1) _
    have hX6 := X6 _ _ _ (.inl rfl) hX4
    have hY6 := X6 _ _ _ (.inl rfl) hY4
    have hZ6 := X6 _ _ _ (.inr rfl) hZ4
    have M6 : ∀ c, c < w4.heap.size → c ≠ t → (Value.slice (some ⟨g, 0, none⟩) (n + 1) cap).ownBlock ≠ some c → (w5.setCell ⟨t, 1, none⟩ (.slice (some ⟨g2, 0, none⟩) (n + 1 + 1) cap2)).heap[c]? = w4.heap[c]? := fun c hc n1 n2 => (Below.heap_setCell _ _ _ _ n1).trans (up c hc n2)
    have mne : ∀ c ty m M, GMap Tryz.prog w4 ty c m M → (w5.setCell ⟨t, 1, none⟩ (.slice (some ⟨g2, 0, none⟩) (n + 1 + 1) cap2)).heap[c]? = w4.heap[c]? := fun c ty m M G => M6 c G.lt (G.neHas Q1.out) (fun e => by
      rcases Q2.out.1.2 with ⟨q, _⟩ | ⟨g', cap', cur, q, _, q1, _⟩
      · cases q
      · cases q; cases e; exact G.neHas (show Has w4 g 324 cur from q1) rfl)
    have hA6 : KMap S (w5.setCell ⟨t, 1, none⟩ (.slice (some ⟨g2, 0, none⟩) (n + 1 + 1) cap2)) 97 am n gA := by
      obtain ⟨s, M, r1, r2⟩ := Q3.out
      exact ⟨s, M, r1.of_block (mne _ _ _ _ r1), r2⟩
    have hB6 : KMap S (w5.setCell ⟨t, 1, none⟩ (.slice (some ⟨g2, 0, none⟩) (n + 1 + 1) cap2)) 97 bm n gB := by
      obtain ⟨s, M, r1, r2⟩ := Q4.out
      exact ⟨s, M, r1.of_block (mne _ _ _ _ r1), r2⟩
    have hC6 : Chg (fun b => S b ∨ w4.heap.size ≤ b) w4 (w5.setCell ⟨t, 1, none⟩ (.slice (some ⟨g2, 0, none⟩) (n + 1 + 1) cap2)) := (hC5.mono (fun b _ h => .inl h)).set (.inl o1) _ _
    clear M6 mne X6 c1 c2 c1' f1 OWN HCN hmx Q1 Q2 Q3 Q4 hX4 hY4 hZ4 hR5 hC5 hz5 up own G hat hlt hH5 hi0 hz0 hs0 hb0
    generalize w5.setCell ⟨t, 1, none⟩ (.slice (some ⟨g2, 0, none⟩) (n + 1 + 1) cap2) = w6 at hH6 hR6 z6 hX6 hY6 hZ6 hA6 hB6 hC6 ⊢
    have him : ((n : Int) + 1) < ((n : Int) + 1 + 1) := by omega
    have hgl : g2 < w6.heap.size := by
      rcases hR6.1.2 with ⟨q, _⟩ | ⟨g', cap', cur, q, _, q1, _⟩
      · cases q
      · cases q; exact (Array.getElem?_eq_some_iff.1 q1).1
    have hgx : bx ≠ g2 := fun e => hR6.ne hX6 (by decide) (by rw [e]; rfl)
    have hgy : by_ ≠ g2 := fun e => hR6.ne hY6 (by decide) (by rw [e]; rfl)
    have hgz : bz ≠ g2 := fun e => hR6.ne hZ6 (by decide) (by rw [e]; rfl)
    have x1 : ∀ V : Gr w6, V.1.cell? ⟨t, 1, none⟩ = some (.slice (some ⟨g2, 0, none⟩) (n + 1 + 1) cap2) := fun V => ((V.has hH6).cell 1).trans rfl
    have bx0 : ∀ V : Gr w6, V.1.cell? ⟨bx, 0, none⟩ = some (.int .i64 a0) := fun V => ((V.has hX6).cell 0).trans rfl
    have bx1 : ∀ V : Gr w6, V.1.cell? ⟨bx, 1, none⟩ = some (.int .u32 a1) := fun V => ((V.has hX6).cell 1).trans rfl
    have bx2 : ∀ V : Gr w6, V.1.cell? ⟨bx, 2, none⟩ = some (.int .u32 a2) := fun V => ((V.has hX6).cell 2).trans rfl
    have bx3 : ∀ V : Gr w6, V.1.cell? ⟨bx, 3, none⟩ = some (.int .i64 a3) := fun V => ((V.has hX6).cell 3).trans rfl
    have bx4 : ∀ V : Gr w6, V.1.cell? ⟨bx, 4, none⟩ = some (.int .i64 a4) := fun V => ((V.has hX6).cell 4).trans rfl
    have by_0 : ∀ V : Gr w6, V.1.cell? ⟨by_, 0, none⟩ = some (.int .i64 b0) := fun V => ((V.has hY6).cell 0).trans rfl
    have by_1 : ∀ V : Gr w6, V.1.cell? ⟨by_, 1, none⟩ = some (.int .u32 b1) := fun V => ((V.has hY6).cell 1).trans rfl
    have by_2 : ∀ V : Gr w6, V.1.cell? ⟨by_, 2, none⟩ = some (.int .u32 b2) := fun V => ((V.has hY6).cell 2).trans rfl
    have by_3 : ∀ V : Gr w6, V.1.cell? ⟨by_, 3, none⟩ = some (.int .i64 b3) := fun V => ((V.has hY6).cell 3).trans rfl
    have by_4 : ∀ V : Gr w6, V.1.cell? ⟨by_, 4, none⟩ = some (.int .i64 b4) := fun V => ((V.has hY6).cell 4).trans rfl
    have bz0 : ∀ V : Gr w6, V.1.cell? ⟨bz, 0, none⟩ = some (.int .i64 a0) := fun V => ((V.has hZ6).cell 0).trans rfl
    have bz1 : ∀ V : Gr w6, V.1.cell? ⟨bz, 1, none⟩ = some (.int .u32 a1) := fun V => ((V.has hZ6).cell 1).trans rfl
    have bz2 : ∀ V : Gr w6, V.1.cell? ⟨bz, 2, none⟩ = some (.int .u32 a2) := fun V => ((V.has hZ6).cell 2).trans rfl
    have bz3 : ∀ V : Gr w6, V.1.cell? ⟨bz, 3, none⟩ = some (.int .i64 a3) := fun V => ((V.has hZ6).cell 3).trans rfl
    have bz4 : ∀ V : Gr w6, V.1.cell? ⟨bz, 4, none⟩ = some (.int .i64 a4) := fun V => ((V.has hZ6).cell 4).trans rfl
    have bz5 : ∀ V : Gr w6, V.1.cell? ⟨bz, 5, none⟩ = some (.int .i64 b0) := fun V => ((V.has hZ6).cell 5).trans rfl
    have bz6 : ∀ V : Gr w6, V.1.cell? ⟨bz, 6, none⟩ = some (.int .u32 b1) := fun V => ((V.has hZ6).cell 6).trans rfl
    have bz7 : ∀ V : Gr w6, V.1.cell? ⟨bz, 7, none⟩ = some (.int .u32 b2) := fun V => ((V.has hZ6).cell 7).trans rfl
    have bz8 : ∀ V : Gr w6, V.1.cell? ⟨bz, 8, none⟩ = some (.int .i64 b3) := fun V => ((V.has hZ6).cell 8).trans rfl
    have bz9 : ∀ V : Gr w6, V.1.cell? ⟨bz, 9, none⟩ = some (.int .i64 b4) := fun V => ((V.has hZ6).cell 9).trans rfl
    have bz10 : ∀ V : Gr w6, V.1.cell? ⟨bz, 10, none⟩ = some (.int .i64 v0) := fun V => ((V.has hZ6).cell 10).trans rfl
    have bz11 : ∀ V : Gr w6, V.1.cell? ⟨bz, 11, none⟩ = some (.int .i64 v1) := fun V => ((V.has hZ6).cell 11).trans rfl
    have bz12 : ∀ V : Gr w6, V.1.cell? ⟨bz, 12, none⟩ = some (.int .i64 v2) := fun V => ((V.has hZ6).cell 12).trans rfl
    have bz13 : ∀ V : Gr w6, V.1.cell? ⟨bz, 13, none⟩ = some (.bool v3) := fun V => ((V.has hZ6).cell 13).trans rfl
    have hRl : ∀ V : Gr w6, Row (fun b => S b ∨ w4.heap.size ≤ b) V.1 324 25 (.slice (some ⟨g2, 0, none⟩) (n + 1 + 1) cap2) (n + 1 + 1) (l ++ [.int .i64 0, .int .u32 0, .int .u32 0, .int .i64 0, .int .i64 0, .int .i64 0, .int .u32 0, .int .u32 0, .int .i64 0, .int .i64 0, .int .i64 0, .int .u32 0, .int .u32 0, .int .i64 0, .int .i64 0, .int .i64 0, .int .u32 0, .int .u32 0, .int .i64 0, .int .i64 0, .int .i64 0, .int .i64 0, .int .i64 0, .bool false, .bool false]) := fun V => hR6.keep (KeepM.below V.2)
    refine wp_region_grows_tail 10 (by kernel_rfl) (by kernel_rfl) ?_
    simp only [List.take_succ_cons, List.take_zero, List.drop_succ_cons, List.drop_zero]
    repeat (go_big_quiet_step (fail))
    refine wpQuiet_nil ?_
    rintro _ ⟨V, rfl⟩
    refine wpList_store_mid rfl _ _ _ rfl g2 ((n + 1) * 25) #[.int .i64 a0, .int .u32 a1, .int .u32 a2, .int .i64 a3, .int .i64 a4, .int .i64 b0, .int .u32 b1, .int .u32 b2, .int .i64 b3, .int .i64 b4, .int .i64 a0, .int .u32 a1, .int .u32 a2, .int .i64 a3, .int .i64 a4, .int .i64 b0, .int .u32 b1, .int .u32 b2, .int .i64 b3, .int .i64 b4, .int .i64 v0, .int .i64 v1, .int .i64 v2, .bool v3, .bool true] rfl rfl ?_ (by kernel_rfl) (by kernel_rfl) ?_
    · intro j hj
      have hj : j < 25 := hj
      refine ⟨?_, (hRl V).freeAt _⟩
      rw [(hRl V).cellAt (by omega), List.getElem?_append_right (by omega)]
      rw [List.getElem?_eq_getElem (by simp; omega)]
      rfl
    have bV : Below w6.heap.size w6 V.1 := V.2
    have hH7 : Has (V.1.setCells g2 ((n + 1) * 25) #[.int .i64 a0, .int .u32 a1, .int .u32 a2, .int .i64 a3, .int .i64 a4, .int .i64 b0, .int .u32 b1, .int .u32 b2, .int .i64 b3, .int .i64 b4, .int .i64 a0, .int .u32 a1, .int .u32 a2, .int .i64 a3, .int .i64 a4, .int .i64 b0, .int .u32 b1, .int .u32 b2, .int .i64 b3, .int .i64 b4, .int .i64 v0, .int .i64 v1, .int .i64 v2, .bool v3, .bool true].toList) t 166 _ := Has.setMany (Ne.symm hgt) [.int .i64 a0, .int .u32 a1, .int .u32 a2, .int .i64 a3, .int .i64 a4, .int .i64 b0, .int .u32 b1, .int .u32 b2, .int .i64 b3, .int .i64 b4, .int .i64 a0, .int .u32 a1, .int .u32 a2, .int .i64 a3, .int .i64 a4, .int .i64 b0, .int .u32 b1, .int .u32 b2, .int .i64 b3, .int .i64 b4, .int .i64 v0, .int .i64 v1, .int .i64 v2, .bool v3, .bool true] _ (V.has hH6)
    have hX7 : Has (V.1.setCells g2 ((n + 1) * 25) #[.int .i64 a0, .int .u32 a1, .int .u32 a2, .int .i64 a3, .int .i64 a4, .int .i64 b0, .int .u32 b1, .int .u32 b2, .int .i64 b3, .int .i64 b4, .int .i64 a0, .int .u32 a1, .int .u32 a2, .int .i64 a3, .int .i64 a4, .int .i64 b0, .int .u32 b1, .int .u32 b2, .int .i64 b3, .int .i64 b4, .int .i64 v0, .int .i64 v1, .int .i64 v2, .bool v3, .bool true].toList) bx 97 _ := Has.setMany hgx [.int .i64 a0, .int .u32 a1, .int .u32 a2, .int .i64 a3, .int .i64 a4, .int .i64 b0, .int .u32 b1, .int .u32 b2, .int .i64 b3, .int .i64 b4, .int .i64 a0, .int .u32 a1, .int .u32 a2, .int .i64 a3, .int .i64 a4, .int .i64 b0, .int .u32 b1, .int .u32 b2, .int .i64 b3, .int .i64 b4, .int .i64 v0, .int .i64 v1, .int .i64 v2, .bool v3, .bool true] _ (V.has hX6)
    have hY7 : Has (V.1.setCells g2 ((n + 1) * 25) #[.int .i64 a0, .int .u32 a1, .int .u32 a2, .int .i64 a3, .int .i64 a4, .int .i64 b0, .int .u32 b1, .int .u32 b2, .int .i64 b3, .int .i64 b4, .int .i64 a0, .int .u32 a1, .int .u32 a2, .int .i64 a3, .int .i64 a4, .int .i64 b0, .int .u32 b1, .int .u32 b2, .int .i64 b3, .int .i64 b4, .int .i64 v0, .int .i64 v1, .int .i64 v2, .bool v3, .bool true].toList) by_ 97 _ := Has.setMany hgy [.int .i64 a0, .int .u32 a1, .int .u32 a2, .int .i64 a3, .int .i64 a4, .int .i64 b0, .int .u32 b1, .int .u32 b2, .int .i64 b3, .int .i64 b4, .int .i64 a0, .int .u32 a1, .int .u32 a2, .int .i64 a3, .int .i64 a4, .int .i64 b0, .int .u32 b1, .int .u32 b2, .int .i64 b3, .int .i64 b4, .int .i64 v0, .int .i64 v1, .int .i64 v2, .bool v3, .bool true] _ (V.has hY6)
    have hR7 : Row (fun b => S b ∨ w4.heap.size ≤ b) (V.1.setCells g2 ((n + 1) * 25) #[.int .i64 a0, .int .u32 a1, .int .u32 a2, .int .i64 a3, .int .i64 a4, .int .i64 b0, .int .u32 b1, .int .u32 b2, .int .i64 b3, .int .i64 b4, .int .i64 a0, .int .u32 a1, .int .u32 a2, .int .i64 a3, .int .i64 a4, .int .i64 b0, .int .u32 b1, .int .u32 b2, .int .i64 b3, .int .i64 b4, .int .i64 v0, .int .i64 v1, .int .i64 v2, .bool v3, .bool true].toList) 324 25 (.slice (some ⟨g2, 0, none⟩) (n + 1 + 1) cap2) (n + 1 + 1) (l ++ [.int .i64 a0, .int .u32 a1, .int .u32 a2, .int .i64 a3, .int .i64 a4, .int .i64 b0, .int .u32 b1, .int .u32 b2, .int .i64 b3, .int .i64 b4, .int .i64 a0, .int .u32 a1, .int .u32 a2, .int .i64 a3, .int .i64 a4, .int .i64 b0, .int .u32 b1, .int .u32 b2, .int .i64 b3, .int .i64 b4, .int .i64 v0, .int .i64 v1, .int .i64 v2, .bool v3, .bool true]) := by
      obtain ⟨ys, r1, r2⟩ := Row.setMany [.int .i64 a0, .int .u32 a1, .int .u32 a2, .int .i64 a3, .int .i64 a4, .int .i64 b0, .int .u32 b1, .int .u32 b2, .int .i64 b3, .int .i64 b4, .int .i64 a0, .int .u32 a1, .int .u32 a2, .int .i64 a3, .int .i64 a4, .int .i64 b0, .int .u32 b1, .int .u32 b2, .int .i64 b3, .int .i64 b4, .int .i64 v0, .int .i64 v1, .int .i64 v2, .bool v3, .bool true] ((n + 1) * 25) (hRl V)
      rw [r2 l _ rfl hl rfl] at r1
      exact r1
    have gne : ∀ c ty m M, GMap Tryz.prog w6 ty c m M → (V.1.setCells g2 ((n + 1) * 25) #[.int .i64 a0, .int .u32 a1, .int .u32 a2, .int .i64 a3, .int .i64 a4, .int .i64 b0, .int .u32 b1, .int .u32 b2, .int .i64 b3, .int .i64 b4, .int .i64 a0, .int .u32 a1, .int .u32 a2, .int .i64 a3, .int .i64 a4, .int .i64 b0, .int .u32 b1, .int .u32 b2, .int .i64 b3, .int .i64 b4, .int .i64 v0, .int .i64 v1, .int .i64 v2, .bool v3, .bool true].toList).heap[c]? = w6.heap[c]? := fun c ty m M G => (heap_setMany (fun e => by
      rcases hR6.1.2 with ⟨q, _⟩ | ⟨g', cap', cur, q, _, q1, _⟩
      · cases q
      · cases q; exact G.neHas (show Has w6 g2 324 cur from q1) e) [.int .i64 a0, .int .u32 a1, .int .u32 a2, .int .i64 a3, .int .i64 a4, .int .i64 b0, .int .u32 b1, .int .u32 b2, .int .i64 b3, .int .i64 b4, .int .i64 a0, .int .u32 a1, .int .u32 a2, .int .i64 a3, .int .i64 a4, .int .i64 b0, .int .u32 b1, .int .u32 b2, .int .i64 b3, .int .i64 b4, .int .i64 v0, .int .i64 v1, .int .i64 v2, .bool v3, .bool true] _).trans (bV.block c G.lt)
    have hA7 : KMap S (V.1.setCells g2 ((n + 1) * 25) #[.int .i64 a0, .int .u32 a1, .int .u32 a2, .int .i64 a3, .int .i64 a4, .int .i64 b0, .int .u32 b1, .int .u32 b2, .int .i64 b3, .int .i64 b4, .int .i64 a0, .int .u32 a1, .int .u32 a2, .int .i64 a3, .int .i64 a4, .int .i64 b0, .int .u32 b1, .int .u32 b2, .int .i64 b3, .int .i64 b4, .int .i64 v0, .int .i64 v1, .int .i64 v2, .bool v3, .bool true].toList) 97 am n gA := by
      obtain ⟨s, M, r1, r2⟩ := hA6
      exact ⟨s, M, r1.of_block (gne _ _ _ _ r1), r2⟩
    have hB7 : KMap S (V.1.setCells g2 ((n + 1) * 25) #[.int .i64 a0, .int .u32 a1, .int .u32 a2, .int .i64 a3, .int .i64 a4, .int .i64 b0, .int .u32 b1, .int .u32 b2, .int .i64 b3, .int .i64 b4, .int .i64 a0, .int .u32 a1, .int .u32 a2, .int .i64 a3, .int .i64 a4, .int .i64 b0, .int .u32 b1, .int .u32 b2, .int .i64 b3, .int .i64 b4, .int .i64 v0, .int .i64 v1, .int .i64 v2, .bool v3, .bool true].toList) 97 bm n gB := by
      obtain ⟨s, M, r1, r2⟩ := hB6
      exact ⟨s, M, r1.of_block (gne _ _ _ _ r1), r2⟩
    have hg2 : S g2 ∨ w4.heap.size ≤ g2 := hR6.2 g2 rfl
    have hC7 : Chg (fun b => S b ∨ w4.heap.size ≤ b) w4 (V.1.setCells g2 ((n + 1) * 25) #[.int .i64 a0, .int .u32 a1, .int .u32 a2, .int .i64 a3, .int .i64 a4, .int .i64 b0, .int .u32 b1, .int .u32 b2, .int .i64 b3, .int .i64 b4, .int .i64 a0, .int .u32 a1, .int .u32 a2, .int .i64 a3, .int .i64 a4, .int .i64 b0, .int .u32 b1, .int .u32 b2, .int .i64 b3, .int .i64 b4, .int .i64 v0, .int .i64 v1, .int .i64 v2, .bool v3, .bool true].toList) := Chg.setMany hg2 [.int .i64 a0, .int .u32 a1, .int .u32 a2, .int .i64 a3, .int .i64 a4, .int .i64 b0, .int .u32 b1, .int .u32 b2, .int .i64 b3, .int .i64 b4, .int .i64 a0, .int .u32 a1, .int .u32 a2, .int .i64 a3, .int .i64 a4, .int .i64 b0, .int .u32 b1, .int .u32 b2, .int .i64 b3, .int .i64 b4, .int .i64 v0, .int .i64 v1, .int .i64 v2, .bool v3, .bool true] _ (hC6.trans (Chg.of_below bV))
    clear gne hRl x1 bx0 bx1 bx2 bx3 bx4 by_0 by_1 by_2 by_3 by_4 bz0 bz1 bz2 bz3 bz4 bz5 bz6 bz7 bz8 bz9 bz10 bz11 bz12 bz13 bV hA6 hB6 hC6 hX6 hY6 hZ6 hR6 hH6 hgz hgy hgx hgl hgt him z6
    generalize V.1.setCells g2 ((n + 1) * 25) #[.int .i64 a0, .int .u32 a1, .int .u32 a2, .int .i64 a3, .int .i64 a4, .int .i64 b0, .int .u32 b1, .int .u32 b2, .int .i64 b3, .int .i64 b4, .int .i64 a0, .int .u32 a1, .int .u32 a2, .int .i64 a3, .int .i64 a4, .int .i64 b0, .int .u32 b1, .int .u32 b2, .int .i64 b3, .int .i64 b4, .int .i64 v0, .int .i64 v1, .int .i64 v2, .bool v3, .bool true].toList = w7 at hH7 hX7 hY7 hR7 hA7 hB7 hC7 ⊢
    go_wp2_with fail
    have hn1 : n < 1000 := by omega
    obtain ⟨wA1, sA, rA1, tA1, nA⟩ := (hA7.keep1 (w' := w7.drew) rfl).entry (g' := setK gA (.agg #[.int .i64 a0, .int .u32 a1, .int .u32 a2, .int .i64 a3, .int .i64 a4]) (.int .i64 ((n : Int) + 1))) keyed97 Tryz.underlying164 zero3' _ hka hnA hn1 (.int .i64 ((n : Int) + 1)) (setK_same _ _ _) (fun v e => setK_ne _ _ _ e)
    obtain ⟨wA2, rA2, hA8, tA2⟩ := nA wA1 rfl
    have eB : wA2.heap[bm]? = w7.heap[bm]? := (turned_block tA2 q5.symm).trans (turned_block tA1 q5.symm)
    obtain ⟨wB1, sB, rB1, tB1, nB⟩ := (hB7.keep1 eB).entry (g' := setK gB (.agg #[.int .i64 b0, .int .u32 b1, .int .u32 b2, .int .i64 b3, .int .i64 b4]) (.int .i64 ((n : Int) + 1))) keyed97 Tryz.underlying164 zero3' _ hkb hnB hn1 (.int .i64 ((n : Int) + 1)) (setK_same _ _ _) (fun v e => setK_ne _ _ _ e)
    obtain ⟨wB2, rB2, hB8, tB2⟩ := nB wB1 rfl
    have hA9 := hA8.keep1 ((turned_block tB2 q5).trans (turned_block tB1 q5))
    have rA1 : (Instr.mapEntry 164 (.map (some am)) (.agg #[.int .i64 a0, .int .u32 a1, .int .u32 a2, .int .i64 a3, .int .i64 a4])).run Tryz.prog w7.drew = _ := rA1
    have rB1 : (Instr.mapEntry 164 (.map (some bm)) (.agg #[.int .i64 b0, .int .u32 b1, .int .u32 b2, .int .i64 b3, .int .i64 b4])).run Tryz.prog wA2 = _ := rB1
    have K0 : Keep (fun _ => True) w7 w7.drew := fun _ _ _ _ h => h
    have K1 := K0.trans (Keep.turned tA1)
    have K2 := K1.trans (Keep.turned tA2)
    have K3 := K2.trans (Keep.turned tB1)
    have K4 := K3.trans (Keep.turned tB2)
    have KA : Hid (∀ W, Keep (fun _ => True) w7 W → W.cell? ⟨t, 3, none⟩ = some (.map (some am)) ∧ W.cell? ⟨t, 4, none⟩ = some (.map (some bm)) ∧ W.cell? ⟨bx, 0, none⟩ = some (.int .i64 a0) ∧ W.cell? ⟨bx, 1, none⟩ = some (.int .u32 a1) ∧ W.cell? ⟨bx, 2, none⟩ = some (.int .u32 a2) ∧ W.cell? ⟨bx, 3, none⟩ = some (.int .i64 a3) ∧ W.cell? ⟨bx, 4, none⟩ = some (.int .i64 a4) ∧ W.cell? ⟨by_, 0, none⟩ = some (.int .i64 b0) ∧ W.cell? ⟨by_, 1, none⟩ = some (.int .u32 b1) ∧ W.cell? ⟨by_, 2, none⟩ = some (.int .u32 b2) ∧ W.cell? ⟨by_, 3, none⟩ = some (.int .i64 b3) ∧ W.cell? ⟨by_, 4, none⟩ = some (.int .i64 b4)) := fun W k => by
      have q := k _ _ _ trivial hH7
      have x := k _ _ _ trivial hX7
      have y := k _ _ _ trivial hY7
      exact ⟨(q.cell 3).trans rfl, (q.cell 4).trans rfl, (x.cell 0).trans rfl, (x.cell 1).trans rfl, (x.cell 2).trans rfl, (x.cell 3).trans rfl, (x.cell 4).trans rfl, (y.cell 0).trans rfl, (y.cell 1).trans rfl, (y.cell 2).trans rfl, (y.cell 3).trans rfl, (y.cell 4).trans rfl⟩
    have FIN : Hid (Tw (fun b => S b ∨ w.heap.size ≤ b) wB2 t am bm r (n + 1) (setK gA (.agg #[.int .i64 a0, .int .u32 a1, .int .u32 a2, .int .i64 a3, .int .i64 a4]) (.int .i64 ((n : Int) + 1))) (setK gB (.agg #[.int .i64 b0, .int .u32 b1, .int .u32 b2, .int .i64 b3, .int .i64 b4]) (.int .i64 ((n : Int) + 1))) (l ++ [.int .i64 a0, .int .u32 a1, .int .u32 a2, .int .i64 a3, .int .i64 a4, .int .i64 b0, .int .u32 b1, .int .u32 b2, .int .i64 b3, .int .i64 b4, .int .i64 a0, .int .u32 a1, .int .u32 a2, .int .i64 a3, .int .i64 a4, .int .i64 b0, .int .u32 b1, .int .u32 b2, .int .i64 b3, .int .i64 b4, .int .i64 v0, .int .i64 v1, .int .i64 v2, .bool v3, .bool true]) ∧ Chg S w wB2) := by
      have z4 := LO4.out.2.2.2
      refine ⟨⟨.inl o1, ⟨_, K4 _ _ _ trivial hH7, (hR7.mono (fun b h => h.imp id (fun h => by omega))).keepH (fun c ty ys _ hc => K4 c ty ys trivial hc)⟩, hA9.mono (fun b h => .inl h), hB8.mono (fun b h => .inl h), q5⟩, ?_⟩
      have c1 := ((((hC7.drew.trans (Chg.turned tA1 (.inl hA7.1))).trans (Chg.turned tA2 (.inl hA7.1))).trans (Chg.turned tB1 (.inl hB7.1))).trans (Chg.turned tB2 (.inl hB7.1)))
      exact hC4.trans (c1.mono (fun b hb h => h.elim id (fun h => by omega)))
    have P0 := Lib.hid K0
    have P1 := Lib.hid K1
    have P2 := Lib.hid K2
    have P3 := Lib.hid K3
    have P4 := Lib.hid K4
    clear K0 K1 K2 K3 K4 hA9 hB8 hA8 eB tA1 tA2 tB1 tB2 hA7 hB7 hR7 hC7 nA nB hg2 LO4 hC4
    go_region_held3 (fun W => W.cell? ⟨t, 3, none⟩ = some (.map (some am)) ∧ W.cell? ⟨t, 4, none⟩ = some (.map (some bm)) ∧ W.cell? ⟨bx, 0, none⟩ = some (.int .i64 a0) ∧ W.cell? ⟨bx, 1, none⟩ = some (.int .u32 a1) ∧ W.cell? ⟨bx, 2, none⟩ = some (.int .u32 a2) ∧ W.cell? ⟨bx, 3, none⟩ = some (.int .i64 a3) ∧ W.cell? ⟨bx, 4, none⟩ = some (.int .i64 a4) ∧ W.cell? ⟨by_, 0, none⟩ = some (.int .i64 b0) ∧ W.cell? ⟨by_, 1, none⟩ = some (.int .u32 b1) ∧ W.cell? ⟨by_, 2, none⟩ = some (.int .u32 b2) ∧ W.cell? ⟨by_, 3, none⟩ = some (.int .i64 b3) ∧ W.cell? ⟨by_, 4, none⟩ = some (.int .i64 b4)) (first | with_reducible exact KA.out _ P0.out | with_reducible exact KA.out _ P1.out | with_reducible exact KA.out _ P2.out | with_reducible exact KA.out _ P3.out | with_reducible exact KA.out _ P4.out) (fail)
    all_goals
      clear KA P0 P1 P2 P3 P4 rA1 rA2 rB1 rB2 hH7 hX7 hY7
      go_wp2_with fail
      go_ret2
      exact ⟨rfl, FIN.out⟩
theorem twput_c (S : Nat → Prop) (t am bm r n : Nat) (gA gB : Value → Option Value) (l : List Value) (a0 a1 a2 a3 a4 b0 b1 b2 b3 b4 v0 v1 v2 : Int) (v3 : Bool) (hka : (keyOf Tryz.prog 97 (.agg #[.int .i64 a0, .int .u32 a1, .int .u32 a2, .int .i64 a3, .int .i64 a4])).isSome = true) (hkb : (keyOf Tryz.prog 97 (.agg #[.int .i64 b0, .int .u32 b1, .int .u32 b2, .int .i64 b3, .int .i64 b4])).isSome = true) (hnA : gA (.agg #[.int .i64 a0, .int .u32 a1, .int .u32 a2, .int .i64 a3, .int .i64 a4]) = none) (hnB : gB (.agg #[.int .i64 b0, .int .u32 b1, .int .u32 b2, .int .i64 b3, .int .i64 b4]) = none) (hnr : n < r) (hr : r ≤ 100) (w : World) (h : Tw S w t am bm r n gA gB l) :
    Calls Tryz.prog 140 #[.pointer (some ⟨t, 0, none⟩), .agg #[.int .i64 a0, .int .u32 a1, .int .u32 a2, .int .i64 a3, .int .i64 a4], .agg #[.int .i64 b0, .int .u32 b1, .int .u32 b2, .int .i64 b3, .int .i64 b4], .agg #[.int .i64 a0, .int .u32 a1, .int .u32 a2, .int .i64 a3, .int .i64 a4, .int .i64 b0, .int .u32 b1, .int .u32 b2, .int .i64 b3, .int .i64 b4, .int .i64 v0, .int .i64 v1, .int .i64 v2, .bool v3]] w fun e w' => e = .returned (.tuple #[.int .i64 ((n : Int) + 1), .int .i64 0]) ∧ Tw (fun b => S b ∨ w.heap.size ≤ b) w' t am bm r (n + 1) (setK gA (.agg #[.int .i64 a0, .int .u32 a1, .int .u32 a2, .int .i64 a3, .int .i64 a4]) (.int .i64 ((n : Int) + 1))) (setK gB (.agg #[.int .i64 b0, .int .u32 b1, .int .u32 b2, .int .i64 b3, .int .i64 b4]) (.int .i64 ((n : Int) + 1))) (l ++ [.int .i64 a0, .int .u32 a1, .int .u32 a2, .int .i64 a3, .int .i64 a4, .int .i64 b0, .int .u32 b1, .int .u32 b2, .int .i64 b3, .int .i64 b4, .int .i64 a0, .int .u32 a1, .int .u32 a2, .int .i64 a3, .int .i64 a4, .int .i64 b0, .int .u32 b1, .int .u32 b2, .int .i64 b3, .int .i64 b4, .int .i64 v0, .int .i64 v1, .int .i64 v2, .bool v3, .bool true]) ∧ Chg S w w' :=
  (twput_t _ t am bm r n gA gB l a0 a1 a2 a3 a4 b0 b1 b2 b3 b4 v0 v1 v2 v3 hka hkb hnA hnB hnr hr w (fun b h => h.2) h.cut).mono fun e w' ⟨he, hp, hc⟩ => ⟨he, hp.mono (fun b h => h.imp And.left id), hc.mono (fun b _ h => h.1)⟩
set_option maxRecDepth 100000 in
set_option maxHeartbeats 3200000 in
theorem twget_c (S : Nat → Prop) (t am bm r n : Nat) (gA gB : Value → Option Value) (l0 : List Value) (a0 a1 a2 a3 a4 b0 b1 b2 b3 b4 v0 v1 v2 : Int) (v3 : Bool) (hn : n < 1000) (w : World) (h : Tw S w t am bm r (n + 1) gA gB (l0 ++ [.int .i64 a0, .int .u32 a1, .int .u32 a2, .int .i64 a3, .int .i64 a4, .int .i64 b0, .int .u32 b1, .int .u32 b2, .int .i64 b3, .int .i64 b4, .int .i64 a0, .int .u32 a1, .int .u32 a2, .int .i64 a3, .int .i64 a4, .int .i64 b0, .int .u32 b1, .int .u32 b2, .int .i64 b3, .int .i64 b4, .int .i64 v0, .int .i64 v1, .int .i64 v2, .bool v3, .bool true])) :
    Calls Tryz.prog 129 #[.pointer (some ⟨t, 0, none⟩), .int .i64 ((n : Int) + 1)] w fun e w' => e = .returned (.tuple #[.agg #[.int .i64 a0, .int .u32 a1, .int .u32 a2, .int .i64 a3, .int .i64 a4, .int .i64 b0, .int .u32 b1, .int .u32 b2, .int .i64 b3, .int .i64 b4, .int .i64 v0, .int .i64 v1, .int .i64 v2, .bool v3], .bool true]) ∧ Below w.heap.size w w' := by
  obtain ⟨o1, ⟨sv, q1, q2⟩, q3, q4, q5⟩ := h
  obtain ⟨g, cap, rfl⟩ : ∃ g cap, sv = .slice (some ⟨g, 0, none⟩) (n + 1 + 1) cap := by
    rcases q2.1.2 with ⟨rfl, e⟩ | ⟨g, cap, cur, rfl, _⟩
    · omega
    · exact ⟨g, cap, rfl⟩
  have hl : l0.length = (n + 1) * 25 := by have := q2.len; simp at this; omega
  have AT : Calls Tryz.prog 172 #[.pointer (some ⟨t, 0, none⟩), .int .i64 ((n : Int) + 1)] (w.alloc (.cells #[.int .i64 0, .int .u32 0, .int .u32 0, .int .i64 0, .int .i64 0, .int .i64 0, .int .u32 0, .int .u32 0, .int .i64 0, .int .i64 0, .int .i64 0, .int .i64 0, .int .i64 0, .bool false] 99)) fun e w' => e = .returned (.pointer (some ⟨g, (n + 1) * 25, none⟩)) ∧ w' = w.alloc (.cells #[.int .i64 0, .int .u32 0, .int .u32 0, .int .i64 0, .int .i64 0, .int .i64 0, .int .u32 0, .int .u32 0, .int .i64 0, .int .i64 0, .int .i64 0, .int .i64 0, .int .i64 0, .bool false] 99) := by
    obtain ⟨w1, hw⟩ : ∃ W, W = w.alloc (.cells #[.int .i64 0, .int .u32 0, .int .u32 0, .int .i64 0, .int .i64 0, .int .i64 0, .int .u32 0, .int .u32 0, .int .i64 0, .int .i64 0, .int .i64 0, .int .i64 0, .int .i64 0, .bool false] 99) := ⟨_, rfl⟩
    have q1 := q1.alloc (.cells #[.int .i64 0, .int .u32 0, .int .u32 0, .int .i64 0, .int .i64 0, .int .i64 0, .int .u32 0, .int .u32 0, .int .i64 0, .int .i64 0, .int .i64 0, .int .i64 0, .int .i64 0, .bool false] 99)
    rw [← hw] at q1
    have q2 := q2.keep (KeepM.alloc S w (.cells #[.int .i64 0, .int .u32 0, .int .u32 0, .int .i64 0, .int .i64 0, .int .i64 0, .int .u32 0, .int .u32 0, .int .i64 0, .int .i64 0, .int .i64 0, .int .i64 0, .int .i64 0, .bool false] 99))
    rw [← hw] at q2
    rw [← hw]
    clear hw
    have c1 := (q1.cell 1).trans rfl
    have h3 : ((n : Int) + 1) < (n : Int) + 1 + 1 := by omega
    have h4 : ¬ ((n : Int) + 1) < 1 := by omega
    have h5 : ¬ (n : Int) + 1 + 1 ≤ ((n : Int) + 1) := by omega
    have cd : w1.cell? ⟨g, (n + 1) * 25 + 24, none⟩ = some (.bool true) := by
      rw [q2.cellAt (by omega), List.getElem?_append_right (by omega), show (n + 1) * 25 + 24 - l0.length = 24 by omega]; rfl
    clear q1 q2
    go_enter Tryz.func172, Tryz.ntmps172
    go_wp2_with fail
    go_ret
    exact ⟨rfl, rfl⟩
  have e0 : w.cell? ⟨g, (n + 1) * 25 + 10, none⟩ = some (.int .i64 a0) := by
    rw [q2.cellAt (by omega), List.getElem?_append_right (by omega), show (n + 1) * 25 + 10 - l0.length = 10 by omega]; rfl
  have e1 : w.cell? ⟨g, (n + 1) * 25 + 11, none⟩ = some (.int .u32 a1) := by
    rw [q2.cellAt (by omega), List.getElem?_append_right (by omega), show (n + 1) * 25 + 11 - l0.length = 11 by omega]; rfl
  have e2 : w.cell? ⟨g, (n + 1) * 25 + 12, none⟩ = some (.int .u32 a2) := by
    rw [q2.cellAt (by omega), List.getElem?_append_right (by omega), show (n + 1) * 25 + 12 - l0.length = 12 by omega]; rfl
  have e3 : w.cell? ⟨g, (n + 1) * 25 + 13, none⟩ = some (.int .i64 a3) := by
    rw [q2.cellAt (by omega), List.getElem?_append_right (by omega), show (n + 1) * 25 + 13 - l0.length = 13 by omega]; rfl
  have e4 : w.cell? ⟨g, (n + 1) * 25 + 14, none⟩ = some (.int .i64 a4) := by
    rw [q2.cellAt (by omega), List.getElem?_append_right (by omega), show (n + 1) * 25 + 14 - l0.length = 14 by omega]; rfl
  have e5 : w.cell? ⟨g, (n + 1) * 25 + 15, none⟩ = some (.int .i64 b0) := by
    rw [q2.cellAt (by omega), List.getElem?_append_right (by omega), show (n + 1) * 25 + 15 - l0.length = 15 by omega]; rfl
  have e6 : w.cell? ⟨g, (n + 1) * 25 + 16, none⟩ = some (.int .u32 b1) := by
    rw [q2.cellAt (by omega), List.getElem?_append_right (by omega), show (n + 1) * 25 + 16 - l0.length = 16 by omega]; rfl
  have e7 : w.cell? ⟨g, (n + 1) * 25 + 17, none⟩ = some (.int .u32 b2) := by
    rw [q2.cellAt (by omega), List.getElem?_append_right (by omega), show (n + 1) * 25 + 17 - l0.length = 17 by omega]; rfl
  have e8 : w.cell? ⟨g, (n + 1) * 25 + 18, none⟩ = some (.int .i64 b3) := by
    rw [q2.cellAt (by omega), List.getElem?_append_right (by omega), show (n + 1) * 25 + 18 - l0.length = 18 by omega]; rfl
  have e9 : w.cell? ⟨g, (n + 1) * 25 + 19, none⟩ = some (.int .i64 b4) := by
    rw [q2.cellAt (by omega), List.getElem?_append_right (by omega), show (n + 1) * 25 + 19 - l0.length = 19 by omega]; rfl
  have e10 : w.cell? ⟨g, (n + 1) * 25 + 20, none⟩ = some (.int .i64 v0) := by
    rw [q2.cellAt (by omega), List.getElem?_append_right (by omega), show (n + 1) * 25 + 20 - l0.length = 20 by omega]; rfl
  have e11 : w.cell? ⟨g, (n + 1) * 25 + 21, none⟩ = some (.int .i64 v1) := by
    rw [q2.cellAt (by omega), List.getElem?_append_right (by omega), show (n + 1) * 25 + 21 - l0.length = 21 by omega]; rfl
  have e12 : w.cell? ⟨g, (n + 1) * 25 + 22, none⟩ = some (.int .i64 v2) := by
    rw [q2.cellAt (by omega), List.getElem?_append_right (by omega), show (n + 1) * 25 + 22 - l0.length = 22 by omega]; rfl
  have e13 : w.cell? ⟨g, (n + 1) * 25 + 23, none⟩ = some (.bool v3) := by
    rw [q2.cellAt (by omega), List.getElem?_append_right (by omega), show (n + 1) * 25 + 23 - l0.length = 23 by omega]; rfl
  have hgl : g < w.heap.size := by
    rcases q2.1.2 with ⟨q, _⟩ | ⟨g', cap', cur, q, _, q1, _⟩
    · cases q
    · cases q; exact (Array.getElem?_eq_some_iff.1 q1).1
  have AT := Lib.hid AT
  clear q1 q2 q3 q4 q5 o1
  go_enter Tryz.func129, Tryz.ntmps129
  go_wp2_with fail
  refine AT.out.mono ?_
  rintro e w1 ⟨rfl, rfl⟩
  go_wp2_with fail
  refine bodyPost_ret (v := .tuple #[.agg #[.int .i64 a0, .int .u32 a1, .int .u32 a2, .int .i64 a3, .int .i64 a4, .int .i64 b0, .int .u32 b1, .int .u32 b2, .int .i64 b3, .int .i64 b4, .int .i64 v0, .int .i64 v1, .int .i64 v2, .bool v3], .bool true]) ?_ rfl ⟨rfl, (Below.refl _ _).alloc (Nat.le_refl _) _⟩
  simp [results, Tryz.f129, go_sem]
end Go.Proofs.YtngdebpaheejlaaGreatDoor
