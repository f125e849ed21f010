/- A pool (chapter 13): Add. -/
import Derived.Test.YtngdebpaheejlaaGreatDoorZh
import Derived.Test.YtngdebpaheejlaaGreatDoorZc
import Derived.Deep.RegionHeld3
import Derived.Test.YtngdebpaheejlaaGreatDoorZa
namespace Go.Proofs.YtngdebpaheejlaaGreatDoor
open Go.RowKit Go.Shelf
set_option linter.unusedSimpArgs false
set_option linter.unusedVariables false
attribute [local go_sem] Oper.semAt_some
def mem0 : Value := .agg #[.int .i64 0, .int .u32 0, .int .i64 0, .int .i64 0, .int .i64 0]
theorem zero128' (w : World) : (zeroValue 128).run Tryz.prog w = .ok (.agg #[.int .i64 0, .int .u32 0, .int .i64 0, .int .i64 0, .int .i64 0]) w := by kernel_rfl
theorem Anc.cut {S : Nat → Prop} {w : World} {a k : Nat} (h : Anc S w a k) : Anc (fun b => S b ∧ b < w.heap.size) w a k := by
  obtain ⟨L, sv, s1, s2, h1, h2, h3⟩ := h
  refine ⟨L, sv, ⟨s1, h1.lt⟩, ⟨s2, h2.lt⟩, h1, h2, h3.1, fun b e => ⟨h3.2 b e, ?_⟩⟩
  obtain ⟨⟨e1, e2⟩, h3⟩ := h3
  rcases e2 with ⟨rfl, _⟩ | ⟨g, cap, cur, rfl, _, hg, _⟩
  · cases e
  · cases e
    exact Has.lt (t := 3) hg
theorem Anc.off {S : Nat → Prop} {w : World} {a k : Nat} (h : Anc S w a k) (c : Nat) (hc : ∀ t xs, Has w c t xs → t ≠ 254 ∧ t ≠ 256 ∧ t ≠ 3) : Anc (fun b => S b ∧ b ≠ c) w a k := by
  obtain ⟨L, sv, s1, s2, h1, h2, h3⟩ := h
  refine ⟨L, sv, ⟨s1, fun e => ?_⟩, ⟨s2, fun e => ?_⟩, h1, h2, h3.1, fun b e => ⟨h3.2 b e, fun e' => ?_⟩⟩
  · subst e; exact (hc _ _ h1).1 rfl
  · subst e; exact (hc _ _ h2).2.1 rfl
  · subst e'
    obtain ⟨⟨e1, e2⟩, h3⟩ := h3
    rcases e2 with ⟨rfl, _⟩ | ⟨g, cap, cur, rfl, _, hg, _⟩
    · cases e
    · cases e
      exact (hc 3 _ hg).2.2 rfl
theorem PoolS.anc' {S : Nat → Prop} {w : World} {pb t ab am om : Nat} {key : ByteArray} (h : PoolS S w pb t key ab am om) : Anc (fun b => ((S b ∧ b ≠ pb) ∧ b ≠ am) ∧ b ≠ om) w ab (poolK t) := by
  refine ((h.anc.off pb fun t' xs hb => ?_).off am fun t' xs hb => (h.all.ne hb rfl).elim).off om fun t' xs hb => (h.owner.ne hb rfl).elim
  have e := h.head
  unfold Has at e hb
  rw [e] at hb
  simp at hb
  obtain ⟨_, rfl⟩ := hb
  decide
theorem MapAt.keep1 {S : Nat → Prop} {w w' : World} {b N : Nat} {f : Nat → Option Value} (h : MapAt S w b N f) (e : w'.heap[b]? = w.heap[b]?) : MapAt S w' b N f := by
  obtain ⟨s, n, M, h1, h2, h3⟩ := h
  exact ⟨s, n, M, h1, h2.of_block e, h3⟩
/-- A new entry laid in two steps. -/
theorem MapAt.entry {S : Nat → Prop} {w : World} {b N : Nat} {f : Nat → Option Value} (h : MapAt S w b N f) {T E : TypeId} (ht : Tryz.prog.underlying T = some (.map 3 E)) {z : Value} (hz : ∀ w, (zeroValue E).run Tryz.prog w = .ok z w) (x : Nat) (hx : x < 3) (hno : f x = none) (val : Value) (f' : Nat → Option Value) (hf : ∀ y, y < 3 → f' y = if y = x then some val else f y) (hN : N < 1000) :
    ∃ w1 st, (Instr.mapEntry T (.map (some b)) (.int .i64 x)).run Tryz.prog w = .ok (.tuple #[z, .int .i64 st]) w1 ∧ w.mapTurned w1 b ∧
      ∀ W1 : World, W1.heap[b]? = w1.heap[b]? → ∃ W2, (Instr.entryStore T (.map (some b)) (.int .i64 st) val).run Tryz.prog W1 = .ok () W2 ∧ MapAt S W2 b (N + 1) f' ∧ W1.mapTurned W2 b := by
  obtain ⟨s, n, M, h1, h2, h3⟩ := h
  obtain ⟨w1, st, r1, r2, r3⟩ := h2.entry keyed3 ht hz (by unfold maxLen; omega) (kl := .int .i64 x) trivial (key3 x (by omega)) ((h3 x hx).trans hno) val
  refine ⟨w1, st, r1, r2, fun W1 e => ?_⟩
  obtain ⟨W2, q1, q2, q3⟩ := r3 W1 e
  refine ⟨W2, q1, ⟨s, _, _, by omega, q2, fun y hy => ?_⟩, q3⟩
  rw [hf y hy]
  by_cases e : y = x
  · subst e; rw [putM_same, if_pos rfl]
  · rw [putM_other _ _ (by simp; omega), if_neg e, h3 y hy]
theorem Keep.turned {S : Nat → Prop} {w w' : World} {b : Nat} (h : w.mapTurned w' b) : Keep S w w' := fun c t xs _ hc => by
  refine (turned_block h fun e => ?_).trans hc
  subst e
  obtain ⟨es, clock, es', clock', hb, _⟩ := h
  unfold Has at hc
  rw [hb] at hc
  cases hc
theorem Keep.trans {S : Nat → Prop} {a b c : World} (h : Keep S a b) (k : Keep S b c) : Keep S a c := fun x t xs hs hx => k x t xs hs (h x t xs hs hx)
theorem Chg.grownRow {S : Nat → Prop} {w W W' : World} {row : Option Nat} {k : Nat} (h : Chg S w W) (hk : w.heap.size ≤ k) (hg : W.grownBy W' row) (hr : ∀ r, row = some r → k ≤ r ∧ ∃ o : Obj, W.heap[r]? = some o ∧ o.isCells = false) : Chg S w W' :=
  ⟨hg.os.trans h.os, hg.tape.trans h.tape, hg.output.trans h.output, Nat.le_trans h.size hg.size, fun b hb hn => (hg.block b (Nat.lt_of_lt_of_le hb h.size) (fun e => by have := (hr b e.symm).1; omega)).trans (h.block b hb hn)⟩
theorem Chg.putObj {S : Nat → Prop} {w W : World} (h : Chg S w W) (D : Nat) (o : Obj) (hD : w.heap.size ≤ D) : Chg S w (W.putObj D o) :=
  ⟨h.os, h.tape, h.output, by simpa using h.size, fun b hb hn => (World.putObj_heap_other (by omega)).trans (h.block b hb hn)⟩
theorem three {p : Nat → Prop} (h0 : p 0) (h1 : p 1) (h2 : p 2) : ∀ y, y < 3 → p y := fun y hy => by
  obtain rfl | rfl | rfl : y = 0 ∨ y = 1 ∨ y = 2 := by omega
  · exact h0
  · exact h1
  · exact h2
theorem MapAt.cut {S : Nat → Prop} {w : World} {b N : Nat} {f : Nat → Option Value} (h : MapAt S w b N f) : MapAt (fun b => S b ∧ b < w.heap.size) w b N f := ⟨⟨h.1, h.lt⟩, h.2⟩
theorem PoolS.cut {S : Nat → Prop} {w : World} {pb t ab am om : Nat} {key : ByteArray} (h : PoolS S w pb t key ab am om) : PoolS (fun b => S b ∧ b < w.heap.size) w pb t key ab am om :=
  ⟨⟨h.own, h.head.lt⟩, h.head, h.anc.cut, h.all.cut, h.owner.cut, h.ne⟩
theorem MapAt.look128 {S : Nat → Prop} {w : World} {b N : Nat} {f : Nat → Option Value} (h : MapAt S w b N f) (x : Nat) (hx : x < 3) (v : Value) (s : Bool) (hv : (f x).getD mem0 = v) (hs : (f x).isSome = s) :
    (Instr.lookup 131 (.map (some b)) (.int .i64 x) true).run Tryz.prog w = .ok (.tuple #[v, .bool s]) w := by
  obtain ⟨_, n, M, hn, g, hM⟩ := h
  have := g.look_ok keyed3 Tryz.underlying131 zero128' (key := .int .i64 x) (kl := .int .i64 x) (key3 x (by omega))
  rw [hM x hx, show (Value.agg #[.int .i64 0, .int .u32 0, .int .i64 0, .int .i64 0, .int .i64 0]) = mem0 from rfl, hv, hs] at this
  exact this
theorem MapAt.look132 {S : Nat → Prop} {w : World} {b N : Nat} {f : Nat → Option Value} (h : MapAt S w b N f) (x : Nat) (hx : x < 3) (v : Value) (hv : (f x).getD (.int .i64 0) = v) :
    (Instr.lookup 132 (.map (some b)) (.int .i64 x) false).run Tryz.prog w = .ok v w := by
  obtain ⟨_, n, M, hn, g, hM⟩ := h
  have := g.look keyed3 Tryz.underlying132 zero3w (key := .int .i64 x) (kl := .int .i64 x) (key3 x (by omega))
  rw [hM x hx, hv] at this
  exact this
set_option maxRecDepth 100000 in
set_option maxHeartbeats 3200000 in
theorem padd1_t (S : Nat → Prop) (pb ab am om : Nat) (key : ByteArray) (w : World) (hS : ∀ b, S b → b < w.heap.size) (h : PoolS S w pb 0 key ab am om) :
    Calls Tryz.prog 37 #[.pointer (some ⟨pb, 0, none⟩), .agg #[.int .i64 1, .int .u32 51, .int .i64 8080]] w fun e w' => e = .returned (.int .i64 0) ∧ PoolS S w' pb 1 key ab am om ∧ Chg S w w' := by
  have hP := Lib.hid h
  have pl := h.head.lt
  have HLK : Hid (∀ W, KeepM S w W → (Instr.lookup 131 (.map (some am)) (.int .i64 1) true).run Tryz.prog W = .ok (.tuple #[.agg #[.int .i64 0, .int .u32 0, .int .i64 0, .int .i64 0, .int .i64 0], .bool false]) W) := fun W hW => (h.all.keep hW).look128 1 (by decide) _ _ rfl rfl
  clear h
  refine (callsIn_wide (n := 5)).1 ?_
  refine callsIn_of_wp_marks Tryz.func37 rfl trivial ?_ rfl
  simp only [Tryz.ntmps37, List.size_toArray, List.length_cons, List.length_nil, Nat.reduceAdd, Nat.reduceSub, Array.replicate_succ, Array.replicate_zero, List.push_toArray, List.append_toArray, List.nil_append, List.cons_append]
  refine wpIn_wide.2 ?_
  go_wp2_with fail
  have hP1 := hP.out.keep (KeepM.alloc S w (.cells #[.int .i64 1, .int .u32 51, .int .i64 8080] 68))
  have hX1 := Has.new w #[.int .i64 1, .int .u32 51, .int .i64 8080] 68
  have hC1 := (Chg.refl S w).alloc (.cells #[.int .i64 1, .int .u32 51, .int .i64 8080] 68)
  have z1 : (w.alloc (.cells #[.int .i64 1, .int .u32 51, .int .i64 8080] 68)).heap.size = w.heap.size + 1 := by simp
  obtain ⟨w1, hw⟩ : ∃ W, W = w.alloc (.cells #[.int .i64 1, .int .u32 51, .int .i64 8080] 68) := ⟨_, rfl⟩
  rw [← hw] at hP1 hX1 hC1 z1 ⊢
  have HC3 : Hid (∀ W, Below w1.heap.size w1 W → W.cell? ⟨pb, 3, none⟩ = some (.map (some am)) ∧ W.cell? ⟨w.heap.size, 0, none⟩ = some (.int .i64 1) ∧ (Instr.lookup 131 (.map (some am)) (.int .i64 1) true).run Tryz.prog W = .ok (.tuple #[.agg #[.int .i64 0, .int .u32 0, .int .i64 0, .int .i64 0, .int .i64 0], .bool false]) W) :=
    fun W hW => ⟨((hP1.head.below hW).cell 3).trans rfl, ((hX1.below hW).cell 0).trans rfl, (hP1.all.keep (KeepM.below hW)).look128 1 (by decide) _ _ rfl rfl⟩
  obtain ⟨bx, hbx⟩ : ∃ b, b = w.heap.size := ⟨_, rfl⟩
  rw [← hbx] at hX1 HC3 z1 ⊢
  have HBX := Lib.hid hbx
  clear hw hP hbx
  go_region_held3 (fun W => W.cell? ⟨pb, 3, none⟩ = some (.map (some am)) ∧ W.cell? ⟨bx, 0, none⟩ = some (.int .i64 1) ∧ (Instr.lookup 131 (.map (some am)) (.int .i64 1) true).run Tryz.prog W = .ok (.tuple #[.agg #[.int .i64 0, .int .u32 0, .int .i64 0, .int .i64 0, .int .i64 0], .bool false]) W)
    ((refine HC3.out _ ?_; repeat (first | (with_reducible exact Below.refl _ _) | (with_reducible refine Below.drew ?_) | (with_reducible refine Below.alloc ?_ ?_ _) | (with_reducible refine Below.setCell ?_ ?_ _) | (simp; done) | (simp; omega)))) (fail)
  all_goals
    have hP2 := (hP1.keep (KeepM.alloc S w1 (.cells #[.int .i64 0, .int .u32 0, .int .i64 0, .int .i64 0, .int .i64 0] 128)))
    have hX2 := (hX1.alloc (.cells #[.int .i64 0, .int .u32 0, .int .i64 0, .int .i64 0, .int .i64 0] 128))
    have hC2 := (hC1.alloc (.cells #[.int .i64 0, .int .u32 0, .int .i64 0, .int .i64 0, .int .i64 0] 128)).drew
    have z2 : (w1.alloc (.cells #[.int .i64 0, .int .u32 0, .int .i64 0, .int .i64 0, .int .i64 0] 128)).drew.heap.size = bx + 2 := by show (w1.alloc _).heap.size = _; simp; omega
    have hP2' : PoolS S (w1.alloc (.cells #[.int .i64 0, .int .u32 0, .int .i64 0, .int .i64 0, .int .i64 0] 128)).drew pb 0 key ab am om := hP2.keep (fun _ _ _ => rfl)
    have hX2' := hX2.drew
    obtain ⟨w2, hw⟩ : ∃ W, W = (w1.alloc (.cells #[.int .i64 0, .int .u32 0, .int .i64 0, .int .i64 0, .int .i64 0] 128)).drew := ⟨_, rfl⟩
    rw [← hw] at hP2' hX2' hC2 z2 ⊢
    clear hw hP1 hX1 hC1 z1 HC3 hP2 hX2 HLK
    have c1 := hP2'.head.cell 1
    have c5 := hP2'.head.cell 5
    have c2 := hP2'.head.cell 2
    have x0 := hX2'.cell 0
    have x1 := hX2'.cell 1
    have x2 := hX2'.cell 2
    simp [poolN] at c1 c2 c5 x0 x1 x2
    go_wp2_with fail
    go_quiet (fail)
    have hP2q : PoolS S (w2.drewN nq) pb 0 key ab am om := hP2'.keep (fun _ _ _ => rfl)
    have hX2q : Has (w2.drewN nq) bx 68 #[.int .i64 1, .int .u32 51, .int .i64 8080] := hX2'
    have hC2q : Chg S w (w2.drewN nq) := hC2.trans (Chg.of_below (Below.drN (Below.refl _ _) nq))
    have z2q : (w2.drewN nq).heap.size = bx + 2 := z2
    clear hP2' hX2' hC2 z2 c1 c2 c5 x0 x1 x2
    generalize w2.drewN nq = w2q at hP2q hX2q hC2q z2q ⊢
    have c2 := hP2q.head.cell 2
    have c5 := hP2q.head.cell 5
    have x0 := hX2q.cell 0
    have x1 := hX2q.cell 1
    have x2 := hX2q.cell 2
    simp [poolN] at c2 c5 x0 x1 x2
    have pl2 := hP2q.head.lt
    have xl2 := hX2q.lt
    have Z2 := Lib.hid z2q
    clear z2q
    go_wp2_with fail
    have z2q := Z2.out
    have hP3 : PoolS S (w2q.alloc (.cells #[.int .i64 1, .int .u32 51, .int .i64 8080, .int .i64 1, .int .i64 0] 128)) pb 0 key ab am om := hP2q.keep (KeepM.alloc _ _ _)
    have hX3 : Has (w2q.alloc (.cells #[.int .i64 1, .int .u32 51, .int .i64 8080, .int .i64 1, .int .i64 0] 128)) bx 68 _ := hX2q.alloc _
    have hM3 : Has (w2q.alloc (.cells #[.int .i64 1, .int .u32 51, .int .i64 8080, .int .i64 1, .int .i64 0] 128)) (bx + 2) 128 #[.int .i64 1, .int .u32 51, .int .i64 8080, .int .i64 1, .int .i64 0] := has_made z2q.symm
    have hC3 : Chg S w (w2q.alloc (.cells #[.int .i64 1, .int .u32 51, .int .i64 8080, .int .i64 1, .int .i64 0] 128)) := hC2q.alloc _
    have z3 : (w2q.alloc (.cells #[.int .i64 1, .int .u32 51, .int .i64 8080, .int .i64 1, .int .i64 0] 128)).heap.size = bx + 3 := by simp; omega
    try rw [z2q]
    obtain ⟨w3, hw⟩ : ∃ W, W = w2q.alloc (.cells #[.int .i64 1, .int .u32 51, .int .i64 8080, .int .i64 1, .int .i64 0] 128) := ⟨_, rfl⟩
    rw [← hw] at hP3 hX3 hM3 hC3 z3 ⊢
    clear hw hP2q hX2q hC2q z2q Z2 c2 c5 x0 x1 x2 pl2 xl2
    have hNS : ∀ b, bx ≤ b → ¬ S b := fun b hb hs => by have := hS b hs; have := HBX.out; omega
    refine (working_c ab _).mono ?_
    rintro e w4 ⟨rfl, rfl⟩
    obtain ⟨L, sv, s1, s2, hAa, hAL, hAR⟩ := hP3.anc
    have hMz := hM3.alloc (.cells #[.pointer (some ⟨ab, 0, none⟩)] 130)
    have hXz := hX3.alloc (.cells #[.pointer (some ⟨ab, 0, none⟩)] 130)
    have hPz := hP3.keep (KeepM.alloc S w3 (.cells #[.pointer (some ⟨ab, 0, none⟩)] 130))
    have hCz := hC3.alloc (.cells #[.pointer (some ⟨ab, 0, none⟩)] 130)
    have hBz : Has (w3.alloc (.cells #[.pointer (some ⟨ab, 0, none⟩)] 130)) (bx + 3) 130 #[.pointer (some ⟨ab, 0, none⟩)] := has_made z3.symm
    have hAz := hAa.alloc (.cells #[.pointer (some ⟨ab, 0, none⟩)] 130)
    have hLz := hAL.alloc (.cells #[.pointer (some ⟨ab, 0, none⟩)] 130)
    have zz : (w3.alloc (.cells #[.pointer (some ⟨ab, 0, none⟩)] 130)).heap.size = bx + 4 := by simp; omega
    have la := hAa.lt
    have lL := hAL.lt
    have n1 : ab ≠ bx + 2 := fun e => hNS _ (by omega) (e ▸ s1)
    have n2 : L ≠ bx + 2 := fun e => hNS _ (by omega) (e ▸ s2)
    rw [z3] at la lL
    go_wp2_with fail
    have SQ := working_seq (w := w3.alloc (.cells #[.pointer (some ⟨ab, 0, none⟩)] 130)) (fun b => b < bx + 4 ∧ b ≠ bx + 2) (bx + 3) ab L sv hBz hAz hLz ⟨by omega, by omega⟩ ⟨by omega, n1⟩ ⟨by omega, n2⟩
    try rw [z3]
    obtain ⟨wz, hw⟩ : ∃ W, W = w3.alloc (.cells #[.pointer (some ⟨ab, 0, none⟩)] 130) := ⟨_, rfl⟩
    rw [← hw] at hMz hXz hPz hCz zz SQ ⊢
    clear hw hM3 hX3 hP3 hC3 z3 hBz hAz hLz hAa hAL hAR
    refine (wpIn_wide (n := 5)).1 ?_
    refine wp_rangeM (gf := 106) (lb := #[.pointer (some ⟨bx + 3, 0, none⟩)]) rfl (enters_of Tryz.func106 (by kernel_rfl) rfl) SQ (Below.refl _ _) (fun b h => by omega) (fun _ => rfl)
      (fun pre X => pre = [] ∧ Below wz.heap.size wz X) (fun c pre X => c = .exit 1 ∧ Chg (fun b => b = bx + 2) wz X ∧ Has X (bx + 2) 128 #[.int .i64 1, .int .u32 51, .int .i64 8080, .int .i64 1, .int .i64 0])
      (fun s X Y row hs hg hr => ⟨hs.1, ownFrom_below (β := List Int) (Nat.le_refl _) (Nat.le_refl _) s X Y row hs.2 hg hr⟩)
      (fun pre X => Chg (fun b => b = bx + 2) wz X ∧ Has X (bx + 2) 128 #[.int .i64 1, .int .u32 51, .int .i64 8080, .int .i64 1, .int .i64 0])
      (fun s X Y row hs hg hr => ⟨hs.1.grownRow (Nat.le_refl _) hg hr, at_less hs.2 hg hr (by omega)⟩)
      (fun c s X Y row hs hg hr => ⟨hs.1, hs.2.1.grownRow (Nat.le_refl _) hg hr, at_less hs.2.2 hg hr (by omega)⟩)
      ⟨rfl, Below.refl _ _⟩ ?_ ?_ ?_
    · rintro y m pre x X hpre ⟨rfl, hX⟩
      obtain rfl : x = 0 := by
        obtain ⟨r, hr⟩ := hpre
        simp at hr
        exact hr.1
      have hMx := hMz.below hX
      have m4 := hMx.cell 4
      have fm4 := hMx.free 4
      simp at m4
      have hB := hX
      clear hX
      gi_wp2
      refine ⟨(KB.refl _ _ X).set (by omega) hMx _ _, ⟨(Chg.of_below hB : Chg (fun b => b = bx + 2) wz X).set rfl _ _, ?_⟩, ?_⟩
      · have := hMx.set 4 (.int .i64 0)
        simpa using this
      · intro W' hW'
        gi_wp2
        exact ⟨KB.refl _ _ _, rfl, hW'⟩
    · rintro D X hD ⟨h0, _⟩ hK
      cases h0
    rintro D c pre X hD hp ⟨rfl, hCx, hMx⟩ hK
    refine wpIn_wide.2 ?_
    go_wp2_with fail
    have hPx := hPz.keep (KeepM.chg hCx (fun b hb e => hNS b (by omega) hb))
    have hM5 := hMx
    have hX5 := hXz.chg hCx (by omega)
    have hH5 := hPx.head
    have hA5 := hPx.anc'
    have ha5 := hPx.all
    have ho5 := hPx.owner
    have hne := hPx.ne
    have so := hPx.own
    have hC6 : Chg S w X := ⟨hCx.os.trans hCz.os, hCx.tape.trans hCz.tape, hCx.output.trans hCz.output, Nat.le_trans hCz.size hCx.size, fun b hb hn => (hCx.block b (Nat.lt_of_lt_of_le hb hCz.size) (by have := HBX.out; omega)).trans (hCz.block b hb hn)⟩
    have z5 : bx + 3 ≤ X.heap.size := by have := hCx.size; omega
    have HD1 : Hid (bx + 4 ≤ D) := by show bx + 4 ≤ D; omega
    have HK1 : Hid (X.heap[D]? = some (.deferred (some []))) := hK
    clear hPz hMz hXz hCz hCx hMx hPx SQ zz hD hK hp
    obtain ⟨w5, hw5⟩ : ∃ W, W = X := ⟨_, rfl⟩
    subst hw5
    obtain ⟨wA1, sA, rA1, tA1, nA⟩ := (ha5.keep1 (w' := w5.drew) rfl).entry Tryz.underlying131 zero128' 1 (by decide) rfl (.agg #[.int .i64 1, .int .u32 51, .int .i64 8080, .int .i64 1, .int .i64 0]) (poolM 1) (three rfl rfl rfl) (by decide)
    obtain ⟨wA2, rA2, ha6, tA2⟩ := nA wA1 rfl
    obtain ⟨wB1, sB, rB1, tB1, nB⟩ := (ho5.keep1 (w' := wA2) ((turned_block tA2 hne.symm).trans (turned_block tA1 hne.symm))).entry Tryz.underlying132 zero3w 0 (by decide) rfl (.int .i64 1) (poolO 1) (three rfl rfl rfl) (by decide)
    obtain ⟨wB2, rB2, ho6, tB2⟩ := nB wB1 rfl
    have rA1 : (Instr.mapEntry 131 (.map (some am)) (.int .i64 1)).run Tryz.prog w5.drew = .ok (.tuple #[.agg #[.int .i64 0, .int .u32 0, .int .i64 0, .int .i64 0, .int .i64 0], .int .i64 sA]) wA1 := rA1
    have rB1 : (Instr.mapEntry 132 (.map (some om)) (.int .i64 0)).run Tryz.prog wA2 = .ok (.tuple #[.int .i64 0, .int .i64 sB]) wB1 := rB1
    have K0 : Keep (fun _ => True) w5 w5.drew := fun _ _ _ _ h => h
    have K1 := K0.trans (Keep.turned tA1)
    have K2 := K1.trans (Keep.turned tA2)
    have K3 := K2.trans (Keep.turned tB1)
    have K4 := K3.trans (Keep.turned tB2)
    have KA : Hid (∀ W, Keep (fun _ => True) w5 W → W.cell? ⟨pb, 3, none⟩ = some (.map (some am)) ∧ W.cell? ⟨pb, 4, none⟩ = some (.map (some om)) ∧ W.cell? ⟨bx, 0, none⟩ = some (.int .i64 1) ∧ W.cell? ⟨bx + 2, 0, none⟩ = some (.int .i64 1) ∧ W.cell? ⟨bx + 2, 1, none⟩ = some (.int .u32 51) ∧ W.cell? ⟨bx + 2, 2, none⟩ = some (.int .i64 8080) ∧ W.cell? ⟨bx + 2, 3, none⟩ = some (.int .i64 1) ∧ W.cell? ⟨bx + 2, 4, none⟩ = some (.int .i64 0)) := fun W k => by
      have q := k _ _ _ trivial hH5
      have x := k _ _ _ trivial hX5
      have m := k _ _ _ trivial hM5
      exact ⟨(q.cell 3).trans rfl, (q.cell 4).trans rfl, (x.cell 0).trans rfl, (m.cell 0).trans rfl, (m.cell 1).trans rfl, (m.cell 2).trans rfl, (m.cell 3).trans rfl, (m.cell 4).trans rfl⟩
    have hH9 := K4 _ _ _ trivial hH5
    have sam := ha5.1
    have som := ho5.1
    have F1 : PoolS S (wB2.setCell ⟨pb, 5, none⟩ (.int .i64 1)) pb 1 key ab am om ∧ Chg S w (wB2.setCell ⟨pb, 5, none⟩ (.int .i64 1)) := by
      have hA9 := (hA5.keepH (fun b t xs _ h => K4 b t xs trivial h)).keepH (w' := wB2.setCell ⟨pb, 5, none⟩ (.int .i64 1)) (fun b t xs hs hb => hb.setOther 5 hs.1.1.2 _)
      have e1 : (wB2.setCell ⟨pb, 5, none⟩ (.int .i64 1)).heap[am]? = wA2.heap[am]? := (Below.heap_setCell _ _ _ _ (ha6.ne (K2 _ _ _ trivial hH5))).trans ((turned_block tB2 hne).trans (turned_block tB1 hne))
      have e2 : (wB2.setCell ⟨pb, 5, none⟩ (.int .i64 1)).heap[om]? = wB2.heap[om]? := Below.heap_setCell _ _ _ _ (ho6.ne hH9)
      refine ⟨⟨so, ?_, (hA9.mono (fun b h => h.1.1.1)), (ha6.keep1 e1), (ho6.keep1 e2), hne⟩, ?_⟩
      · have := hH9.set 5 (.int .i64 1)
        simpa [poolN] using this
      · exact ((((hC6.drew.trans (Chg.turned tA1 sam)).trans (Chg.turned tA2 sam)).trans (Chg.turned tB1 som)).trans (Chg.turned tB2 som)).set so 5 _
    have nD : ∀ b, S b → D ≠ b := fun b hb e => hNS b (by have := HD1.out; have := hS b hb; omega) hb
    have HK9 : Hid ((wB2.setCell ⟨pb, 5, none⟩ (.int .i64 1)).heap[D]? = some (.deferred (some []))) := (Below.heap_setCell _ _ _ _ (nD _ so)).trans ((turned_block tB2 (nD _ som)).trans ((turned_block tB1 (nD _ som)).trans ((turned_block tA2 (nD _ sam)).trans ((turned_block tA1 (nD _ sam)).trans HK1.out))))
    have FIN : Hid (PoolS S ((wB2.setCell ⟨pb, 5, none⟩ (.int .i64 1)).putObj D (.deferred none)) pb 1 key ab am om ∧ Chg S w ((wB2.setCell ⟨pb, 5, none⟩ (.int .i64 1)).putObj D (.deferred none))) :=
      ⟨F1.1.keep (fun b hb hs => World.putObj_heap_other (by have := nD b hs; omega)), F1.2.putObj D _ (by have := HD1.out; have := HBX.out; omega)⟩
    clear F1
    have c5 := hH9.cell 5
    have f5 := hH9.free 5
    simp [poolN] at c5
    have P0 := Lib.hid K0
    have P1 := Lib.hid K1
    have P2 := Lib.hid K2
    have P3 := Lib.hid K3
    have P4 := Lib.hid K4
    clear K0 K1 K2 K3 K4 tA1 tA2 tB1 tB2 nA nB ha5 ha6 ho5 ho6 hH5 hX5 hM5 hA5 hC6 z5 hH9
    go_region_held3 (fun W => W.cell? ⟨pb, 3, none⟩ = some (.map (some am)) ∧ W.cell? ⟨pb, 4, none⟩ = some (.map (some om)) ∧ W.cell? ⟨bx, 0, none⟩ = some (.int .i64 1) ∧ W.cell? ⟨bx + 2, 0, none⟩ = some (.int .i64 1) ∧ W.cell? ⟨bx + 2, 1, none⟩ = some (.int .u32 51) ∧ W.cell? ⟨bx + 2, 2, none⟩ = some (.int .i64 8080) ∧ W.cell? ⟨bx + 2, 3, none⟩ = some (.int .i64 1) ∧ W.cell? ⟨bx + 2, 4, none⟩ = some (.int .i64 0)) (first | exact KA.out _ P0.out | exact KA.out _ P1.out | exact KA.out _ P2.out | exact KA.out _ P3.out | exact KA.out _ P4.out) (fail)
    all_goals
      go_wp2_with fail
      refine ⟨by simp, .inl ⟨_, _, rfl, run_takeDeferred HK9.out, ?_⟩⟩
      exact ⟨_, results_tmp rfl _ _ _, rfl, FIN.out⟩
theorem padd1_c (S : Nat → Prop) (pb ab am om : Nat) (key : ByteArray) (w : World) (h : PoolS S w pb 0 key ab am om) :
    Calls Tryz.prog 37 #[.pointer (some ⟨pb, 0, none⟩), .agg #[.int .i64 1, .int .u32 51, .int .i64 8080]] w fun e w' => e = .returned (.int .i64 0) ∧ PoolS S w' pb 1 key ab am om ∧ Chg S w w' :=
  (padd1_t _ pb ab am om key w (fun b h => h.2) h.cut).mono fun e w' ⟨he, hp, hc⟩ => ⟨he, hp.mono (fun b h => h.1), hc.mono (fun b _ h => h.1)⟩
set_option maxRecDepth 100000 in
set_option maxHeartbeats 3200000 in
theorem padd2_t (S : Nat → Prop) (pb ab am om : Nat) (key : ByteArray) (w : World) (hS : ∀ b, S b → b < w.heap.size) (h : PoolS S w pb 1 key ab am om) :
    Calls Tryz.prog 37 #[.pointer (some ⟨pb, 0, none⟩), .agg #[.int .i64 2, .int .u32 52, .int .i64 8080]] w fun e w' => e = .returned (.int .i64 0) ∧ PoolS S w' pb 2 key ab am om ∧ Chg S w w' := by
  have hP := Lib.hid h
  have pl := h.head.lt
  have HLK : Hid (∀ W, KeepM S w W → (Instr.lookup 131 (.map (some am)) (.int .i64 2) true).run Tryz.prog W = .ok (.tuple #[.agg #[.int .i64 0, .int .u32 0, .int .i64 0, .int .i64 0, .int .i64 0], .bool false]) W) := fun W hW => (h.all.keep hW).look128 2 (by decide) _ _ rfl rfl
  clear h
  go_enter Tryz.func37, Tryz.ntmps37
  go_wp2_with fail
  have hP1 := hP.out.keep (KeepM.alloc S w (.cells #[.int .i64 2, .int .u32 52, .int .i64 8080] 68))
  have hX1 := Has.new w #[.int .i64 2, .int .u32 52, .int .i64 8080] 68
  have hC1 := (Chg.refl S w).alloc (.cells #[.int .i64 2, .int .u32 52, .int .i64 8080] 68)
  have z1 : (w.alloc (.cells #[.int .i64 2, .int .u32 52, .int .i64 8080] 68)).heap.size = w.heap.size + 1 := by simp
  obtain ⟨w1, hw⟩ : ∃ W, W = w.alloc (.cells #[.int .i64 2, .int .u32 52, .int .i64 8080] 68) := ⟨_, rfl⟩
  rw [← hw] at hP1 hX1 hC1 z1 ⊢
  have HC3 : Hid (∀ W, Below w1.heap.size w1 W → W.cell? ⟨pb, 3, none⟩ = some (.map (some am)) ∧ W.cell? ⟨w.heap.size, 0, none⟩ = some (.int .i64 2) ∧ (Instr.lookup 131 (.map (some am)) (.int .i64 2) true).run Tryz.prog W = .ok (.tuple #[.agg #[.int .i64 0, .int .u32 0, .int .i64 0, .int .i64 0, .int .i64 0], .bool false]) W) :=
    fun W hW => ⟨((hP1.head.below hW).cell 3).trans rfl, ((hX1.below hW).cell 0).trans rfl, (hP1.all.keep (KeepM.below hW)).look128 2 (by decide) _ _ rfl rfl⟩
  obtain ⟨bx, hbx⟩ : ∃ b, b = w.heap.size := ⟨_, rfl⟩
  rw [← hbx] at hX1 HC3 z1 ⊢
  have HBX := Lib.hid hbx
  clear hw hP hbx
  go_region_held3 (fun W => W.cell? ⟨pb, 3, none⟩ = some (.map (some am)) ∧ W.cell? ⟨bx, 0, none⟩ = some (.int .i64 2) ∧ (Instr.lookup 131 (.map (some am)) (.int .i64 2) true).run Tryz.prog W = .ok (.tuple #[.agg #[.int .i64 0, .int .u32 0, .int .i64 0, .int .i64 0, .int .i64 0], .bool false]) W)
    ((refine HC3.out _ ?_; repeat (first | (with_reducible exact Below.refl _ _) | (with_reducible refine Below.drew ?_) | (with_reducible refine Below.alloc ?_ ?_ _) | (with_reducible refine Below.setCell ?_ ?_ _) | (simp; done) | (simp; omega)))) (fail)
  all_goals
    have hP2 := (hP1.keep (KeepM.alloc S w1 (.cells #[.int .i64 0, .int .u32 0, .int .i64 0, .int .i64 0, .int .i64 0] 128)))
    have hX2 := (hX1.alloc (.cells #[.int .i64 0, .int .u32 0, .int .i64 0, .int .i64 0, .int .i64 0] 128))
    have hC2 := (hC1.alloc (.cells #[.int .i64 0, .int .u32 0, .int .i64 0, .int .i64 0, .int .i64 0] 128)).drew
    have z2 : (w1.alloc (.cells #[.int .i64 0, .int .u32 0, .int .i64 0, .int .i64 0, .int .i64 0] 128)).drew.heap.size = bx + 2 := by show (w1.alloc _).heap.size = _; simp; omega
    have hP2' : PoolS S (w1.alloc (.cells #[.int .i64 0, .int .u32 0, .int .i64 0, .int .i64 0, .int .i64 0] 128)).drew pb 1 key ab am om := hP2.keep (fun _ _ _ => rfl)
    have hX2' := hX2.drew
    obtain ⟨w2, hw⟩ : ∃ W, W = (w1.alloc (.cells #[.int .i64 0, .int .u32 0, .int .i64 0, .int .i64 0, .int .i64 0] 128)).drew := ⟨_, rfl⟩
    rw [← hw] at hP2' hX2' hC2 z2 ⊢
    clear hw hP1 hX1 hC1 z1 HC3 hP2 hX2 HLK
    have c1 := hP2'.head.cell 1
    have c5 := hP2'.head.cell 5
    have c2 := hP2'.head.cell 2
    have x0 := hX2'.cell 0
    have x1 := hX2'.cell 1
    have x2 := hX2'.cell 2
    simp [poolN] at c1 c2 c5 x0 x1 x2
    go_wp2_with fail
    go_quiet (fail)
    have hP2q : PoolS S (w2.drewN nq) pb 1 key ab am om := hP2'.keep (fun _ _ _ => rfl)
    have hX2q : Has (w2.drewN nq) bx 68 #[.int .i64 2, .int .u32 52, .int .i64 8080] := hX2'
    have hC2q : Chg S w (w2.drewN nq) := hC2.trans (Chg.of_below (Below.drN (Below.refl _ _) nq))
    have z2q : (w2.drewN nq).heap.size = bx + 2 := z2
    clear hP2' hX2' hC2 z2 c1 c2 c5 x0 x1 x2
    generalize w2.drewN nq = w2q at hP2q hX2q hC2q z2q ⊢
    have c2 := hP2q.head.cell 2
    have c5 := hP2q.head.cell 5
    have x0 := hX2q.cell 0
    have x1 := hX2q.cell 1
    have x2 := hX2q.cell 2
    simp [poolN] at c2 c5 x0 x1 x2
    have pl2 := hP2q.head.lt
    have xl2 := hX2q.lt
    have Z2 := Lib.hid z2q
    clear z2q
    go_wp2_with fail
    have z2q := Z2.out
    have hP3 : PoolS S (w2q.alloc (.cells #[.int .i64 2, .int .u32 52, .int .i64 8080, .int .i64 1, .int .i64 0] 128)) pb 1 key ab am om := hP2q.keep (KeepM.alloc _ _ _)
    have hX3 : Has (w2q.alloc (.cells #[.int .i64 2, .int .u32 52, .int .i64 8080, .int .i64 1, .int .i64 0] 128)) bx 68 _ := hX2q.alloc _
    have hM3 : Has (w2q.alloc (.cells #[.int .i64 2, .int .u32 52, .int .i64 8080, .int .i64 1, .int .i64 0] 128)) (bx + 2) 128 #[.int .i64 2, .int .u32 52, .int .i64 8080, .int .i64 1, .int .i64 0] := has_made z2q.symm
    have hC3 : Chg S w (w2q.alloc (.cells #[.int .i64 2, .int .u32 52, .int .i64 8080, .int .i64 1, .int .i64 0] 128)) := hC2q.alloc _
    have z3 : (w2q.alloc (.cells #[.int .i64 2, .int .u32 52, .int .i64 8080, .int .i64 1, .int .i64 0] 128)).heap.size = bx + 3 := by simp; omega
    try rw [z2q]
    obtain ⟨w3, hw⟩ : ∃ W, W = w2q.alloc (.cells #[.int .i64 2, .int .u32 52, .int .i64 8080, .int .i64 1, .int .i64 0] 128) := ⟨_, rfl⟩
    rw [← hw] at hP3 hX3 hM3 hC3 z3 ⊢
    clear hw hP2q hX2q hC2q z2q Z2 c2 c5 x0 x1 x2 pl2 xl2
    have hNS : ∀ b, bx ≤ b → ¬ S b := fun b hb hs => by have := hS b hs; have := HBX.out; omega
    refine (aadd_c _ ab w3 hP3.anc').mono ?_
    rintro e w4 ⟨rfl, hA4, hC4⟩
    have hM4 : Has w4 (bx + 2) 128 #[.int .i64 2, .int .u32 52, .int .i64 8080, .int .i64 1, .int .i64 0] := hM3.chg hC4 (fun h => hNS _ (by omega) h.1.1.1)
    have hX4 := hX3.chg hC4 (fun h => hNS _ (by omega) h.1.1.1)
    have hH4 := hP3.head.chg hC4 (fun h => h.1.1.2 rfl)
    have ha4 := hP3.all.keep1 (hC4.block am hP3.all.lt (fun h => h.1.2 rfl))
    have ho4 := hP3.owner.keep1 (hC4.block om hP3.owner.lt (fun h => h.2 rfl))
    have hC5 := hC3.trans (hC4.mono (fun b _ h => h.1.1.1))
    have z4 : bx + 3 ≤ w4.heap.size := by have := hC4.size; omega
    have m4 := hM4.cell 4
    have fm4 := hM4.free 4
    simp at m4
    have hne := hP3.ne
    have so := hP3.own
    clear hC4 hP3 hX3 hM3 hC3 z3
    go_wp2_with fail
    have hM5 : Has (w4.setCell ⟨bx + 2, 4, none⟩ (.int .i64 1)) (bx + 2) 128 #[.int .i64 2, .int .u32 52, .int .i64 8080, .int .i64 1, .int .i64 1] := by have := hM4.set 4 (.int .i64 1); simpa using this
    have hX5 := hX4.setOther (c := bx + 2) 4 (by omega) (.int .i64 1)
    have hH5 := hH4.setOther (c := bx + 2) 4 (hH4.ne hM4 (by decide)) (.int .i64 1)
    have hA5 := hA4.keepH (w' := w4.setCell ⟨bx + 2, 4, none⟩ (.int .i64 1)) (fun b t xs hs hb => hb.setOther 4 (fun e => hNS _ (by omega) (e ▸ hs.1.1.1)) _)
    have ha5 := ha4.keep1 (Below.heap_setCell w4 ⟨bx + 2, 4, none⟩ (.int .i64 1) _ (ha4.ne hM4))
    have ho5 := ho4.keep1 (Below.heap_setCell w4 ⟨bx + 2, 4, none⟩ (.int .i64 1) _ (ho4.ne hM4))
    have hC6 := hC5.setIn (b := bx + 2) (by have := HBX.out; omega) 4 (.int .i64 1)
    have z5 : bx + 3 ≤ (w4.setCell ⟨bx + 2, 4, none⟩ (.int .i64 1)).heap.size := by simpa using z4
    obtain ⟨w5, hw⟩ : ∃ W, W = w4.setCell ⟨bx + 2, 4, none⟩ (.int .i64 1) := ⟨_, rfl⟩
    rw [← hw] at hM5 hX5 hH5 hA5 ha5 ho5 hC6 z5 ⊢
    clear hw hM4 hX4 hH4 hA4 ha4 ho4 hC5 z4 m4 fm4
    obtain ⟨wA1, sA, rA1, tA1, nA⟩ := (ha5.keep1 (w' := w5.drew) rfl).entry Tryz.underlying131 zero128' 2 (by decide) rfl (.agg #[.int .i64 2, .int .u32 52, .int .i64 8080, .int .i64 1, .int .i64 1]) (poolM 2) (three rfl rfl rfl) (by decide)
    obtain ⟨wA2, rA2, ha6, tA2⟩ := nA wA1 rfl
    obtain ⟨wB1, sB, rB1, tB1, nB⟩ := (ho5.keep1 (w' := wA2) ((turned_block tA2 hne.symm).trans (turned_block tA1 hne.symm))).entry Tryz.underlying132 zero3w 1 (by decide) rfl (.int .i64 2) (poolO 2) (three rfl rfl rfl) (by decide)
    obtain ⟨wB2, rB2, ho6, tB2⟩ := nB wB1 rfl
    have rA1 : (Instr.mapEntry 131 (.map (some am)) (.int .i64 2)).run Tryz.prog w5.drew = .ok (.tuple #[.agg #[.int .i64 0, .int .u32 0, .int .i64 0, .int .i64 0, .int .i64 0], .int .i64 sA]) wA1 := rA1
    have rB1 : (Instr.mapEntry 132 (.map (some om)) (.int .i64 1)).run Tryz.prog wA2 = .ok (.tuple #[.int .i64 0, .int .i64 sB]) wB1 := rB1
    have K0 : Keep (fun _ => True) w5 w5.drew := fun _ _ _ _ h => h
    have K1 := K0.trans (Keep.turned tA1)
    have K2 := K1.trans (Keep.turned tA2)
    have K3 := K2.trans (Keep.turned tB1)
    have K4 := K3.trans (Keep.turned tB2)
    have KA : Hid (∀ W, Keep (fun _ => True) w5 W → W.cell? ⟨pb, 3, none⟩ = some (.map (some am)) ∧ W.cell? ⟨pb, 4, none⟩ = some (.map (some om)) ∧ W.cell? ⟨bx, 0, none⟩ = some (.int .i64 2) ∧ W.cell? ⟨bx + 2, 0, none⟩ = some (.int .i64 2) ∧ W.cell? ⟨bx + 2, 1, none⟩ = some (.int .u32 52) ∧ W.cell? ⟨bx + 2, 2, none⟩ = some (.int .i64 8080) ∧ W.cell? ⟨bx + 2, 3, none⟩ = some (.int .i64 1) ∧ W.cell? ⟨bx + 2, 4, none⟩ = some (.int .i64 1)) := fun W k => by
      have q := k _ _ _ trivial hH5
      have x := k _ _ _ trivial hX5
      have m := k _ _ _ trivial hM5
      exact ⟨(q.cell 3).trans rfl, (q.cell 4).trans rfl, (x.cell 0).trans rfl, (m.cell 0).trans rfl, (m.cell 1).trans rfl, (m.cell 2).trans rfl, (m.cell 3).trans rfl, (m.cell 4).trans rfl⟩
    have hH9 := K4 _ _ _ trivial hH5
    have sam := ha5.1
    have som := ho5.1
    have F1 : PoolS S (wB2.setCell ⟨pb, 5, none⟩ (.int .i64 2)) pb 2 key ab am om ∧ Chg S w (wB2.setCell ⟨pb, 5, none⟩ (.int .i64 2)) := by
      have hA9 := (hA5.keepH (fun b t xs _ h => K4 b t xs trivial h)).keepH (w' := wB2.setCell ⟨pb, 5, none⟩ (.int .i64 2)) (fun b t xs hs hb => hb.setOther 5 hs.1.1.2 _)
      have e1 : (wB2.setCell ⟨pb, 5, none⟩ (.int .i64 2)).heap[am]? = wA2.heap[am]? := (Below.heap_setCell _ _ _ _ (ha6.ne (K2 _ _ _ trivial hH5))).trans ((turned_block tB2 hne).trans (turned_block tB1 hne))
      have e2 : (wB2.setCell ⟨pb, 5, none⟩ (.int .i64 2)).heap[om]? = wB2.heap[om]? := Below.heap_setCell _ _ _ _ (ho6.ne hH9)
      refine ⟨⟨so, ?_, (hA9.mono (fun b h => h.1.1.1)), (ha6.keep1 e1), (ho6.keep1 e2), hne⟩, ?_⟩
      · have := hH9.set 5 (.int .i64 2)
        simpa [poolN] using this
      · exact ((((hC6.drew.trans (Chg.turned tA1 sam)).trans (Chg.turned tA2 sam)).trans (Chg.turned tB1 som)).trans (Chg.turned tB2 som)).set so 5 _
    have FIN := Lib.hid F1
    clear F1
    have c5 := hH9.cell 5
    have f5 := hH9.free 5
    simp [poolN] at c5
    have P0 := Lib.hid K0
    have P1 := Lib.hid K1
    have P2 := Lib.hid K2
    have P3 := Lib.hid K3
    have P4 := Lib.hid K4
    clear K0 K1 K2 K3 K4 tA1 tA2 tB1 tB2 nA nB ha5 ha6 ho5 ho6 hH5 hX5 hM5 hA5 hC6 z5 hH9
    go_region_held3 (fun W => W.cell? ⟨pb, 3, none⟩ = some (.map (some am)) ∧ W.cell? ⟨pb, 4, none⟩ = some (.map (some om)) ∧ W.cell? ⟨bx, 0, none⟩ = some (.int .i64 2) ∧ W.cell? ⟨bx + 2, 0, none⟩ = some (.int .i64 2) ∧ W.cell? ⟨bx + 2, 1, none⟩ = some (.int .u32 52) ∧ W.cell? ⟨bx + 2, 2, none⟩ = some (.int .i64 8080) ∧ W.cell? ⟨bx + 2, 3, none⟩ = some (.int .i64 1) ∧ W.cell? ⟨bx + 2, 4, none⟩ = some (.int .i64 1)) (first | exact KA.out _ P0.out | exact KA.out _ P1.out | exact KA.out _ P2.out | exact KA.out _ P3.out | exact KA.out _ P4.out) (fail)
    all_goals
      go_wp2_with fail
      go_ret
      exact ⟨rfl, FIN.out⟩
theorem padd2_c (S : Nat → Prop) (pb ab am om : Nat) (key : ByteArray) (w : World) (h : PoolS S w pb 1 key ab am om) :
    Calls Tryz.prog 37 #[.pointer (some ⟨pb, 0, none⟩), .agg #[.int .i64 2, .int .u32 52, .int .i64 8080]] w fun e w' => e = .returned (.int .i64 0) ∧ PoolS S w' pb 2 key ab am om ∧ Chg S w w' :=
  (padd2_t _ pb ab am om key w (fun b h => h.2) h.cut).mono fun e w' ⟨he, hp, hc⟩ => ⟨he, hp.mono (fun b h => h.1), hc.mono (fun b _ h => h.1)⟩
end Go.Proofs.YtngdebpaheejlaaGreatDoor
