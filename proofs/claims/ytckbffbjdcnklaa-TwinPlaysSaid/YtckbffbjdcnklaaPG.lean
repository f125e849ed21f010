/- TwinPlays: the table and the document's table side by side. -/
import Derived.Test.YtckbffbjdcnklaaPR
namespace Go.Proofs.Ytckbffbjdcnklaa
open Go.RowKit
set_option linter.unusedSimpArgs false
set_option linter.unusedVariables false

section
variable {w0 : Base} {w w' : World} {tb g cap am bm room m cnt lim : Nat} {T : Nat → Option P.Row} {fa : ByteArray → Option Nat} {fb : Int → Option Nat} {fr : Value}
set_option maxHeartbeats 800000 in
theorem P.rem_no (h : P.TS w0 w tb g cap am bm room m cnt T fa fb fr) (x : Int) (hx : x < 1 ∨ (m : Int) < x ∨ T x.toNat = none) : Calls Try.prog 46 #[.pointer (some ⟨tb, 0, none⟩), .int .i64 x] w fun e w' => e = .returned (.bool false) ∧ w = w' := by
  have HA := Lib.hid (P.at_no h x hx)
  clear h hx
  go_enter Try.func46, Try.ntmps46
  go_wp2_with fail
  refine (HA.out).mono ?_
  rintro e w' ⟨rfl, rfl⟩
  go_wp2
  go_ret
  exact ⟨rfl, rfl⟩
theorem TF.keeps (h : TF w0 w tb room cnt lim T fa fb) : Keeps w0 w := by
  obtain ⟨g, cap, am, bm, m, fo, n, H, v, h1, h2, h3⟩ := h
  exact h1.bel
theorem TF.ntb (h : TF w0 w tb room cnt lim T fa fb) : ¬ w0.Z tb := by
  obtain ⟨g, cap, am, bm, m, fo, n, H, v, h1, h2, h3⟩ := h
  exact h1.z.1
theorem TF.names (h : TF w0 w tb room cnt lim T fa fb) : (∀ x k, P.okA x → (fa x = some k ↔ ∃ r, T k = some r ∧ r.a = x)) ∧ (∀ x k, P.okB x → (fb x = some k ↔ ∃ r, T k = some r ∧ r.b = x)) ∧ ∀ y r, T y = some r → 1 ≤ y := by
  obtain ⟨g, cap, am, bm, m, fo, n, H, v, h1, h2, h3⟩ := h
  exact ⟨h1.coA, h1.coB, fun y r hr => (h1.okR y r hr).2.2.1⟩
theorem TF.cntle (h : TF w0 w tb room cnt lim T fa fb) : cnt ≤ lim := by
  obtain ⟨g, cap, am, bm, m, fo, n, H, v, h1, h2, h3, h4, h5, h6, h7, h8, h9⟩ := h
  exact h9
/-- Elsewhere something was turned; the blocks that stay may be others from here on. -/
theorem TF.move {Z Z' : Nat → Prop} {S : Nat → Prop} (h : TF ⟨w, Z⟩ w tb room cnt lim T fa fb) (c : Chg S w w') (hS : ∀ b, S b → Z b) (hZ : ∀ b, Z' b → b < w'.heap.size ∧ (Z b ∨ w.heap.size ≤ b)) : TF ⟨w', Z'⟩ w' tb room cnt lim T fa fb := by
  obtain ⟨g, cap, am, bm, m, fo, n, H, v, h1, h2, h3, h4⟩ := h
  have zz := h1.z
  have l1 := h1.head.lt
  have l2 := h1.rows.lt
  have l3 := h1.alt
  have l4 := h1.blt
  have t0 := h1.rebase (fun _ => False) (fun b h => h.elim) ⟨fun h => h, fun h => h, fun h => h, fun h => h⟩
  have t1 := t0.of_blocks c (fun q => zz.1 (hS _ q)) (fun q => zz.2.1 (hS _ q)) (fun q => zz.2.2.1 (hS _ q)) (fun q => zz.2.2.2 (hS _ q)) (fun _ _ q => q)
  have nz : ∀ b, b < w.heap.size → ¬ Z b → ¬ Z' b := fun b hb n q => by
    rcases (hZ b q).2 with e | e
    · exact n e
    · omega
  refine ⟨g, cap, am, bm, m, fo, n, H, v, t1.rebase Z' (fun b hb => (hZ b hb).1) ⟨nz _ l1 zz.1, nz _ l2 zz.2.1, nz _ l3 zz.2.2.1, nz _ l4 zz.2.2.2⟩, h2.of_block (fun f c' e hl => c.block f hl (fun q => (h3 f c' e).2.2.2.2 (hS _ q))), fun f c' e => ?_, h4⟩
  have q := h3 f c' e
  refine ⟨q.1, q.2.1, q.2.2.1, q.2.2.2.1, nz f ?_ q.2.2.2.2⟩
  rw [e] at h2
  exact h2.lt
theorem TF.rebase {Z : Nat → Prop} (h : TF ⟨w, Z⟩ w' tb room cnt lim T fa fb) : TF ⟨w', Z⟩ w' tb room cnt lim T fa fb := by
  have k := h.keeps
  obtain ⟨g, cap, am, bm, m, fo, n, H, v, h1, h2, h3, h4⟩ := h
  exact ⟨g, cap, am, bm, m, fo, n, H, v, h1.rebase Z (fun b hb => Nat.lt_of_lt_of_le (k.zlt b hb) k.size) h1.z, h2, h3, h4⟩
theorem TF.new (h : P.TS w0 w tb g 1 am bm room 0 0 (fun _ => none) (fun _ => none) (fun _ => none) (.slice none 0 0)) : TF w0 w tb room 0 0 (fun _ => none) (fun _ => none) (fun _ => none) :=
  ⟨g, 1, am, bm, 0, none, 0, fun _ => 0, _, h, ⟨rfl, rfl⟩, fun _ _ e => (by cases e), fun k h1 h2 => by omega, fun i j h1 => by omega, fun x => ⟨fun q => (by obtain ⟨a, q, _⟩ := q; omega), fun q => (by obtain ⟨h1, h2, _⟩ := q; omega)⟩, by omega, by omega, by omega⟩
theorem TF.byA (h : TF w0 w tb room cnt lim T fa fb) (x : ByteArray) (hx : P.okA x) : Calls Try.prog 51 #[.pointer (some ⟨tb, 0, none⟩), .string x] w fun e w' => e = .returned (.tuple #[.int .i64 (((fa x).getD 0 : Nat) : Int), .bool (fa x).isSome]) ∧ w = w' := by
  obtain ⟨g, cap, am, bm, m, fo, n, H, v, h1, h2, h3⟩ := h
  exact P.byA_c h1 x hx
theorem TF.byB (h : TF w0 w tb room cnt lim T fa fb) (x : Int) (hx : P.okB x) : Calls Try.prog 35 #[.pointer (some ⟨tb, 0, none⟩), .int .i64 x] w fun e w' => e = .returned (.tuple #[.int .i64 (((fb x).getD 0 : Nat) : Int), .bool (fb x).isSome]) ∧ w = w' := by
  obtain ⟨g, cap, am, bm, m, fo, n, H, v, h1, h2, h3⟩ := h
  exact P.byB_c h1 x hx
theorem TF.get_yes (h : TF w0 w tb room cnt lim T fa fb) (x : Nat) (r : P.Row) (hr : T x = some r) : Calls Try.prog 36 #[.pointer (some ⟨tb, 0, none⟩), .int .i64 x] w fun e w' => e = .returned (.tuple #[.string r.v, .bool true]) ∧ w = w' := by
  obtain ⟨g, cap, am, bm, m, fo, n, H, v, h1, h2, h3⟩ := h
  exact P.get_yes h1 x r hr
theorem no3 {x : Int} (h : x < 0 ∨ T x.toNat = none) (ok : ∀ y r, T y = some r → 1 ≤ y) : x < 1 ∨ (m : Int) < x ∨ T x.toNat = none := by
  rcases h with h | h
  · exact .inl (by omega)
  · exact .inr (.inr h)
theorem TF.get_no (h : TF w0 w tb room cnt lim T fa fb) (x : Int) (hx : x < 0 ∨ T x.toNat = none) : Calls Try.prog 36 #[.pointer (some ⟨tb, 0, none⟩), .int .i64 x] w fun e w' => e = .returned (.tuple #[.string ⟨#[]⟩, .bool false]) ∧ w = w' := by
  have nn := h.names.2.2
  obtain ⟨g, cap, am, bm, m, fo, n, H, v, h1, h2, h3⟩ := h
  exact P.get_no h1 x (no3 hx nn)
theorem TF.set_no (h : TF w0 w tb room cnt lim T fa fb) (x : Int) (v : ByteArray) (hx : x < 0 ∨ T x.toNat = none) : Calls Try.prog 48 #[.pointer (some ⟨tb, 0, none⟩), .int .i64 x, .string v] w fun e w' => e = .returned (.bool false) ∧ w = w' := by
  have nn := h.names.2.2
  obtain ⟨g, cap, am, bm, m, fo, n, H, vf, h1, h2, h3⟩ := h
  exact P.set_no h1 x v (no3 hx nn)
theorem TF.rem_no (h : TF w0 w tb room cnt lim T fa fb) (x : Int) (hx : x < 0 ∨ T x.toNat = none) : Calls Try.prog 46 #[.pointer (some ⟨tb, 0, none⟩), .int .i64 x] w fun e w' => e = .returned (.bool false) ∧ w = w' := by
  have nn := h.names.2.2
  obtain ⟨g, cap, am, bm, m, fo, n, H, vf, h1, h2, h3⟩ := h
  exact P.rem_no h1 x (no3 hx nn)
theorem TF.set_yes (h : TF w0 w tb room cnt lim T fa fb) (x : Nat) (r : P.Row) (v : ByteArray) (hr : T x = some r) : Calls Try.prog 48 #[.pointer (some ⟨tb, 0, none⟩), .int .i64 x, .string v] w fun e w' => e = .returned (.bool true) ∧ TF w0 w' tb room cnt lim (P.setR T x (some ⟨r.a, r.b, v⟩)) fa fb := by
  obtain ⟨g, cap, am, bm, m, fo, n, H, vf, t1, t2, t3, t4, t5, t6, t7⟩ := h
  have zz := t1.z
  have tr := t1.rebase (fun b => w0.Z b ∨ ∃ c, fo = some (b, c)) (fun b hb => by
    rcases hb with hb | ⟨c, hb⟩
    · exact Nat.lt_of_lt_of_le (t1.bel.zlt b hb) t1.bel.size
    · rw [hb] at t2; exact t2.lt) ⟨fun q => by rcases q with q | ⟨c, q⟩; exact zz.1 q; exact (t3 _ _ q).1 rfl, fun q => by rcases q with q | ⟨c, q⟩; exact zz.2.1 q; exact (t3 _ _ q).2.1 rfl, fun q => by rcases q with q | ⟨c, q⟩; exact zz.2.2.1 q; exact (t3 _ _ q).2.2.1 rfl, fun q => by rcases q with q | ⟨c, q⟩; exact zz.2.2.2 q; exact (t3 _ _ q).2.2.2.1 rfl⟩
  refine (P.set_yes tr x r v hr).mono ?_
  rintro e w' ⟨rfl, T2⟩
  refine ⟨rfl, g, cap, am, bm, m, fo, n, H, vf, T2.back t1.bel (fun b hb => .inl hb), t2.of_block (fun f c e _ => T2.bel.block f (.inr ⟨c, e⟩)), t3, t4, t5, fun y => ?_, t7⟩
  rw [t6 y]
  unfold P.setR
  by_cases e : y = x
  · subst e; rw [if_pos rfl, hr]; simp
  · rw [if_neg e]
end
/-- The table, the document's table, and blocks that both leave alone. -/
structure PZ (Z K : Nat → Prop) (w : World) (tb xb room cnt lim : Nat) (T : Nat → Option P.Row) (fa : ByteArray → Option Nat) (fb : Int → Option Nat) (L : List QR) (v : Value) : Prop where
  tf : TF ⟨w, Z⟩ w tb room cnt lim T fa fb
  kz : ∀ b, K b → Z b
  zx : Z xb
  kx : ¬ K xb
  hx : Has w xb 69 #[.int .i64 room, v]
  hl : LAt w v L
  own : ∀ f, v.ownBlock = some f → Z f ∧ ¬ K f
def PW (K : Nat → Prop) (w : World) (tb xb room cnt lim : Nat) (T : Nat → Option P.Row) (fa : ByteArray → Option Nat) (fb : Int → Option Nat) (L : List QR) : Prop := ∃ Z v, PZ Z K w tb xb room cnt lim T fa fb L v
section
variable {Z K : Nat → Prop} {w w' : World} {tb xb room cnt lim cnt' lim' : Nat} {T T' : Nat → Option P.Row} {fa fa' : ByteArray → Option Nat} {fb fb' : Int → Option Nat} {L L' : List QR} {v v' : Value}
theorem LAt.of_block (h : LAt w v L) (e : ∀ f, v.ownBlock = some f → w'.heap[f]? = w.heap[f]?) : LAt w' v L := by
  rcases h with h | ⟨f, c, cur, rfl, g1, g2⟩
  · exact .inl h
  · exact .inr ⟨f, c, cur, rfl, (e f rfl).trans g1, g2⟩
theorem LAt.blt (h : LAt w v L) (f : Nat) (e : v.ownBlock = some f) : f < w.heap.size := by
  rcases h with ⟨rfl, _⟩ | ⟨f', c, cur, rfl, g1, g2⟩
  · cases e
  · cases e; exact g1.lt
theorem PZ.xt (h : PZ Z K w tb xb room cnt lim T fa fb L v) : XT w xb room L := ⟨v, h.hx, h.hl⟩
theorem PZ.prog (h : PZ Z K w tb xb room cnt lim T fa fb L v) (t : TF ⟨w, Z⟩ w' tb room cnt' lim' T' fa' fb') : PW K w' tb xb room cnt' lim' T' fa' fb' L ∧ Chg (fun b => ¬ K b) w w' := by
  have k := t.keeps
  exact ⟨⟨Z, v, t.rebase, h.kz, h.zx, h.kx, (k.block _ h.zx).trans h.hx, h.hl.of_block (fun f e => k.block f (h.own f e).1), h.own⟩, k.os, k.tape, k.output, k.size, fun b hb n => k.block b (h.kz b (Classical.not_not.1 n))⟩
theorem PZ.turn {S : Nat → Prop} (h : PZ Z K w tb xb room cnt lim T fa fb L v) (c : Chg S w w') (hS : ∀ b, S b → Z b ∧ ¬ K b) (hx' : Has w' xb 69 #[.int .i64 room, v']) (hl' : LAt w' v' L') (own' : ∀ f, v'.ownBlock = some f → v.ownBlock = some f ∨ w.heap.size ≤ f) : PW K w' tb xb room cnt lim T fa fb L' ∧ Chg (fun b => ¬ K b) w w' := by
  have zl := h.tf.keeps.zlt
  refine ⟨⟨fun b => Z b ∨ (w.heap.size ≤ b ∧ b < w'.heap.size), v', h.tf.move c (fun b q => (hS b q).1) (fun b q => ?_), fun b q => .inl (h.kz b q), .inl h.zx, h.kx, hx', hl', fun f e => ?_⟩, c.mono (fun b _ q => (hS b q).2)⟩
  · rcases q with q | q
    · exact ⟨Nat.lt_of_lt_of_le (zl b q) c.size, .inl q⟩
    · exact ⟨q.2, .inr q.1⟩
  · rcases own' f e with q | q
    · have := h.own f q
      exact ⟨.inl this.1, this.2⟩
    · exact ⟨.inr ⟨q, hl'.blt f e⟩, fun k => by have : f < w.heap.size := zl f (h.kz f k); omega⟩
theorem PW.push (h : PW K w tb xb room cnt lim T fa fb L) (o : Obj) : PW (fun b => K b ∨ b = w.heap.size) (w.alloc o) tb xb room cnt lim T fa fb L := by
  obtain ⟨Z, v, h⟩ := h
  have zl := h.tf.keeps.zlt
  have c : Chg (fun _ => False) w (w.alloc o) := (Chg.refl _ w).alloc o
  refine ⟨fun b => Z b ∨ b = w.heap.size, v, h.tf.move c (fun b q => q.elim) (fun b q => ?_), fun b q => ?_, .inl h.zx, fun q => ?_, h.hx.alloc o, h.hl.of_block (fun f e => Below.heap_alloc _ _ _ (h.hl.blt f e)), fun f e => ⟨.inl (h.own f e).1, fun q => ?_⟩⟩
  · have hs : (w.alloc o).heap.size = w.heap.size + 1 := by simp
    rcases q with q | q
    · have : b < w.heap.size := zl b q
      exact ⟨by omega, .inl q⟩
    · exact ⟨by omega, .inr (by omega)⟩
  · rcases q with q | q
    · exact .inl (h.kz b q)
    · exact .inr q
  · rcases q with q | q
    · exact h.kx q
    · have := h.hx.lt; omega
  · rcases q with q | q
    · exact (h.own f e).2 q
    · have := h.hl.blt f e; omega
theorem PW.mono {K' : Nat → Prop} (h : PW K w tb xb room cnt lim T fa fb L) (hk : ∀ b, K' b → K b) : PW K' w tb xb room cnt lim T fa fb L := by
  obtain ⟨Z, v, h⟩ := h
  exact ⟨Z, v, h.tf, fun b q => h.kz b (hk b q), h.zx, fun q => h.kx (hk _ q), h.hx, h.hl, fun f e => ⟨(h.own f e).1, fun q => (h.own f e).2 (hk _ q)⟩⟩
theorem PW.up (h : PW K w tb xb room cnt lim T fa fb L) (hl : lim ≤ lim') : PW K w tb xb room cnt lim' T fa fb L := by
  obtain ⟨Z, v, h⟩ := h
  exact ⟨Z, v, h.tf.up hl, h.kz, h.zx, h.kx, h.hx, h.hl, h.own⟩
/-- Cells elsewhere (boxes of K) are turned. -/
theorem PW.put (h : PW K w tb xb room cnt lim T fa fb L) {b : Nat} (hb : K b) (i : Nat) (x : Value) : PW K (w.setCell ⟨b, i, none⟩ x) tb xb room cnt lim T fa fb L := by
  obtain ⟨Z, v, h⟩ := h
  have c : Chg (fun c => c = b) w (w.setCell ⟨b, i, none⟩ x) := (Chg.refl (fun c => c = b) w).set rfl i x
  have zl := h.tf.keeps.zlt
  exact ⟨Z, v, h.tf.move c (fun c q => by subst q; exact h.kz _ hb) (fun b q => ⟨Nat.lt_of_lt_of_le (zl b q) c.size, .inl q⟩), h.kz, h.zx, h.kx, h.hx.setOther i (fun e => h.kx (by rw [e]; exact hb)) x, h.hl.setOther (fun k e q => (h.own k e).2 (by rw [q]; exact hb)) i x, h.own⟩
theorem PW.drewN (h : PW K w tb xb room cnt lim T fa fb L) (n : Nat) : PW K (w.drewN n) tb xb room cnt lim T fa fb L := by
  obtain ⟨Z, v, h⟩ := h
  have c : Chg (fun _ => False) w (w.drewN n) := (Chg.refl _ w).dr n
  have zl := h.tf.keeps.zlt
  exact ⟨Z, v, h.tf.move c (fun c q => q.elim) (fun b q => ⟨zl b q, .inl q⟩), h.kz, h.zx, h.kx, h.hx, h.hl.of_block (fun _ _ => rfl), h.own⟩
theorem PW.drew (h : PW K w tb xb room cnt lim T fa fb L) : PW K w.drew tb xb room cnt lim T fa fb L := h.drewN 1
end
end Go.Proofs.Ytckbffbjdcnklaa
