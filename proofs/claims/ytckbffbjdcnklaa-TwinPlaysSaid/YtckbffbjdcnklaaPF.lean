/- TwinPlays: a table with its heap of free handles, as a function from handles to rows. -/
import Derived.Test.YtckbffbjdcnklaaPTw4
import Derived.Test.YtckbffbjdcnklaaPTw5
import Derived.Test.YtckbffbjdcnklaaPTw6
namespace Go.Proofs.Ytckbffbjdcnklaa
open Go.RowKit
set_option linter.unusedSimpArgs false
set_option linter.unusedVariables false

section
variable {w0 : Base} {w w' : World} {tb g cap am bm room m cnt lim : Nat} {T : Nat → Option P.Row} {fa : ByteArray → Option Nat} {fb : Int → Option Nat} {fr : Value}
theorem P.TS.rebase (h : P.TS w0 w tb g cap am bm room m cnt T fa fb fr) (Z : Nat → Prop) (hz : ∀ b, Z b → b < w.heap.size) (n : ¬ Z tb ∧ ¬ Z g ∧ ¬ Z am ∧ ¬ Z bm) : P.TS ⟨w, Z⟩ w tb g cap am bm room m cnt T fa fb fr :=
  ⟨h.head, h.rows, h.ma, h.mb, h.coA, h.coB, h.okR, h.ne, n, Keeps.refl _ hz, h.hm, h.hc, h.hr⟩
theorem P.TS.back {Z : Nat → Prop} (h : P.TS ⟨w, Z⟩ w' tb g cap am bm room m cnt T fa fb fr) (k : Keeps w0 w) (hz : ∀ b, w0.Z b → Z b) : P.TS w0 w' tb g cap am bm room m cnt T fa fb fr :=
  ⟨h.head, h.rows, h.ma, h.mb, h.coA, h.coB, h.okR, h.ne, ⟨fun q => h.z.1 (hz _ q), fun q => h.z.2.1 (hz _ q), fun q => h.z.2.2.1 (hz _ q), fun q => h.z.2.2.2 (hz _ q)⟩,
    ⟨h.bel.os.trans k.os, h.bel.tape.trans k.tape, h.bel.output.trans k.output, Nat.le_trans k.size h.bel.size, fun b hb => (h.bel.block b (hz b hb)).trans (k.block b hb), k.zlt⟩, h.hm, h.hc, h.hr⟩
/-- The table, its heap with it. -/
def TF (w0 : Base) (w : World) (tb room cnt lim : Nat) (T : Nat → Option P.Row) (fa : ByteArray → Option Nat) (fb : Int → Option Nat) : Prop :=
  ∃ g cap am bm m fo n H v, P.TS w0 w tb g cap am bm room m cnt T fa fb v ∧ FreeAt w fo n H v ∧ (∀ f c, fo = some (f, c) → f ≠ tb ∧ f ≠ g ∧ f ≠ am ∧ f ≠ bm ∧ ¬ w0.Z f) ∧ HOrd n H ∧ HInj n H ∧ (∀ x, HMem n H x ↔ 1 ≤ x ∧ x ≤ m ∧ T x = none) ∧ m ≤ lim ∧ n ≤ lim ∧ cnt ≤ lim
theorem FreeAt.of_block {fo : Option (Nat × Nat)} {n : Nat} {H : Nat → Nat} {v : Value} (h : FreeAt w fo n H v) (e : ∀ f c, fo = some (f, c) → f < w.heap.size → w'.heap[f]? = w.heap[f]?) : FreeAt w' fo n H v := by
  unfold FreeAt at h ⊢
  split at h
  · exact h
  · exact ⟨h.1, h.2.of_block (e _ _ rfl h.2.lt)⟩
theorem FreeAt.lt {f c : Nat} {n : Nat} {H : Nat → Nat} {v : Value} (h : FreeAt w (some (f, c)) n H v) : f < w.heap.size := h.2.lt
theorem TF.grow (h : TF w0 w tb room cnt lim T fa fb) (hb : Below w.heap.size w w') : TF w0 w' tb room cnt lim T fa fb := by
  obtain ⟨g, cap, am, bm, m, fo, n, H, v, h1, h2, h3⟩ := h
  exact ⟨g, cap, am, bm, m, fo, n, H, v, h1.grow hb, h2.of_block (fun f c _ hl => hb.block f hl), h3⟩
theorem TF.up {lim' : Nat} (h : TF w0 w tb room cnt lim T fa fb) (hl : lim ≤ lim') : TF w0 w tb room cnt lim' T fa fb := by
  obtain ⟨g, cap, am, bm, m, fo, n, H, v, h1, h2, h3, h4, h5, h6, h7, h8, h9⟩ := h
  exact ⟨g, cap, am, bm, m, fo, n, H, v, h1, h2, h3, h4, h5, h6, by omega, by omega, by omega⟩
theorem TF.put_old (h : TF w0 w tb room cnt lim T fa fb) (a : ByteArray) (b : Int) (v : ByteArray) (ha : P.okA a) (hb : P.okB b) (ho : (fa a).isSome = true ∨ (fb b).isSome = true) :
    Calls Try.prog 34 #[.pointer (some ⟨tb, 0, none⟩), .string a, .int .i64 b, .string v] w fun e w' => e = .returned (.tuple #[.int .i64 0, .int .i64 20]) ∧ TF w0 w' tb room cnt lim T fa fb := by
  have HT := Lib.hid h
  obtain ⟨g, cap, am, bm, m, fo, n, H, vf, h1, h2, h3⟩ := h
  refine (P.put_old h1 a b v ha hb ho).mono ?_
  rintro e w' ⟨rfl, rfl⟩
  exact ⟨rfl, HT.out⟩
theorem TF.len (h : TF w0 w tb room cnt lim T fa fb) : Calls Try.prog 32 #[.pointer (some ⟨tb, 0, none⟩)] w fun e w' => e = .returned (.int .i64 cnt) ∧ w = w' := by
  obtain ⟨g, cap, am, bm, m, fo, n, H, vf, h1, h2, h3⟩ := h
  exact P.len_c h1
/-- The least handle that nothing has. -/
def Least (T : Nat → Option P.Row) (x : Nat) : Prop := 1 ≤ x ∧ T x = none ∧ ∀ y, 1 ≤ y → y < x → T y ≠ none
theorem TF.put_new (h : TF w0 w tb room cnt lim T fa fb) (a : ByteArray) (b : Int) (v : ByteArray) (ha : P.okA a) (hb : P.okB b) (h1 : fa a = none) (h2 : fb b = none) (hc : cnt ≠ room) (hl : lim < 60000) :
    Calls Try.prog 34 #[.pointer (some ⟨tb, 0, none⟩), .string a, .int .i64 b, .string v] w fun e w' => ∃ x : Nat, e = .returned (.tuple #[.int .i64 (x : Int), .int .i64 0]) ∧ Least T x ∧ x ≤ lim + 1 ∧ TF w0 w' tb room (cnt + 1) (lim + 1) (P.setR T x (some ⟨a, b, v⟩)) (P.updF fa a (some x)) (P.updF fb b (some x)) := by
  obtain ⟨g, cap, am, bm, m, fo, n, H, vf, t1, t2, t3, t4, t5, t6, t7, t8, t9⟩ := h
  cases n with
  | zero =>
    have hvf : ∃ va vc, vf = .slice va 0 vc := by
      unfold FreeAt at t2
      split at t2
      · exact ⟨_, _, t2.1⟩
      · exact ⟨_, _, t2.1⟩
    obtain ⟨va, vc, rfl⟩ := hvf
    have zz := t1.z
    have tr := t1.rebase (fun b => w0.Z b ∨ ∃ c, fo = some (b, c)) (fun b hb => by
      rcases hb with hb | ⟨c, hb⟩
      · exact Nat.lt_of_lt_of_le (t1.bel.zlt b hb) t1.bel.size
      · rw [hb] at t2; exact t2.lt) ⟨fun q => by rcases q with q | ⟨c, q⟩; exact zz.1 q; exact (t3 _ _ q).1 rfl, fun q => by rcases q with q | ⟨c, q⟩; exact zz.2.1 q; exact (t3 _ _ q).2.1 rfl, fun q => by rcases q with q | ⟨c, q⟩; exact zz.2.2.1 q; exact (t3 _ _ q).2.2.1 rfl, fun q => by rcases q with q | ⟨c, q⟩; exact zz.2.2.2 q; exact (t3 _ _ q).2.2.2.1 rfl⟩
    have hmn : T (m + 1) = none := by
      cases q : T (m + 1) with
      | none => rfl
      | some r => have := (t1.okR _ r q).2.2.2; omega
    refine (P.put_more va vc tr a b v ha hb h1 h2 hc (by omega) (by omega)).mono ?_
    rintro e w' ⟨g2, cap2, rfl, T2⟩
    have k2 := T2.bel
    refine ⟨m + 1, rfl, ⟨by omega, hmn, fun y y1 y2 y3 => ?_⟩, by omega, g2, cap2, am, bm, m + 1, fo, 0, H, _, T2.back t1.bel (fun b hb => .inl hb), t2.of_block (fun f c e _ => k2.block f (.inr ⟨c, e⟩)), fun f c e => ?_, t4, t5, fun y => ?_, by omega, by omega, by omega⟩
    · have := (t6 y).2 ⟨y1, by omega, y3⟩
      obtain ⟨q, q1, _⟩ := this
      omega
    · have q := t3 f c e
      refine ⟨q.1, fun e2 => ?_, q.2.2.1, q.2.2.2.1, q.2.2.2.2⟩
      have zq := T2.z.2.1
      exact zq (.inr ⟨c, by rw [← e2]; exact e⟩)
    · constructor
      · rintro ⟨q, q1, _⟩; omega
      · rintro ⟨q1, q2, q3⟩
        unfold P.setR at q3
        by_cases e : y = m + 1
        · rw [if_pos e] at q3; cases q3
        · rw [if_neg e] at q3
          exact (t6 y).2 ⟨q1, by omega, q3⟩
  | succ n =>
    have hf : ∃ f c, fo = some (f, c) := by
      unfold FreeAt at t2
      split at t2
      · exact absurd t2.2 (by omega)
      · exact ⟨_, _, rfl⟩
    obtain ⟨f, c, rfl⟩ := hf
    obtain ⟨rfl, hp⟩ := t2
    have q := t3 f c rfl
    obtain ⟨x1, x2, x3⟩ := (t6 (H 0)).1 ⟨0, by omega, rfl⟩
    refine (P.put_heap f c n H (H 0) rfl t1 hp t4 t5 (by omega) ⟨q.1, q.2.1, q.2.2.1, q.2.2.2.1⟩ q.2.2.2.2 x1 x2 x3 a b v ha hb h1 h2 hc (by omega)).mono ?_
    rintro e w' ⟨rfl, H1, T2, hp2, o2, i2, m2⟩
    refine ⟨H 0, rfl, ⟨x1, x3, fun y y1 y2 y3 => ?_⟩, by omega, g, cap, am, bm, m, some (f, c), n, H1, _, T2, ⟨rfl, hp2⟩, t3, o2, i2, fun y => ?_, by omega, by omega, by omega⟩
    · obtain ⟨k, k1, k2⟩ := (t6 y).2 ⟨y1, by omega, y3⟩
      have := t4.least k k1
      omega
    · rw [m2 y, t6 y]
      unfold P.setR
      by_cases e : y = H 0
      · rw [if_pos e]; simp [e]
      · rw [if_neg e]; simp [e]
theorem TF.put_full (h : TF w0 w tb room cnt lim T fa fb) (a : ByteArray) (b : Int) (v : ByteArray) (ha : P.okA a) (hb : P.okB b) (h1 : fa a = none) (h2 : fb b = none) (hc : cnt = room) :
    Calls Try.prog 34 #[.pointer (some ⟨tb, 0, none⟩), .string a, .int .i64 b, .string v] w fun e w' => e = .returned (.tuple #[.int .i64 0, .int .i64 16]) ∧ TF w0 w' tb room cnt lim T fa fb := by
  obtain ⟨g, cap, am, bm, m, fo, n, H, vf, t1, t2, t3, t4⟩ := h
  have zz := t1.z
  have tr := t1.rebase (fun b => w0.Z b ∨ ∃ c, fo = some (b, c)) (fun b hb => by
    rcases hb with hb | ⟨c, hb⟩
    · exact Nat.lt_of_lt_of_le (t1.bel.zlt b hb) t1.bel.size
    · rw [hb] at t2; exact t2.lt) ⟨fun q => by rcases q with q | ⟨c, q⟩; exact zz.1 q; exact (t3 _ _ q).1 rfl, fun q => by rcases q with q | ⟨c, q⟩; exact zz.2.1 q; exact (t3 _ _ q).2.1 rfl, fun q => by rcases q with q | ⟨c, q⟩; exact zz.2.2.1 q; exact (t3 _ _ q).2.2.1 rfl, fun q => by rcases q with q | ⟨c, q⟩; exact zz.2.2.2 q; exact (t3 _ _ q).2.2.2.1 rfl⟩
  refine (P.put_full tr a b v ha hb h1 h2 hc).mono ?_
  rintro e w' ⟨rfl, T2⟩
  exact ⟨rfl, g, cap, am, bm, m, fo, n, H, vf, T2.back t1.bel (fun b hb => .inl hb), t2.of_block (fun f c e _ => T2.bel.block f (.inr ⟨c, e⟩)), t3, t4⟩
theorem TF.rem (h : TF w0 w tb room cnt lim T fa fb) (x : Nat) (r : P.Row) (hr : T x = some r) (hl : lim < 60000) :
    Calls Try.prog 46 #[.pointer (some ⟨tb, 0, none⟩), .int .i64 x] w fun e w' => e = .returned (.bool true) ∧ TF w0 w' tb room (cnt - 1) (lim + 1) (P.setR T x none) (P.updF fa r.a none) (P.updF fb r.b none) := by
  obtain ⟨g, cap, am, bm, m, fo, n, H, vf, t1, t2, t3, t4, t5, t6, t7, t8, t9⟩ := h
  have hx : ¬ HMem n H x := fun q => by have := ((t6 x).1 q).2.2; rw [hr] at this; cases this
  have ok := t1.okR x r hr
  refine (P.rem_any fo n H vf t1 t2 t3 t4 t5 x hx (by omega) r hr).mono ?_
  rintro e w' ⟨f, c, H1, rfl, T2, hp2, o2, i2, m2, n1, n2⟩
  refine ⟨rfl, g, cap, am, bm, m, some (f, c), n + 1, H1, _, T2, ⟨rfl, hp2⟩, fun f' c' e => ?_, o2, i2, fun y => ?_, by omega, by omega, by omega⟩
  · cases e; exact ⟨n1.1, n1.2.1, n1.2.2.1, n1.2.2.2, n2⟩
  · rw [m2 y, t6 y]
    unfold P.setR
    by_cases e : y = x
    · subst e; rw [if_pos rfl]; simp; omega
    · rw [if_neg e]; simp [e]
end
end Go.Proofs.Ytckbffbjdcnklaa
