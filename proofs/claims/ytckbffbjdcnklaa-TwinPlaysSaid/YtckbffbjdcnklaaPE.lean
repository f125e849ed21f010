/- TwinPlays: a deed, on both: they answer alike. -/
import Derived.Test.YtckbffbjdcnklaaPD
namespace Go.Proofs.Ytckbffbjdcnklaa
open Go.RowKit
set_option linter.unusedSimpArgs false
set_option linter.unusedVariables false

section
variable {K : Nat → Prop} {w w' : World} {tb xb room cnt lim : Nat} {T : Nat → Option P.Row} {fa : ByteArray → Option Nat} {fb : Int → Option Nat} {L : List QR} {v : Value}
theorem LAt.setV {f i : Nat} {q : QR} (h : LAt w v L) (e : v.ownBlock = some f) (hi : L[i]? = some q) (s : ByteArray) : LAt (w.setCell ⟨f, i * 4 + 3, none⟩ (.string s)) v (L.set i ⟨q.h, q.a, q.b, s⟩) := by
  rcases h with ⟨rfl, _⟩ | ⟨f', c, cur, rfl, g1, g2, g3, g4, g5⟩
  · cases e
  · obtain rfl : f' = f := by cases e; rfl
    have hil : i < L.length := (List.getElem?_eq_some_iff.1 hi).1
    refine .inr ⟨f', c, _, by rw [List.length_set], g1.set _ _, by simpa using g2, by rw [List.length_set]; exact g3, g4, fun j p k hj hk => ?_⟩
    rw [List.getElem?_set] at hj
    by_cases e : i = j
    · subst e
      rw [if_pos rfl, if_pos hil] at hj
      cases hj
      have h6 := g5 i q k hi hk
      match k, hk with
      | 0, _ => simpa [Array.getElem?_setIfInBounds, qf] using h6
      | 1, _ => simpa [Array.getElem?_setIfInBounds, qf] using h6
      | 2, _ => simpa [Array.getElem?_setIfInBounds, qf] using h6
      | 3, _ => simp [Array.getElem?_setIfInBounds, qf]; omega
    · rw [if_neg e] at hj
      have h6 := g5 j p k hj hk
      have n : i * 4 + 3 ≠ j * 4 + k := by omega
      simpa [Array.getElem?_setIfInBounds, n] using h6
theorem PZ.turnN {Z : Nat → Prop} {L' : List QR} (h : PZ Z K w tb xb room cnt lim T fa fb L v) (c : Chg (fun b => b = xb) w w') (x : XTN w' xb room L' w.heap.size) : PW K w' tb xb room cnt lim T fa fb L' ∧ Kept K w w' := by
  obtain ⟨v', h1, h2, h3⟩ := x
  exact h.turn c (fun b e => by subst e; exact ⟨h.zx, h.kx⟩) h1 h2 (fun f e => .inr (h3 f e))
theorem PW.remL (h : PW K w tb xb room cnt lim T fa fb L) (x : Nat) (r : P.Row) (hr : T x = some r) (hl : lim < 60000) : Calls Try.prog 46 #[.pointer (some ⟨tb, 0, none⟩), .int .i64 (x : Int)] w fun e w' => e = .returned (.bool true) ∧ PW K w' tb xb room (cnt - 1) (lim + 1) (P.setR T x none) (P.updF fa r.a none) (P.updF fb r.b none) L ∧ Kept K w w' := by
  obtain ⟨Z, v, h⟩ := h
  refine (h.tf.rem x r hr hl).mono ?_
  rintro e w' ⟨rfl, t⟩
  exact ⟨rfl, h.prog t⟩
theorem PW.remLno (h : PW K w tb xb room cnt lim T fa fb L) (x : Int) (hx : x < 0 ∨ T x.toNat = none) : Calls Try.prog 46 #[.pointer (some ⟨tb, 0, none⟩), .int .i64 x] w fun e w' => e = .returned (.bool false) ∧ PW K w' tb xb room cnt lim T fa fb L ∧ Kept K w w' := by
  have h0 := h
  obtain ⟨Z, v, h⟩ := h
  refine (h.tf.rem_no x hx).mono ?_
  rintro e w' ⟨rfl, rfl⟩
  exact ⟨rfl, h0, Chg.refl _ _⟩
theorem PW.remR (h : PW K w tb xb room cnt lim T fa fb L) (x i : Nat) (q : QR) (hl : L.length < 60000) (hb : ∀ (j : Nat) (q : QR), j < i → L[j]? = some q → ¬ (q.h : Int) = (x : Int)) (hq : L[i]? = some q) (hx : q.h = x) : Calls Try.prog 47 #[.pointer (some ⟨xb, 0, none⟩), .int .i64 (x : Int)] w fun e w' => e = .returned (.bool true) ∧ PW K w' tb xb room cnt lim T fa fb (L.take i ++ L.drop (i + 1)) ∧ Kept K w w' := by
  obtain ⟨Z, v, h⟩ := h
  refine (qrem_yes h.xt x i q hl hb hq hx).mono ?_
  rintro e w' ⟨rfl, t, c⟩
  exact ⟨rfl, h.turnN c t⟩
theorem PW.remRno (h : PW K w tb xb room cnt lim T fa fb L) (x : Int) (hl : L.length < 60000) (hb : ∀ (j : Nat) (q : QR), L[j]? = some q → ¬ (q.h : Int) = x) : Calls Try.prog 47 #[.pointer (some ⟨xb, 0, none⟩), .int .i64 x] w fun e w' => e = .returned (.bool false) ∧ PW K w' tb xb room cnt lim T fa fb L ∧ Kept K w w' := by
  have h0 := h
  obtain ⟨Z, v, h⟩ := h
  refine (qrem_no h.xt x (by omega) hb).mono ?_
  rintro e w' ⟨rfl, rfl⟩
  exact ⟨rfl, h0, Chg.refl _ _⟩
theorem PW.setL (h : PW K w tb xb room cnt lim T fa fb L) (x : Nat) (r : P.Row) (s : ByteArray) (hr : T x = some r) : Calls Try.prog 48 #[.pointer (some ⟨tb, 0, none⟩), .int .i64 (x : Int), .string s] w fun e w' => e = .returned (.bool true) ∧ PW K w' tb xb room cnt lim (P.setR T x (some ⟨r.a, r.b, s⟩)) fa fb L ∧ Kept K w w' := by
  obtain ⟨Z, v, h⟩ := h
  refine (h.tf.set_yes x r s hr).mono ?_
  rintro e w' ⟨rfl, t⟩
  exact ⟨rfl, h.prog t⟩
theorem PW.setLno (h : PW K w tb xb room cnt lim T fa fb L) (x : Int) (s : ByteArray) (hx : x < 0 ∨ T x.toNat = none) : Calls Try.prog 48 #[.pointer (some ⟨tb, 0, none⟩), .int .i64 x, .string s] w fun e w' => e = .returned (.bool false) ∧ PW K w' tb xb room cnt lim T fa fb L ∧ Kept K w w' := by
  have h0 := h
  obtain ⟨Z, v, h⟩ := h
  refine (h.tf.set_no x s hx).mono ?_
  rintro e w' ⟨rfl, rfl⟩
  exact ⟨rfl, h0, Chg.refl _ _⟩
theorem PW.setRt (h : PW K w tb xb room cnt lim T fa fb L) (x i : Nat) (q : QR) (s : ByteArray) (hl : L.length < 60000) (hb : ∀ (j : Nat) (q : QR), j < i → L[j]? = some q → ¬ (q.h : Int) = (x : Int)) (hq : L[i]? = some q) (hx : q.h = x) : Calls Try.prog 49 #[.pointer (some ⟨xb, 0, none⟩), .int .i64 (x : Int), .string s] w fun e w' => e = .returned (.bool true) ∧ PW K w' tb xb room cnt lim T fa fb (L.set i ⟨q.h, q.a, q.b, s⟩) ∧ Kept K w w' := by
  obtain ⟨Z, v, h⟩ := h
  refine (qset_yes h.xt x i q s (by omega) hb hq hx).mono ?_
  rintro e w' ⟨rfl, f, ⟨n, c, hc⟩, rfl⟩
  have c1 := h.hx.cell 1
  rw [hc] at c1
  simp at c1
  have ow : v.ownBlock = some f := by rw [← c1]; rfl
  have ff := h.own f ow
  exact ⟨rfl, h.turn (S := fun b => b = f) ((Chg.refl (fun b => b = f) w).set rfl _ _) (fun b e => by subst e; exact ff) (h.hx.setOther _ (fun e => by
    have hh := h.hx
    rcases h.hl with ⟨rfl, _⟩ | ⟨f', c', cur, rfl, g1, _⟩
    · cases ow
    · obtain rfl : f' = f := by cases ow; rfl
      rw [e] at hh
      have : (some (Obj.cells #[.int .i64 (room : Int), .slice (some ⟨f', 0, none⟩) L.length c'] 69 (0, 0)) : Option Obj) = some (Obj.cells cur 71 (0, 0)) := hh.symm.trans g1
      cases this) _) (h.hl.setV ow hq s) (fun k e => .inl e)⟩
theorem PW.setRno (h : PW K w tb xb room cnt lim T fa fb L) (x : Int) (s : ByteArray) (hl : L.length < 60000) (hb : ∀ (j : Nat) (q : QR), L[j]? = some q → ¬ (q.h : Int) = x) : Calls Try.prog 49 #[.pointer (some ⟨xb, 0, none⟩), .int .i64 x, .string s] w fun e w' => e = .returned (.bool false) ∧ PW K w' tb xb room cnt lim T fa fb L ∧ Kept K w w' := by
  have h0 := h
  obtain ⟨Z, v, h⟩ := h
  refine (qset_no h.xt x s (by omega) hb).mono ?_
  rintro e w' ⟨rfl, rfl⟩
  exact ⟨rfl, h0, Chg.refl _ _⟩
theorem PW.putL_old (h : PW K w tb xb room cnt lim T fa fb L) (a : ByteArray) (b : Int) (s : ByteArray) (ha : P.okA a) (hb : P.okB b) (ho : (fa a).isSome = true ∨ (fb b).isSome = true) : Calls Try.prog 34 #[.pointer (some ⟨tb, 0, none⟩), .string a, .int .i64 b, .string s] w fun e w' => e = .returned (.tuple #[.int .i64 0, .int .i64 20]) ∧ PW K w' tb xb room cnt lim T fa fb L ∧ Kept K w w' := by
  obtain ⟨Z, v, h⟩ := h
  refine (h.tf.put_old a b s ha hb ho).mono ?_
  rintro e w' ⟨rfl, t⟩
  exact ⟨rfl, h.prog t⟩
theorem PW.putL_full (h : PW K w tb xb room cnt lim T fa fb L) (a : ByteArray) (b : Int) (s : ByteArray) (ha : P.okA a) (hb : P.okB b) (h1 : fa a = none) (h2 : fb b = none) (hc : cnt = room) : Calls Try.prog 34 #[.pointer (some ⟨tb, 0, none⟩), .string a, .int .i64 b, .string s] w fun e w' => e = .returned (.tuple #[.int .i64 0, .int .i64 16]) ∧ PW K w' tb xb room cnt lim T fa fb L ∧ Kept K w w' := by
  obtain ⟨Z, v, h⟩ := h
  refine (h.tf.put_full a b s ha hb h1 h2 hc).mono ?_
  rintro e w' ⟨rfl, t⟩
  exact ⟨rfl, h.prog t⟩
theorem PW.putL_new (h : PW K w tb xb room cnt lim T fa fb L) (a : ByteArray) (b : Int) (s : ByteArray) (ha : P.okA a) (hb : P.okB b) (h1 : fa a = none) (h2 : fb b = none) (hc : cnt ≠ room) (hl : lim < 60000) (x : Nat) (hx : Least T x) : Calls Try.prog 34 #[.pointer (some ⟨tb, 0, none⟩), .string a, .int .i64 b, .string s] w fun e w' => e = .returned (.tuple #[.int .i64 (x : Int), .int .i64 0]) ∧ PW K w' tb xb room (cnt + 1) (lim + 1) (P.setR T x (some ⟨a, b, s⟩)) (P.updF fa a (some x)) (P.updF fb b (some x)) L ∧ Kept K w w' := by
  obtain ⟨Z, v, h⟩ := h
  refine (h.tf.put_new a b s ha hb h1 h2 hc hl).mono ?_
  rintro e w' ⟨y, rfl, hy, _, t⟩
  obtain rfl : y = x := by
    rcases Nat.lt_trichotomy y x with q | q | q
    · exact absurd hy.2.1 (hx.2.2 y hy.1 q)
    · exact q
    · exact absurd hx.2.1 (hy.2.2 x hx.1 q)
  exact ⟨rfl, h.prog t⟩
theorem TF.least {w0 : Base} (h : TF w0 w tb room cnt lim T fa fb) : ∃ x, Least T x := by
  obtain ⟨g, cap, am, bm, m, fo, n, H, vf, t1, t2, t3, t4, t5, t6, t7, t8, t9⟩ := h
  have hn : T (m + 1) = none := by
    cases q : T (m + 1) with
    | none => rfl
    | some r => have := (t1.okR _ r q).2.2.2; omega
  have : ∀ k, (∃ y, 1 ≤ y ∧ y ≤ k ∧ T y = none) → ∃ x, Least T x := by
    intro k
    induction k with
    | zero => rintro ⟨y, _, _, _⟩; omega
    | succ k ih =>
      intro hy
      by_cases e : ∃ y, 1 ≤ y ∧ y ≤ k ∧ T y = none
      · exact ih e
      · obtain ⟨y, y1, y2, y3⟩ := hy
        have hyk : y = k + 1 := by
          by_cases q : y ≤ k
          · exact absurd ⟨y, y1, q, y3⟩ e
          · omega
        subst hyk
        exact ⟨k + 1, y1, y3, fun z z1 z2 z3 => e ⟨z, z1, by omega, z3⟩⟩
  exact this (m + 1) ⟨m + 1, by omega, Nat.le_refl _, hn⟩
theorem PW.putR (h : PW K w tb xb room cnt lim T fa fb L) (a : ByteArray) (b : Int) (s : ByteArray) {oa ob : Option Nat} {ia ra ib rb : Nat} {sa sb : Bool} (hA : FoundA L a oa ia ra sa) (hB : FoundB L b ob ib rb sb) (hl : L.length < 60000) (e : Int) (x : Int) (L' : List QR)
    (hcase : (sa = true ∨ sb = true) ∧ x = 0 ∧ e = 20 ∧ L' = L ∨ sa = false ∧ sb = false ∧ L.length = room ∧ x = 0 ∧ e = 16 ∧ L' = L ∨ sa = false ∧ sb = false ∧ L.length ≠ room ∧ e = 0 ∧ ∃ i, LeastAt L i ∧ x = (i : Int) + 1 ∧ L' = L.take i ++ [⟨i + 1, a, b, s⟩] ++ L.drop i) :
    Calls Try.prog 54 #[.pointer (some ⟨xb, 0, none⟩), .string a, .int .i64 b, .string s] w fun e' w' => e' = .returned (.tuple #[.int .i64 x, .int .i64 e]) ∧ PW K w' tb xb room cnt lim T fa fb L' ∧ Kept K w w' := by
  have h0 := h
  obtain ⟨Z, v, h⟩ := h
  have cA := qbyA_c h.xt a ia ra sa hA.le (by omega) hA.no hA.yes hA.nil
  have cB := qbyB_c h.xt b ib rb sb hB.le (by omega) hB.no hB.yes hB.nil
  rcases hcase with ⟨hs, rfl, rfl, rfl⟩ | ⟨rfl, rfl, hr, rfl, rfl, rfl⟩ | ⟨rfl, rfl, hr, rfl, i, hi, rfl, rfl⟩
  · refine (qput_old h.xt a b s (by omega) ra rb sa sb cA cB hs).mono ?_
    rintro e w' ⟨rfl, rfl⟩
    exact ⟨rfl, h0, Chg.refl _ _⟩
  · refine (qput_full h.xt a b s ra rb cA cB (by omega)).mono ?_
    rintro e w' ⟨rfl, q, rfl⟩
    exact ⟨rfl, h0.drewN q, (Chg.refl _ _).dr q⟩
  · refine (qput_new h.xt a b s hl ra rb i cA cB (by omega) hi.le hi.before hi.here).mono ?_
    rintro e w' ⟨rfl, t, c⟩
    exact ⟨rfl, h.turnN c t⟩
def PSx (K : Nat → Prop) (tb xb room : Nat) (c0 c1 l0 l1 : Nat) (T0 T1 : Nat → Option P.Row) (A0 A1 : ByteArray → Option Nat) (B0 B1 : Int → Option Nat) (L0 L1 : List QR) (i j : Bool) (W : World) : Prop :=
  PW K W tb xb room (bif i then c1 else c0) (bif i then l1 else l0) (bif i then T1 else T0) (bif i then A1 else A0) (bif i then B1 else B0) (bif j then L1 else L0)
/-- Both tables, with the same things in them. -/
def QW (K : Nat → Prop) (w : World) (tb xb room lim : Nat) (L : List QR) : Prop := ∃ T fa fb, PW K w tb xb room L.length lim T fa fb L ∧ Rep T L
def deedV (k h b : Int) (a v : ByteArray) : Value := .agg #[.int .i64 k, .int .i64 h, .string a, .int .i64 b, .string v]
theorem does_c (h : QW K w tb xb room lim L) (hl : lim < 60000) (k x b : Int) (a s : ByteArray) (hlo : -9223372036854775808 ≤ k) (hhi : k ≤ 9223372036854775807) (ha : P.okA a) (hb : P.okB b) :
    Calls Try.prog 31 #[.pointer (some ⟨tb, 0, none⟩), .pointer (some ⟨xb, 0, none⟩), deedV k x b a s] w fun e w' => e = .returned (.bool true) ∧ ∃ L', QW K w' tb xb room (lim + 1) L' ∧ Kept K w w' := by
  obtain ⟨T, fa, fb, h, rp⟩ := h
  have names := (show TF _ _ _ _ _ _ _ _ _ from (Classical.choose_spec (Classical.choose_spec h)).tf).names
  have hle : L.length ≤ lim := (Classical.choose_spec (Classical.choose_spec h)).tf.cntle
  have hLs : ∃ x, Least T x := (Classical.choose_spec (Classical.choose_spec h)).tf.least
  have hp := h.push (.cells #[.int .i64 k, .int .i64 x, .string a, .int .i64 b, .string s] 66)
  have hup := hp.up (Nat.le_succ lim)
  have KB : Kept K w (boxed w k x b a s) := (Chg.refl _ w).alloc _
  have fin : ∀ {w' : World} {T' : Nat → Option P.Row} {fa' : ByteArray → Option Nat} {fb' : Int → Option Nat} {L' : List QR} {c' : Nat}, PW (fun b => K b ∨ b = w.heap.size) w' tb xb room c' (lim + 1) T' fa' fb' L' → L'.length = c' → Kept (fun b => K b ∨ b = w.heap.size) (boxed w k x b a s) w' → Rep T' L' → ∃ L', QW K w' tb xb room (lim + 1) L' ∧ Kept K w w' := fun {w'} {T'} {fa'} {fb'} {L'} {c'} p e c r =>
    ⟨L', ⟨T', fa', fb', by rw [e]; exact p.mono (fun b q => .inl q), r⟩, KB.trans (c.mono (fun b _ q q2 => q (.inl q2)))⟩
  have hln : L.length < 60000 := by omega
  have hk : deedK k = 0 ∨ deedK k = 1 ∨ deedK k = 2 ∨ deedK k = 3 ∨ deedK k = 4 ∨ deedK k = 5 ∨ deedK k = 6 ∨ deedK k = 7 := by
    unfold deedK
    split <;> omega
  have hx : (x < 0 ∨ T x.toNat = none) ∨ ∃ n r, x = ((n : Nat) : Int) ∧ T n = some r := by
    by_cases q : x < 0
    · exact .inl (.inl q)
    · cases e : T x.toNat with
      | none => exact .inl (.inr rfl)
      | some r => exact .inr ⟨x.toNat, r, by omega, e⟩
  have PUT : (deedK k = 0 ∨ deedK k = 1 ∨ deedK k = 2) → Calls Try.prog 31 #[.pointer (some ⟨tb, 0, none⟩), .pointer (some ⟨xb, 0, none⟩), deedV k x b a s] w fun e w' => e = .returned (.bool true) ∧ ∃ L', QW K w' tb xb room (lim + 1) L' ∧ Kept K w w' := by
    intro hk
    obtain ⟨ia, ra, sa, hA⟩ := rp.findA (fun y => names.1 a y ha)
    obtain ⟨ib, rb, sb, hB⟩ := rp.findB (fun y => names.2.1 b y hb)
    by_cases ho : (fa a).isSome = true ∨ (fb b).isSome = true
    · refine (does_put (K := fun b => K b ∨ b = w.heap.size) (PS := PSx (fun b => K b ∨ b = w.heap.size) tb xb room L.length L.length lim (lim + 1) T T fa fa fb fb L L) 0 20 _ hk rfl hlo hhi (.inr rfl) (fun j W h => ?_) (fun i W h => ?_) hp (fun i j W h => PW.drew h)).mono ?_
      · refine (PW.putL_old h a b s ha hb ho).mono ?_
        rintro e w' ⟨rfl, p, c⟩
        exact ⟨rfl, p.up (Nat.le_succ lim), c⟩
      · exact PW.putR h a b s hA hB hln 20 0 L (.inl ⟨by rw [hA.s, hB.s]; exact ho, rfl, rfl, rfl⟩)
      · rintro e w' ⟨rfl, p, c⟩
        exact ⟨rfl, fin p rfl c rp⟩
    · have h1 : fa a = none := by cases q : fa a with | none => rfl | some y => exact absurd (.inl (by rw [q]; rfl)) ho
      have h2 : fb b = none := by cases q : fb b with | none => rfl | some y => exact absurd (.inr (by rw [q]; rfl)) ho
      have s1 : sa = false := by rw [hA.s, h1]; rfl
      have s2 : sb = false := by rw [hB.s, h2]; rfl
      by_cases hf : L.length = room
      · refine (does_put (K := fun b => K b ∨ b = w.heap.size) (PS := PSx (fun b => K b ∨ b = w.heap.size) tb xb room L.length L.length lim (lim + 1) T T fa fa fb fb L L) 0 16 _ hk rfl hlo hhi (.inr rfl) (fun j W h => ?_) (fun i W h => ?_) hp (fun i j W h => PW.drew h)).mono ?_
        · refine (PW.putL_full h a b s ha hb h1 h2 hf).mono ?_
          rintro e w' ⟨rfl, p, c⟩
          exact ⟨rfl, p.up (Nat.le_succ lim), c⟩
        · exact PW.putR h a b s hA hB hln 16 0 L (.inr (.inl ⟨s1, s2, hf, rfl, rfl, rfl⟩))
        · rintro e w' ⟨rfl, p, c⟩
          exact ⟨rfl, fin p rfl c rp⟩
      · obtain ⟨y, hy⟩ := hLs
        have hyn := hy.2.1
        obtain ⟨i, rfl, hi⟩ := rp.least names.2.2 hy
        have rp2 := rp.put (r := ⟨a, b, s⟩) hyn hi
        have hil := hi.le
        have e1 : (L.take i ++ [qrow (i + 1) ⟨a, b, s⟩] ++ L.drop i).length = L.length + 1 := by
          rw [List.length_append, List.length_append, List.length_take, List.length_drop, List.length_singleton]; omega
        refine (does_put (K := fun b => K b ∨ b = w.heap.size) (PS := PSx (fun b => K b ∨ b = w.heap.size) tb xb room L.length (L.length + 1) lim (lim + 1) T (P.setR T (i + 1) (some ⟨a, b, s⟩)) fa (P.updF fa a (some (i + 1))) fb (P.updF fb b (some (i + 1))) L (L.take i ++ [qrow (i + 1) ⟨a, b, s⟩] ++ L.drop i)) ((i : Int) + 1) 0 _ hk rfl hlo hhi (.inr rfl) (fun j W h => ?_) (fun i' W h => ?_) hp (fun i j W h => PW.drew h)).mono ?_
        · exact PW.putL_new h a b s ha hb h1 h2 hf hl (i + 1) hy
        · exact PW.putR h a b s hA hB hln 0 ((i : Int) + 1) _ (.inr (.inr ⟨s1, s2, hf, rfl, i, hi, rfl, rfl⟩))
        · rintro e w' ⟨rfl, p, c⟩
          exact ⟨rfl, fin p e1 c rp2⟩
  have REM : (deedK k = 3 ∨ deedK k = 4) → Calls Try.prog 31 #[.pointer (some ⟨tb, 0, none⟩), .pointer (some ⟨xb, 0, none⟩), deedV k x b a s] w fun e w' => e = .returned (.bool true) ∧ ∃ L', QW K w' tb xb room (lim + 1) L' ∧ Kept K w w' := by
    intro hk
    rcases hx with hx | ⟨n, r, rfl, hr⟩
    · refine (does_rem (K := fun b => K b ∨ b = w.heap.size) (PS := PSx (fun b => K b ∨ b = w.heap.size) tb xb room L.length L.length lim (lim + 1) T T fa fa fb fb L L) false _ hk rfl hlo hhi (.inr rfl) (fun j W h => ?_) (fun i W h => ?_) hp (fun i j W h => PW.drew h)).mono ?_
      · refine (PW.remLno h x hx).mono ?_
        rintro e w' ⟨rfl, p, c⟩
        exact ⟨rfl, p.up (Nat.le_succ lim), c⟩
      · exact PW.remRno h x hln (fun j q hq => rp.absent' hx j q hq)
      · rintro e w' ⟨rfl, p, c⟩
        exact ⟨rfl, fin p rfl c rp⟩
    · obtain ⟨i, hi⟩ := rp.idx hr
      have rp2 := rp.rem hi
      have hil : i < L.length := (List.getElem?_eq_some_iff.1 hi).1
      have e1 : (L.take i ++ L.drop (i + 1)).length = L.length - 1 := by
        rw [List.length_append, List.length_take, List.length_drop]; omega
      refine (does_rem (K := fun b => K b ∨ b = w.heap.size) (PS := PSx (fun b => K b ∨ b = w.heap.size) tb xb room L.length (L.length - 1) lim (lim + 1) T (P.setR T n none) fa (P.updF fa r.a none) fb (P.updF fb r.b none) L (L.take i ++ L.drop (i + 1))) true _ hk rfl hlo hhi (.inr rfl) (fun j W h => ?_) (fun i' W h => ?_) hp (fun i j W h => PW.drew h)).mono ?_
      · exact PW.remL h n r hr hl
      · exact PW.remR h n i (qrow n r) hln (fun j q hj hq => rp.idx_lt hi j q hj hq) hi rfl
      · rintro e w' ⟨rfl, p, c⟩
        exact ⟨rfl, fin p e1 c rp2⟩
  rcases hk with hk | hk | hk | hk | hk | hk | hk | hk
  · exact PUT (.inl hk)
  · exact PUT (.inr (.inl hk))
  · exact PUT (.inr (.inr hk))
  · exact REM (.inl hk)
  · exact REM (.inr hk)
  · rcases hx with hx | ⟨n, r, rfl, hr⟩
    · refine (does_set (K := fun b => K b ∨ b = w.heap.size) (PS := PSx (fun b => K b ∨ b = w.heap.size) tb xb room L.length L.length lim (lim + 1) T T fa fa fb fb L L) false _ hk rfl hlo hhi (.inr rfl) (fun j W h => ?_) (fun i W h => ?_) hp (fun i j W h => PW.drew h)).mono ?_
      · refine (PW.setLno h x s hx).mono ?_
        rintro e w' ⟨rfl, p, c⟩
        exact ⟨rfl, p.up (Nat.le_succ lim), c⟩
      · exact PW.setRno h x s hln (fun j q hq => rp.absent' hx j q hq)
      · rintro e w' ⟨rfl, p, c⟩
        exact ⟨rfl, fin p rfl c rp⟩
    · obtain ⟨i, hi⟩ := rp.idx hr
      have rp2 := rp.set hr hi s
      have e1 : (L.set i ⟨n, r.a, r.b, s⟩).length = L.length := List.length_set
      refine (does_set (K := fun b => K b ∨ b = w.heap.size) (PS := PSx (fun b => K b ∨ b = w.heap.size) tb xb room L.length L.length lim (lim + 1) T (P.setR T n (some ⟨r.a, r.b, s⟩)) fa fa fb fb L (L.set i ⟨n, r.a, r.b, s⟩)) true _ hk rfl hlo hhi (.inr rfl) (fun j W h => ?_) (fun i' W h => ?_) hp (fun i j W h => PW.drew h)).mono ?_
      · refine (PW.setL h n r s hr).mono ?_
        rintro e w' ⟨rfl, p, c⟩
        exact ⟨rfl, p.up (Nat.le_succ lim), c⟩
      · exact PW.setRt h n i (qrow n r) s hln (fun j q hj hq => rp.idx_lt hi j q hj hq) hi rfl
      · rintro e w' ⟨rfl, p, c⟩
        exact ⟨rfl, fin p e1 c rp2⟩
  · obtain ⟨Z, v, hz⟩ := hp
    rcases hx with hx | ⟨n, r, rfl, hr⟩
    · refine (does_get (PS := fun _ _ W => W = boxed w k x b a s) ⟨#[]⟩ false _ hk rfl hlo hhi (fun W e => ?_) (fun W e => ?_) rfl).mono ?_
      · subst e; exact hz.tf.get_no x hx
      · subst e; exact qget_no hz.xt x (by omega) (fun j q hq => rp.absent' hx j q hq)
      · rintro e w' ⟨rfl, rfl⟩
        exact ⟨rfl, fin hup rfl (Chg.refl _ _) rp⟩
    · obtain ⟨i, hi⟩ := rp.idx hr
      refine (does_get (PS := fun _ _ W => W = boxed w k n b a s) r.v true _ hk rfl hlo hhi (fun W e => ?_) (fun W e => ?_) rfl).mono ?_
      · subst e; exact hz.tf.get_yes n r hr
      · subst e; exact qget_yes hz.xt n i (qrow n r) (by omega) (fun j q hj hq => rp.idx_lt hi j q hj hq) hi rfl
      · rintro e w' ⟨rfl, rfl⟩
        exact ⟨rfl, fin hup rfl (Chg.refl _ _) rp⟩
  · obtain ⟨Z, v, hz⟩ := hp
    obtain ⟨ia, ra, sa, hA⟩ := rp.findA (fun y => names.1 a y ha)
    obtain ⟨ib, rb, sb, hB⟩ := rp.findB (fun y => names.2.1 b y hb)
    refine (does_by (PS := fun _ _ W => W = boxed w k x b a s) ra rb sa sb _ hk rfl hlo hhi (fun W e => ?_) (fun W e => ?_) (fun W e => ?_) (fun W e => ?_) rfl).mono ?_
    · subst e; rw [hA.r, hA.s]; exact hz.tf.byA a ha
    · subst e; exact qbyA_c hz.xt a ia ra sa hA.le (by omega) hA.no hA.yes hA.nil
    · subst e; rw [hB.r, hB.s]; exact hz.tf.byB b hb
    · subst e; exact qbyB_c hz.xt b ib rb sb hB.le (by omega) hB.no hB.yes hB.nil
    · rintro e w' ⟨rfl, rfl⟩
      exact ⟨rfl, fin hup rfl (Chg.refl _ _) rp⟩
end
end Go.Proofs.Ytckbffbjdcnklaa
