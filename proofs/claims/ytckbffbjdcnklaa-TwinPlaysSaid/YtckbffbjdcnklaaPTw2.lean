/- A table in memory (instance P): Get, Set, Put, Remove. -/
import Derived.Test.YtckbffbjdcnklaaPTw1
namespace Go.Proofs.Ytckbffbjdcnklaa.P
open Go.RowKit
set_option linter.unusedSimpArgs false
set_option linter.unusedVariables false

section
variable {w0 : Base} {w w' : World} {tb g cap am bm room m cnt : Nat} {R : Nat → Option Row} {fa : ByteArray → Option Nat} {fb : Int → Option Nat} {fr : Value}
set_option maxHeartbeats 800000 in
theorem get_yes (h : TS w0 w tb g cap am bm room m cnt R fa fb fr) (x : Nat) (r : Row) (hr : R x = some r) : Calls Try.prog 36 #[.pointer (some ⟨tb, 0, none⟩), .int .i64 x] w fun e w' => e = .returned (.tuple #[vV r.v, .bool true]) ∧ w = w' := by
  have ha := at_yes h x r hr
  obtain ⟨_, _, r1, r2⟩ := h.okR x r hr
  have cc := h.rows.cell (x := x) (k := 2) r2 (by omega)
  rw [hr] at cc
  have cd : w.cell? ⟨g, x * 4 + 2, none⟩ = some (vV r.v) := cc
  have HA := Lib.hid ha
  unfold vV at *
  clear h hr cc ha
  go_enter Try.func36, Try.ntmps36
  go_wp2_with fail
  refine (HA.out).mono ?_
  rintro e w' ⟨rfl, rfl⟩
  go_wp2
  go_ret2
  exact ⟨rfl, rfl⟩
set_option maxHeartbeats 800000 in
theorem get_no (h : TS w0 w tb g cap am bm room m cnt R fa fb fr) (x : Int) (hx : x < 1 ∨ (m : Int) < x ∨ R x.toNat = none) : Calls Try.prog 36 #[.pointer (some ⟨tb, 0, none⟩), .int .i64 x] w fun e w' => e = .returned (.tuple #[zV, .bool false]) ∧ w = w' := by
  have HA := Lib.hid (at_no h x hx)
  unfold zV at *
  clear h hx
  go_enter Try.func36, Try.ntmps36
  go_wp2_with fail
  refine (HA.out).mono ?_
  rintro e w' ⟨rfl, rfl⟩
  go_wp2
  go_ret2
  exact ⟨rfl, rfl⟩
theorem infoR : (Try.prog.info? 109).map (fun i => (i.zero, i.size, i.bytes)) = some (some (.agg #[zA, zB, zV, .bool false]), 4, 48) := by kernel_rfl
/-- One row set. -/
def setR (R : Nat → Option Row) (x : Nat) (r : Option Row) : Nat → Option Row := fun y => if y = x then r else R y
theorem RowsAt.put (h : RowsAt w g cap m R) {x : Nat} (hx : x ≤ m) (r : Option Row) (a b c d : Value) (e0 : fld r 0 = a) (e1 : fld r 1 = b) (e2 : fld r 2 = c) (e3 : fld r 3 = d) {w' : World} {cur : Array Value}
    (hw : ∀ cur : Array Value, w.heap[g]? = some (.cells cur 109 (0, 0)) → w'.heap[g]? = some (.cells ((((cur.setIfInBounds (x * 4) a).setIfInBounds (x * 4 + 1) b).setIfInBounds (x * 4 + 2) c).setIfInBounds (x * 4 + 3) d) 109 (0, 0))) : RowsAt w' g cap m (setR R x r) := by
  obtain ⟨cur, h1, h2, h3, h4, h5⟩ := h
  refine ⟨_, hw cur h1, by simpa using h2, h3, h4, fun y k hy hk => ?_⟩
  have hsz : x * 4 + 3 < cur.size := by omega
  have h6 := h5 y k hy hk
  by_cases e : y = x
  · subst e
    unfold setR
    rw [if_pos rfl]
    match k, hk with
    | 0, _ => simp [Array.getElem?_setIfInBounds, e0]; omega
    | 1, _ => simp [Array.getElem?_setIfInBounds, e1]; omega
    | 2, _ => simp [Array.getElem?_setIfInBounds, e2]; omega
    | 3, _ => simp [Array.getElem?_setIfInBounds, e3]; omega
  · unfold setR
    rw [if_neg e]
    rw [← h6]
    have n0 : x * 4 ≠ y * 4 + k := by omega
    have n1 : x * 4 + 1 ≠ y * 4 + k := by omega
    have n2 : x * 4 + 2 ≠ y * 4 + k := by omega
    have n3 : x * 4 + 3 ≠ y * 4 + k := by omega
    simp [Array.getElem?_setIfInBounds, n0, n1, n2, n3]
/-- The rows behind an append. -/
theorem RowsAt.own (h : RowsAt w g cap m R) : ∃ xs, w.ownsRow g 109 4 (.slice (some ⟨g, 0, none⟩) (m + 1) cap) (m + 1) xs ∧ ∀ y k, y ≤ m → k < 4 → xs[y * 4 + k]? = some (fld (R y) k) := by
  obtain ⟨cur, h1, h2, h3, h4, h5⟩ := h
  refine ⟨cur.toList.take ((m + 1) * 4), ⟨?_, .inr ⟨g, cap, cur, rfl, Nat.le_refl _, h1, h3, h4, h2, rfl⟩⟩, fun y k hy hk => ?_⟩
  · simp; omega
  · rw [List.getElem?_take, if_pos (by omega)]
    simpa using h5 y k hy hk
theorem RowsAt.of_own {base g' cap' : Nat} {xs : List Value} (h : w'.ownsRow base 109 4 (.slice (some ⟨g', 0, none⟩) (m + 1 + 1) cap') (m + 1 + 1) (xs ++ [zA, zB, zV, .bool false])) (hl : xs.length = (m + 1) * 4) (hx : ∀ y k, y ≤ m → k < 4 → xs[y * 4 + k]? = some (fld (R y) k)) (hn : R (m + 1) = none) : RowsAt w' g' cap' (m + 1) R := by
  rcases h.2 with ⟨q, _⟩ | ⟨g2, c2, cur, e, _, h1, h3, h4, h2, h5⟩
  · simp at q
  · cases e
    refine ⟨cur, h1, h2, by omega, h4, fun y k hy hk => ?_⟩
    have h6 : (cur.toList.take ((m + 1 + 1) * 4))[y * 4 + k]? = cur[y * 4 + k]? := by
      rw [List.getElem?_take, if_pos (by omega)]
      simp
    rw [← h6, h5]
    by_cases e : y ≤ m
    · rw [List.getElem?_append_left (by omega)]
      exact hx y k e hk
    · obtain rfl : y = m + 1 := by omega
      rw [List.getElem?_append_right (by omega), hl, hn]
      match k, hk with
      | 0, _ => simp [fld]
      | 1, _ => simp [fld]
      | 2, _ => simp [fld]
      | 3, _ => simp [fld]
open Classical in
/-- A name gets a handle. -/
noncomputable def updF {α : Type} (f : α → Option Nat) (x : α) (v : Option Nat) : α → Option Nat := fun y => if y = x then v else f y
theorem updF_same {α : Type} (f : α → Option Nat) (x : α) (v : Option Nat) : updF f x v x = v := by simp [updF]
theorem updF_other {α : Type} (f : α → Option Nat) {x y : α} (v : Option Nat) (h : y ≠ x) : updF f x v y = f y := by simp [updF, h]
theorem putA {M : Lit → Option Value} {fa : ByteArray → Option Nat} (hM : ∀ x, okA x → M (kA x) = (fa x).map fun (h : Nat) => .int .i64 (h : Int)) (a : ByteArray) (u : Option Nat) (v : Option Value) (hv : v = u.map fun (h : Nat) => .int .i64 (h : Int)) : ∀ x, okA x → putM M (kA a) v (kA x) = (updF fa a u x).map fun (h : Nat) => .int .i64 (h : Int) := by
  intro x hx
  by_cases e : x = a
  · subst e; rw [putM_same, updF_same, hv]
  · rw [putM_other _ _ (fun q => e (kA_inj q)), updF_other _ _ e, hM x hx]
theorem putB {M : Lit → Option Value} {fb : Int → Option Nat} (hM : ∀ x, okB x → M (kB x) = (fb x).map fun (h : Nat) => .int .i64 (h : Int)) (a : Int) (u : Option Nat) (v : Option Value) (hv : v = u.map fun (h : Nat) => .int .i64 (h : Int)) : ∀ x, okB x → putM M (kB a) v (kB x) = (updF fb a u x).map fun (h : Nat) => .int .i64 (h : Int) := by
  intro x hx
  by_cases e : x = a
  · subst e; rw [putM_same, updF_same, hv]
  · rw [putM_other _ _ (fun q => e (kB_inj q)), updF_other _ _ e, hM x hx]
theorem coA_put {R : Nat → Option Row} {fa : ByteArray → Option Nat} (co : ∀ x h, okA x → (fa x = some h ↔ ∃ r, R h = some r ∧ r.a = x)) (n : Nat) (r : Row) (hn : R n = none) (h1 : fa r.a = none) : ∀ x h, okA x → (updF fa r.a (some n) x = some h ↔ ∃ s, setR R n (some r) h = some s ∧ s.a = x) := by
  intro x h hx
  by_cases e : x = r.a
  · subst e
    rw [updF_same]
    constructor
    · intro q; cases q; exact ⟨r, by simp [setR], rfl⟩
    · rintro ⟨s, q1, q2⟩
      unfold setR at q1
      split at q1
      · subst_vars; rfl
      · have := (co _ h hx).2 ⟨s, q1, q2⟩; rw [h1] at this; cases this
  · rw [updF_other _ _ e, co x h hx]
    unfold setR
    constructor
    · rintro ⟨s, q1, q2⟩
      refine ⟨s, ?_, q2⟩
      split
      · subst_vars; rw [hn] at q1; cases q1
      · exact q1
    · rintro ⟨s, q1, q2⟩
      split at q1
      · cases q1; exact absurd q2.symm e
      · exact ⟨s, q1, q2⟩
theorem coB_put {R : Nat → Option Row} {fb : Int → Option Nat} (co : ∀ x h, okB x → (fb x = some h ↔ ∃ r, R h = some r ∧ r.b = x)) (n : Nat) (r : Row) (hn : R n = none) (h1 : fb r.b = none) : ∀ x h, okB x → (updF fb r.b (some n) x = some h ↔ ∃ s, setR R n (some r) h = some s ∧ s.b = x) := by
  intro x h hx
  by_cases e : x = r.b
  · subst e
    rw [updF_same]
    constructor
    · intro q; cases q; exact ⟨r, by simp [setR], rfl⟩
    · rintro ⟨s, q1, q2⟩
      unfold setR at q1
      split at q1
      · subst_vars; rfl
      · have := (co _ h hx).2 ⟨s, q1, q2⟩; rw [h1] at this; cases this
  · rw [updF_other _ _ e, co x h hx]
    unfold setR
    constructor
    · rintro ⟨s, q1, q2⟩
      refine ⟨s, ?_, q2⟩
      split
      · subst_vars; rw [hn] at q1; cases q1
      · exact q1
    · rintro ⟨s, q1, q2⟩
      split at q1
      · cases q1; exact absurd q2.symm e
      · exact ⟨s, q1, q2⟩
set_option maxRecDepth 100000 in
set_option maxHeartbeats 800000 in
theorem put_old (h : TS w0 w tb g cap am bm room m cnt R fa fb fr) (a : ByteArray) (b : Int) (v : ByteArray) (ha : okA a) (hb : okB b) (ho : (fa a).isSome = true ∨ (fb b).isSome = true) :
    Calls Try.prog 34 #[.pointer (some ⟨tb, 0, none⟩), vA a, vB b, vV v] w fun e w' => e = .returned (.tuple #[.int .i64 0, .int .i64 20]) ∧ w = w' := by
  have c3 := h.head.cell 3
  have c4 := h.head.cell 4
  have la := h.lookA ha
  have lb := h.lookB hb
  simp at c3 c4
  generalize (fa a).getD 0 = q1 at la
  generalize (fb b).getD 0 = q2 at lb
  generalize (fa a).isSome = s1 at la ho
  generalize (fb b).isSome = s2 at lb ho
  unfold vA vB vV at *
  clear h ha hb
  cases s1
  · obtain rfl : s2 = true := by simpa using ho
    clear ho
    go_enter Try.func34, Try.ntmps34
    go_wp2
    go_ret2
    exact ⟨rfl, rfl⟩
  · clear ho
    cases s2
    all_goals
      go_enter Try.func34, Try.ntmps34
      go_wp2
      go_ret2
      exact ⟨rfl, rfl⟩
set_option maxRecDepth 100000 in
set_option maxHeartbeats 1600000 in
theorem put_new (h : TS w0 w tb g cap am bm room m cnt R fa fb (.slice none 0 0)) (a : ByteArray) (b : Int) (v : ByteArray) (ha : okA a) (hb : okB b) (h1 : fa a = none) (h2 : fb b = none) (hc : cnt ≠ room) (hm : m < 70000) (hcc : cnt < 70000) :
    Calls Try.prog 34 #[.pointer (some ⟨tb, 0, none⟩), vA a, vB b, vV v] w fun e w' => ∃ g2 cap2, e = .returned (.tuple #[.int .i64 ((m : Int) + 1), .int .i64 0]) ∧ TS w0 w' tb g2 cap2 am bm room (m + 1) (cnt + 1) (setR R (m + 1) (some ⟨a, b, v⟩)) (updF fa a (some (m + 1))) (updF fb b (some (m + 1))) (.slice none 0 0) := by
  have c0 := h.head.cell 0
  have c1 := h.head.cell 1
  have c2 := h.head.cell 2
  have c3 := h.head.cell 3
  have c4 := h.head.cell 4
  have la := h.lookA ha
  have lb := h.lookB hb
  rw [h1] at la
  rw [h2] at lb
  simp at c0 c1 c2 c3 c4 la lb
  have hl := fun W hW => len_c (w := W) (h.grow (w' := W) hW)
  have HL := Lib.hid hl
  have hne : ((cnt : Int) == (room : Int)) = false := by simp; omega
  have HS := Lib.hid h
  unfold vA vB vV at *
  clear h hl
  go_enter Try.func34, Try.ntmps34
  go_wp2_with fail
  go_quiet ((go_at_call 32; exact Calls.quiet_of_same ((HL.out _ (bel_dr (Below.refl _ _) _)).mono (fun _ _ q => And.intro q.1 q.2.symm))))
  obtain ⟨wd, hwd⟩ : ∃ wd, wd = w.drewN nq := ⟨_, rfl⟩
  have TD : TS w0 wd tb g cap am bm room m cnt R fa fb (.slice none 0 0) := by rw [hwd]; exact HS.out.grow (bel_dr (Below.refl _ _) _)
  rw [← hwd]
  clear hwd c0 c1 c2 c3 c4 la lb HL hne HS
  have c1 := TD.head.cell 1
  have c2 := TD.head.cell 2
  simp at c1 c2
  obtain ⟨xs, own, hxs⟩ := TD.rows.own
  obtain ⟨i0, hi0, hz0, hs0, hb0⟩ := info_parts infoR
  have hgl := TD.rows.lt
  have HZ : Hid (m + 1 + 1 ≤ maxLen ∧ (m + 1 + 1) * 48 ≤ 140737488355328) := ⟨by unfold maxLen; omega, by omega⟩
  have HX := Lib.hid hxs
  have T0 := Lib.hid TD
  clear TD hxs
  unfold zA zB zV at hz0
  go_wp2_with (at_builtin; go_loud (refine wpList_append_lies _ rfl _ _ 103 rfl g 109 i0 _ 4 48 Try.underlying103 hi0 hz0 hs0 hb0 rfl (by decide) _ _ _ rfl (own.alloc _) ⟨wd.heap.size, 0, none⟩ 1 1 [.string ⟨#[]⟩, .int .i64 0, .string ⟨#[]⟩, .bool false] rfl rfl (World.news_of_block (cs := #[.string ⟨#[]⟩, .int .i64 0, .string ⟨#[]⟩, .bool false]) (t := 109) (fr := (0, 0)) (heap_alloc_new wd _)) (by simp [Value.oneCell']) (by omega) HZ.out.1 HZ.out.2 (by simp; omega) (wd.heap.size + 1) (by simp) ?_))
  intro g2 cap2 w5 own5 grow5 hat5 hlt5
  have hn : R (m + 1) = none := by
    cases q : R (m + 1) with
    | none => rfl
    | some r => have := (T0.out.okR _ r q).2.2.2; omega
  have rows5 : RowsAt w5 g2 cap2 (m + 1) R := RowsAt.of_own (by unfold zA zB zV; exact own5) own.1 HX.out hn
  have C5 : Chg (fun b => b = g) wd w5 := ((Chg.refl _ wd).alloc _).trans (Chg.grown grow5 (fun k e => by cases e; rfl))
  have NE := T0.out.ne
  have tl := T0.out.head.lt
  have al := T0.out.alt
  have bl := T0.out.blt
  have G2 : Hid (g2 = g ∨ g2 = wd.heap.size + 1) := by
    rcases hat5 with q | q
    · exact .inl (by cases q; rfl)
    · exact .inr q
  have head5 := (C5.block tb tl NE.1).trans T0.out.head
  have k1 : w5.cell? ⟨tb, 1, none⟩ = _ := Has.cell head5 1
  have f1 : w5.frozen? ⟨tb, 1, none⟩ = false := Has.free head5 1
  have fg := rows5.free ((m + 1) * 4)
  have fg1 := rows5.free ((m + 1) * 4 + 1)
  have fg2 := rows5.free ((m + 1) * 4 + 2)
  have fg3 := rows5.free ((m + 1) * 4 + 3)
  have e0 := rows5.cell (x := m + 1) (k := 0) (by omega) (by omega)
  have e1 := rows5.cell (x := m + 1) (k := 1) (by omega) (by omega)
  have e2 := rows5.cell (x := m + 1) (k := 2) (by omega) (by omega)
  have e3 := rows5.cell (x := m + 1) (k := 3) (by omega) (by omega)
  simp at k1 e0
  have gt2 : g2 ≠ tb := by have := G2.out; omega
  have HR5 := Lib.hid rows5
  have HC5 := Lib.hid C5
  have HH5 := Lib.hid head5
  have him : ((m : Int) + 1) < ((m : Int) + 1 + 1) := by omega
  clear own5 grow5 hat5 rows5 C5 head5
  go_wp2_with fail
  obtain ⟨w8, hw8⟩ : ∃ w8, w8 = ((((w5.setCell ⟨tb, 1, none⟩ (.slice (some ⟨g2, 0, none⟩) (m + 1 + 1) cap2)).setCell ⟨g2, (m + 1) * 4, none⟩ (.string a)).setCell ⟨g2, (m + 1) * 4 + 1, none⟩ (.int .i64 b)).setCell ⟨g2, (m + 1) * 4 + 2, none⟩ (.string v)).setCell ⟨g2, (m + 1) * 4 + 3, none⟩ (.bool true) := ⟨_, rfl⟩
  rw [← hw8]
  have E8 : ∀ c, c ≠ tb → c ≠ g2 → w8.heap[c]? = w5.heap[c]? := fun c n1 n2 => by
    rw [hw8]
    exact (Below.heap_setCell _ _ _ _ n2).trans ((Below.heap_setCell _ _ _ _ n2).trans ((Below.heap_setCell _ _ _ _ n2).trans ((Below.heap_setCell _ _ _ _ n2).trans (Below.heap_setCell _ _ _ _ n1))))
  have head8 : Has w8 tb 105 #[.int .i64 room, .slice (some ⟨g2, 0, none⟩) (m + 1 + 1) cap2, .slice none 0 0, .map (some am), .map (some bm)] := by
    rw [hw8]
    exact (((((Has.set (HH5.out : Has w5 tb _ _) 1 (.slice (some ⟨g2, 0, none⟩) (m + 1 + 1) cap2)).setOther _ (Ne.symm gt2) _).setOther _ (Ne.symm gt2) _).setOther _ (Ne.symm gt2) _).setOther _ (Ne.symm gt2) _)
  have rows8 : RowsAt w8 g2 cap2 (m + 1) (setR R (m + 1) (some ⟨a, b, v⟩)) := by
    refine HR5.out.put (Nat.le_refl _) _ (.string a) (.int .i64 b) (.string v) (.bool true) rfl rfl rfl rfl (cur := #[]) fun cur hcur => ?_
    rw [hw8]
    exact ((((Has.setOther (show Has w5 g2 109 cur from hcur) 1 gt2 _).set _ _).set _ _).set _ _).set _ _
  have C8 : Chg (fun c => c = tb ∨ c = g ∨ c = g2) wd w8 := by
    have q := HC5.out.mono (T := fun c => c = tb ∨ c = g ∨ c = g2) (fun c _ h => .inr (.inl h))
    rw [hw8]
    exact ((((q.set (.inl rfl) _ _).set (.inr (.inr rfl)) _ _).set (.inr (.inr rfl)) _ _).set (.inr (.inr rfl)) _ _).set (.inr (.inr rfl)) _ _
  clear hw8 k1 f1 fg fg1 fg2 fg3 e0 e1 e2 e3
  have hG2 := G2.out
  have gA : am ≠ g2 := by omega
  have gB : bm ≠ g2 := by omega
  obtain ⟨MA, ga, hMA⟩ := T0.out.ma
  obtain ⟨MB, gb, hMB⟩ := T0.out.mb
  have ga8 := ga.of_block (w' := w8.drew) (C8.block am al (by omega))
  have hnoA : MA (kA a) = none := by rw [hMA a ha, h1]; rfl
  have hnoB : MB (kB b) = none := by rw [hMB b hb, h2]; rfl
  obtain ⟨wA1, sA, rA1, tA1, nA⟩ := ga8.entry keyedA Try.underlying75 zero3 (by unfold maxLen; omega) (keyedA.key (keyA ha)) (keyA ha) hnoA (.int .i64 ((m : Int) + 1))
  obtain ⟨wA2, rA2, gA2, tA2⟩ := nA wA1 rfl
  have gb8 := gb.of_block (w' := wA2) ((turned_block tA2 NE.2.2.2.2.2.symm).trans ((turned_block tA1 NE.2.2.2.2.2.symm).trans (C8.block bm bl (by omega))))
  obtain ⟨wB1, sB, rB1, tB1, nB⟩ := gb8.entry keyedB Try.underlying86 zero3 (by unfold maxLen; omega) (keyedB.key (keyB hb)) (keyB hb) hnoB (.int .i64 ((m : Int) + 1))
  obtain ⟨wB2, rB2, gB2, tB2⟩ := nB wB1 rfl
  have b1 : wA1.heap[tb]? = w8.heap[tb]? := turned_block tA1 NE.2.1
  have b2 : wA2.heap[tb]? = w8.heap[tb]? := (turned_block tA2 NE.2.1).trans b1
  have b3 : wB1.heap[tb]? = w8.heap[tb]? := (turned_block tB1 NE.2.2.1).trans b2
  have b4 : wB2.heap[tb]? = w8.heap[tb]? := (turned_block tB2 NE.2.2.1).trans b3
  have KA := Lib.hid (fun (W : World) (e : W.heap[tb]? = w8.heap[tb]?) => And.intro (Has.cell (e.trans head8 : Has W tb _ _) 3) (Has.cell (e.trans head8 : Has W tb _ _) 4))
  have c3 := (KA.out w8 rfl).1
  have c4 := (KA.out w8 rfl).2
  simp at c3 c4
  unfold vA at rA1
  unfold vB at rB1
  have FIN : Hid (∃ g' cap', TS w0 wB2 tb g' cap' am bm room (m + 1) (cnt + 1) (setR R (m + 1) (some ⟨a, b, v⟩)) (updF fa a (some (m + 1))) (updF fb b (some (m + 1))) (.slice none 0 0)) := by
    have CT : Chg (fun c => (c = tb ∨ c = g ∨ c = g2) ∨ c = am ∨ c = bm) wd wB2 :=
      ((((C8.mono (fun _ _ h => .inl h)).drew.trans (Chg.turned tA1 (.inr (.inl rfl)))).trans (Chg.turned tA2 (.inr (.inl rfl)))).trans (Chg.turned tB1 (.inr (.inr rfl)))).trans (Chg.turned tB2 (.inr (.inr rfl)))
    have zz := T0.out.z
    have zg2 : ¬ w0.Z g2 := by
      rcases hG2 with q | q
      · rw [q]; exact zz.2.1
      · exact T0.out.bel.new (by omega)
    refine ⟨g2, cap2, b4.trans head8, rows8.of_block ((turned_block tB2 (Ne.symm gB)).trans ((turned_block tB1 (Ne.symm gB)).trans ((turned_block tA2 (Ne.symm gA)).trans (turned_block tA1 (Ne.symm gA))))), ⟨_, gA2.of_block ((turned_block tB2 NE.2.2.2.2.2).trans (turned_block tB1 NE.2.2.2.2.2)), putA hMA a (some (m + 1)) _ (by simp)⟩, ⟨_, gB2, putB hMB b (some (m + 1)) _ (by simp)⟩, coA_put T0.out.coA (m + 1) ⟨a, b, v⟩ hn h1, coB_put T0.out.coB (m + 1) ⟨a, b, v⟩ hn h2, fun x r hx => ?_, by omega, ⟨zz.1, zg2, zz.2.2.1, zz.2.2.2⟩, T0.out.bel.trans CT (fun c hc => ?_), by omega, by omega, T0.out.hr⟩
    · unfold setR at hx
      split at hx
      · cases hx; exact ⟨ha, hb, by omega, by omega⟩
      · have := T0.out.okR x r hx; exact ⟨this.1, this.2.1, this.2.2.1, by omega⟩
    · rcases hc with (rfl | rfl | rfl) | rfl | rfl
      · exact zz.1
      · exact zz.2.1
      · exact zg2
      · exact zz.2.2.1
      · exact zz.2.2.2
  have BB := Lib.hid (And.intro b1 (And.intro b2 (And.intro b3 b4)))
  clear b1 b2 b3 b4 head8 rows8 C8 ga gb ga8 gb8 gA2 gB2 nA nB tA1 tA2 tB1 tB2 hMA hMB hnoA hnoB E8
  go_region_held3 (fun W => W.cell? ⟨tb, 3, none⟩ = some (.map (some am)) ∧ W.cell? ⟨tb, 4, none⟩ = some (.map (some bm)))
    (first | exact ⟨c3, c4⟩ | exact KA.out _ BB.out.1 | exact KA.out _ BB.out.2.1 | exact KA.out _ BB.out.2.2.1 | exact KA.out _ BB.out.2.2.2) (first | fail)
  all_goals
    obtain ⟨g3, cap3, HF⟩ := FIN.out
    have HF := Lib.hid HF
    clear FIN
    go_wp2
    go_ret2
    exact ⟨g3, cap3, rfl, HF.out⟩
end
end Go.Proofs.Ytckbffbjdcnklaa.P
