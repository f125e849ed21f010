/- The wheel (chapter 16): New, place, Cancel of a key without a timer, Arm at the slots 5 and 20. The wheel: Arm at the slots 5 and 20, Now. The table with two keys (chapter 17) of the flows: New, Len, ByA, Put, at, Get. -/
import Derived.Test.YtngdebpaheejlaaGreatDoorZl
import Derived.Deep.RegionLaw
namespace Go.Proofs.YtngdebpaheejlaaGreatDoor
open Go.RowKit Go.Shelf
set_option linter.unusedSimpArgs false
set_option linter.unusedVariables false
/-- The wheel in memory: n timers armed in all, r of them laid in slot s of level 0, now 0. -/
structure Whl (S : Nat → Prop) (w : World) (b mb n r s : Nat) : Prop where
  o1 : S b
  o2 : S mb
  st : ∃ (xs : Array Value) (z : Int) (sv : Value), Has w b 251 xs ∧ xs[0]? = some (.int .i64 0) ∧ xs[1]? = some (.int .i64 (n : Int)) ∧ xs[2]? = some (.map (some mb)) ∧ xs[3]? = some (.int .u64 z) ∧ (z = 0 ∨ z = ((2 ^ s : Nat) : Int)) ∧ xs[4 + s]? = some sv ∧ ∃ l, Row S w 353 3 sv r l
  mp : ∃ m M, m ≤ n ∧ GMap Tryz.prog w 3 mb m M ∧ ∀ x : Nat, n < x → M (.int .i64 (x : Int)) = none
theorem Whl.keep {S : Nat → Prop} {w w' : World} {b mb n r s : Nat} (h : Whl S w b mb n r s) (hk : KeepM S w w') : Whl S w' b mb n r s := by
  obtain ⟨o1, o2, ⟨xs, z, sv, q1, q2, q3, q4, q5, q6, q7, l, q8⟩, m, M, p1, p2, p3⟩ := h
  exact ⟨o1, o2, ⟨xs, z, sv, hk.keep _ _ _ o1 q1, q2, q3, q4, q5, q6, q7, l, q8.keep hk⟩, m, M, p1, p2.of_block (hk _ p2.lt o2), p3⟩
theorem Whl.mono {S T : Nat → Prop} {w : World} {b mb n r s : Nat} (h : Whl S w b mb n r s) (hS : ∀ b, S b → T b) : Whl T w b mb n r s := by
  obtain ⟨o1, o2, ⟨xs, z, sv, q1, q2, q3, q4, q5, q6, q7, l, q8⟩, m, M, p1, p2, p3⟩ := h
  exact ⟨hS _ o1, hS _ o2, ⟨xs, z, sv, q1, q2, q3, q4, q5, q6, q7, l, q8.mono hS⟩, m, M, p1, p2, p3⟩
set_option maxRecDepth 100000 in
theorem len5_c (w : World) : Calls Tryz.prog 216 #[.int .u64 5] w fun e w' => e = .returned (.int .i64 3) ∧ w' = w := by
  go_enter Tryz.func216, Tryz.ntmps216
  go_wp2_with fail
  go_ret
  refine ⟨?_, rfl⟩
  kernel_rfl
set_option maxRecDepth 100000 in
theorem len20_c (w : World) : Calls Tryz.prog 216 #[.int .u64 20] w fun e w' => e = .returned (.int .i64 5) ∧ w' = w := by
  go_enter Tryz.func216, Tryz.ntmps216
  go_wp2_with fail
  go_ret
  refine ⟨?_, rfl⟩
  kernel_rfl
set_option maxRecDepth 100000 in
theorem lenw5_c (w : World) : Calls Tryz.prog 212 #[.int .u64 5] w fun e w' => e = .returned (.int .i64 3) ∧ w' = w := by
  go_enter Tryz.func212, Tryz.ntmps212
  go_wp2_with fail
  refine (len5_c w).mono ?_
  rintro e w1 ⟨rfl, rfl⟩
  go_wp2_with fail
  go_ret
  exact ⟨rfl, rfl⟩
set_option maxRecDepth 100000 in
theorem place5_c (b : Nat) (w : World) (c0 : w.cell? ⟨b, 0, none⟩ = some (.int .i64 0)) : Calls Tryz.prog 201 #[.pointer (some ⟨b, 0, none⟩), .int .i64 5] w fun e w' => e = .returned (.tuple #[.int .i64 0, .int .i64 5]) ∧ Below w.heap.size w w' ∧ w'.heap.size = w.heap.size := by
  go_enter Tryz.func201, Tryz.ntmps201
  go_wp2_with fail
  refine (lenw5_c w).mono ?_
  rintro e w1 ⟨rfl, rfl⟩
  go_wp2_with fail
  go_region
  go_wp2_with fail
  go_ret2
  exact ⟨rfl, (Below.refl _ _).drew, rfl⟩
set_option maxRecDepth 100000 in
theorem lenw20_c (w : World) : Calls Tryz.prog 212 #[.int .u64 20] w fun e w' => e = .returned (.int .i64 5) ∧ w' = w := by
  go_enter Tryz.func212, Tryz.ntmps212
  go_wp2_with fail
  refine (len20_c w).mono ?_
  rintro e w1 ⟨rfl, rfl⟩
  go_wp2_with fail
  go_ret
  exact ⟨rfl, rfl⟩
set_option maxRecDepth 100000 in
theorem place20_c (b : Nat) (w : World) (c0 : w.cell? ⟨b, 0, none⟩ = some (.int .i64 0)) : Calls Tryz.prog 201 #[.pointer (some ⟨b, 0, none⟩), .int .i64 20] w fun e w' => e = .returned (.tuple #[.int .i64 0, .int .i64 20]) ∧ Below w.heap.size w w' ∧ w'.heap.size = w.heap.size := by
  go_enter Tryz.func201, Tryz.ntmps201
  go_wp2_with fail
  refine (lenw20_c w).mono ?_
  rintro e w1 ⟨rfl, rfl⟩
  go_wp2_with fail
  go_region
  go_wp2_with fail
  go_ret2
  exact ⟨rfl, (Below.refl _ _).drew, rfl⟩
set_option maxRecDepth 100000 in
theorem wnew_c (s : Nat) (hs : s = 5 ∨ s = 20) (w : World) : Calls Tryz.prog 59 #[] w fun e w' => ∃ b mb, e = .returned (.pointer (some ⟨b, 0, none⟩)) ∧ Whl (fun b => w.heap.size ≤ b) w' b mb 0 0 s ∧ Below w.heap.size w w' := by
  have hmm := @run_makeMap Tryz.prog
  go_enter Tryz.func59, Tryz.ntmps59
  go_wp2_with fail
  go_ret
  refine ⟨_, w.heap.size, rfl, ⟨Nat.le_succ _, Nat.le_refl _, ⟨_, 0, .slice none 0 0, has_made (by simp), rfl, rfl, rfl, rfl, .inl rfl, ?_, [], Row.nil _ _ _ _⟩, 0, _, Nat.le_refl _, (GMap.made Tryz.prog w 3).of_block (Below.heap_alloc _ _ _ (by simp)), fun _ _ => rfl⟩, ((Below.refl _ _).alloc (Nat.le_refl _) _).alloc (by simp) _⟩
  rcases hs with rfl | rfl <;> rfl
theorem zero353 (w : World) : (zeroValue 353).run Tryz.prog w = .ok (.agg #[.int .i64 0, .int .i64 0, .int .i64 0]) w := by kernel_rfl
set_option maxRecDepth 100000 in
theorem wcancel_c (S : Nat → Prop) (b mb n r s x : Nat) (hx : n < x) (hx2 : x < 1000) (w : World) (h : Whl S w b mb n r s) : Calls Tryz.prog 178 #[.pointer (some ⟨b, 0, none⟩), .int .i64 (x : Int)] w fun e w' => e = .returned (.bool false) ∧ Below w.heap.size w w' := by
  obtain ⟨o1, o2, ⟨xs, z, sv, q1, q2, q3, q4, q5, q6, q7, l, q8⟩, m, M, p1, p2, p3⟩ := h
  have c2 := (q1.cell 2).trans q4
  have hl := p2.look_ok keyed3 Tryz.underlying243 zero353 (key3 x (by omega))
  rw [p3 x hx] at hl
  simp at hl
  go_enter Tryz.func178, Tryz.ntmps178
  go_wp2_with fail
  go_ret
  exact ⟨rfl, ((Below.refl _ _).alloc (Nat.le_refl _) _)⟩
theorem wp_appr {o : Oper} {a : Act} {w w' : World} {K : Act → World → Prop} {Q : Exit → Act → World → Prop} (s x : Operand) (t : TypeId) (ho : o.op = .call { callee := .builtin .append, args := #[s, x], argTypes := #[t, t] }) {v u v' : Value} (hs : a.eval s = v) (hx : a.eval x = u) (hr : (Builtin.append_ #[t, t] o.type #[v, u]).run Tryz.prog w = .ok v' w') (h : K (a.put o.dst v') w') : Oper.wp Tryz.prog o a w K Q := by
  unfold Oper.wp execOp
  simp only [ho, resolve, invoke, builtin, Sem.run_bind, Sem.run_pure, Result.andThen_ok, List.map_toArray, List.map_cons, List.map_nil, hs, hx, hr]
  exact h
theorem info353 : (Tryz.prog.info? 353).map (fun i => (i.zero, i.size, i.bytes)) = some (some (.agg #[.int .i64 0, .int .i64 0, .int .i64 0]), 3, 24) := by kernel_rfl
theorem row_app353 (ty : TypeId) {S : Nat → Prop} {w : World} {sv : Value} {r : Nat} {l : List Value} (h : Row S w 353 3 sv r l) (k a o : Int) (bs : Nat) (hb : Has w bs 353 #[.int .i64 k, .int .i64 a, .int .i64 o]) (hr : r < 1000) :
    ∃ g cap w', (Builtin.append_ #[245, 245] ty #[sv, .slice (some ⟨bs, 0, none⟩) 1 1]).run Tryz.prog w = .ok (.slice (some ⟨g, 0, none⟩) (r + 1) cap) w' ∧ w'.ownsRow 0 353 3 (.slice (some ⟨g, 0, none⟩) (r + 1) cap) (r + 1) (l ++ [.int .i64 k, .int .i64 a, .int .i64 o]) ∧ w.grownBy w' sv.ownBlock ∧ (sv.ownBlock = some g ∨ g = w.heap.size) := by
  obtain ⟨i0, hi0, hz0, hs0, hb0⟩ := info_parts info353
  obtain ⟨v', w', h1, h2, h3, _, h5⟩ := run_append_own_at (P := Tryz.prog) w 0 245 ty 353 i0 _ 3 24 Tryz.underlying245 hi0 hz0 hs0 hb0 rfl (by decide) sv r l h.1 ⟨bs, 0, none⟩ 1 1 [.int .i64 k, .int .i64 a, .int .i64 o] rfl
    (fun j u hj => by
      rw [add_none]
      rw [hb.cell]
      match j, hj with
      | 0, hj => simpa using hj
      | 1, hj => simpa using hj
      | 2, hj => simpa using hj
      | j + 3, hj => simp at hj)
    (fun u hu => by
      simp at hu
      rcases hu with rfl | rfl | rfl <;> rfl)
    (by unfold maxLen; omega) (by omega) (Nat.zero_le _)
  rcases h2.2 with ⟨_, e⟩ | ⟨g, cap, cur, rfl, _⟩
  · omega
  · refine ⟨g, cap, w', h1, h2, h3, ?_⟩
    rcases h5 with e | e
    · exact .inl e.symm
    · exact .inr (by cases e; rfl)
set_option maxRecDepth 100000 in
set_option maxHeartbeats 3200000 in
theorem wlay5_t (S : Nat → Prop) (b mb n r : Nat) (hr : r < 1000) (k o : Int) (w : World) (hS : ∀ b, S b → b < w.heap.size) (h : Whl S w b mb n r 5) : Calls Tryz.prog 205 #[.pointer (some ⟨b, 0, none⟩), .agg #[.int .i64 k, .int .i64 5, .int .i64 o]] w fun e w' => e = .returned (.tuple #[]) ∧ Whl (fun b => S b ∨ w.heap.size ≤ b) w' b mb n (r + 1) 5 ∧ Chg S w w' := by
  have h1 := h.keep (KeepM.alloc _ w (.cells #[.int .i64 k, .int .i64 5, .int .i64 o] 353))
  have hX := Has.new w #[.int .i64 k, .int .i64 5, .int .i64 o] 353
  have hC := (Chg.refl S w).alloc (.cells #[.int .i64 k, .int .i64 5, .int .i64 o] 353)
  go_enter Tryz.func205, Tryz.ntmps205
  go_wp2_with fail
  obtain ⟨w1, hw⟩ : ∃ W, W = w.alloc (.cells #[.int .i64 k, .int .i64 5, .int .i64 o] 353) := ⟨_, rfl⟩
  have z1 : w1.heap.size = w.heap.size + 1 := by rw [hw]; simp
  rw [← hw] at h1 hX hC ⊢
  obtain ⟨bx, hbx⟩ : ∃ b, b = w.heap.size := ⟨_, rfl⟩
  rw [← hbx] at hX z1 ⊢
  have HBX := Lib.hid hbx
  clear hw h hbx
  obtain ⟨o1, o2, ⟨xs, z, sv, q1, q2, q3, q4, q5, q6, q7, l, q8⟩, m, M, p1, p2, p3⟩ := h1
  refine (place5_c b w1 ((q1.cell 0).trans q2)).mono ?_
  rintro e w2 ⟨rfl, b2, s2⟩
  go_wp2_with fail
  have hX2 := hX.below b2
  have hH2 := q1.below b2
  have r2 := q8.keep (KeepM.below b2)
  have m2 := p2.of_block (b2.block mb p2.lt)
  have hC2 := hC.trans (Chg.of_below b2)
  have hl2 : bx < w2.heap.size := by omega
  have Z2 := Lib.hid (s2.trans z1)
  clear hX q1 q8 p2 hC b2 s2 z1
  have hB : Has (w2.drew.alloc (.cells #[.int .i64 k, .int .i64 5, .int .i64 o] 353)) w2.heap.size 353 #[.int .i64 k, .int .i64 5, .int .i64 o] := has_made rfl
  obtain ⟨g, cap, wA, rA, ow, G, ob⟩ := row_app353 245 (r2.keep (w' := w2.drew.alloc (.cells #[.int .i64 k, .int .i64 5, .int .i64 o] 353)) (fun b hb _ => Below.heap_alloc w2.drew _ b hb)) k 5 o w2.heap.size hB hr
  have bxo : ∀ c, sv.ownBlock = some c → c ≠ bx := fun c e => by have := hS c (r2.2 c e); have := HBX.out; omega
  have K1 : Keep (fun x => x = b ∨ x = bx) w2 w2.drew := fun _ _ _ _ h => h
  have K2 : Keep (fun x => x = b ∨ x = bx) w2 (w2.drew.alloc (.cells #[.int .i64 k, .int .i64 5, .int .i64 o] 353)) := fun _ _ _ _ h => h.drew.alloc _
  have K3 : Keep (fun x => x = b ∨ x = bx) w2 wA := fun c t ys hs hc => (G.block c (by have := hc.lt; simp; omega) (fun e => by
    rcases hs with rfl | rfl
    · exact r2.ne hH2 (by decide) e.symm
    · exact bxo c e.symm rfl)).trans (K2 c t ys hs hc)
  have KA : Hid (∀ W, Keep (fun x => x = bx) w2 W → W.cell? ⟨bx, 0, none⟩ = some (.int .i64 k) ∧ W.cell? ⟨bx, 1, none⟩ = some (.int .i64 5) ∧ W.cell? ⟨bx, 2, none⟩ = some (.int .i64 o)) := fun W hk => by
    have x := hk _ _ _ rfl hX2
    exact ⟨(x.cell 0).trans rfl, (x.cell 1).trans rfl, (x.cell 2).trans rfl⟩
  have bbx : bx ≠ b := fun e => by have := hS b o1; have := HBX.out; omega
  have hA := K3 _ _ _ (.inl rfl) hH2
  have hbl : b < w2.heap.size := hH2.lt
  have f1 : w2.cell? ⟨b, 9, none⟩ = some sv := (hH2.cell _).trans q7
  have f2 : (w2.drew.alloc (.cells #[.int .i64 k, .int .i64 5, .int .i64 o] 353)).cell? ⟨b, 9, none⟩ = some sv := ((K2 _ _ _ (.inl rfl) hH2).cell _).trans q7
  have f3 : wA.cell? ⟨b, 9, none⟩ = some sv := (hA.cell _).trans q7
  have f4 : wA.frozen? ⟨b, 9, none⟩ = false := hA.free _
  have P1 : Hid (Keep (fun x => x = bx) w2 w2.drew) := fun _ _ _ _ h => h
  have P2 : Hid (Keep (fun x => x = bx) w2 (w2.drew.alloc (.cells #[.int .i64 k, .int .i64 5, .int .i64 o] 353))) := fun c t ys hs hc => K2 c t ys (.inr hs) hc
  have P3 : Hid (Keep (fun x => x = bx) w2 wA) := fun c t ys hs hc => K3 c t ys (.inr hs) hc
  have P4 : Hid (Keep (fun x => x = bx) w2 (wA.setCell ⟨b, 9, none⟩ (.slice (some ⟨g, 0, none⟩) (r + 1) cap))) := fun c t ys hs hc => (K3 c t ys (.inr hs) hc).setOther _ (by rw [show c = bx from hs]; exact bbx) _
  have FZ := Lib.hid K3
  clear K1 K2 K3
  have OW := Lib.hid ow
  have GG := Lib.hid G
  have OB := Lib.hid ob
  clear ow G ob hB
  have y0 := (KA.out _ P1.out).1
  have y1 := (KA.out _ P1.out).2.1
  have y2 := (KA.out _ P1.out).2.2
  go_region_law ((rw [if_pos (by rfl)]; refine wp_appr _ _ 245 rfl rfl rfl rA ?_))
  all_goals
    have hA := FZ.out _ _ _ (.inl rfl) hH2
    have hbl := hA.lt
    have G := GG.out
    have hgb : g ≠ b := by
      rcases OB.out with e | e
      · rintro rfl; exact r2.ne hH2 (by decide) e
      · have := hH2.lt; simp at e; omega
    have sg : S g ∨ w.heap.size ≤ g := by
      rcases OB.out with e | e
      · exact .inl (r2.2 g e)
      · have := Z2.out; have := HBX.out; simp at e; exact .inr (by omega)
    have hC3 : Chg S w wA := (hC2.drew.alloc (.cells #[.int .i64 k, .int .i64 5, .int .i64 o] 353)).trans ⟨G.os, G.tape, G.output, G.size, fun k hk hn => G.block k hk (fun e => hn (r2.2 k e.symm))⟩
    have hmb : wA.heap[mb]? = w2.heap[mb]? := (G.block mb (by have := m2.lt; simp; omega) (fun e => by
      obtain ⟨⟨_, h2⟩, _⟩ := r2
      rcases h2 with ⟨rfl, _⟩ | ⟨g', cap', cur, rfl, _, h3, _⟩
      · cases e
      · cases e; exact m2.neHas (show Has w2 g' 353 cur from h3) rfl)).trans (Below.heap_alloc w2.drew _ mb m2.lt)
    have W3 : Hid (Whl (fun b => S b ∨ w.heap.size ≤ b) (wA.setCell ⟨b, 9, none⟩ (.slice (some ⟨g, 0, none⟩) (r + 1) cap)) b mb n (r + 1) 5) := by
      refine ⟨.inl o1, .inl o2, ⟨_, z, _, hA.set _ _, by simpa using q2, by simpa using q3, by simpa using q4, by simpa using q5, q6, ?_, _, Row.setOther (S := fun b => S b ∨ w.heap.size ≤ b) ⟨OW.out, fun c e => by cases e; exact sg⟩ (fun e => by cases e; exact hgb rfl) _ _⟩, m, M, p1, (m2.of_block hmb).of_block (Below.heap_setCell _ _ _ _ (fun e => m2.neHas hH2 e)), p3⟩
      have hlt : 4 + 5 < xs.size := (Array.getElem?_eq_some_iff.1 q7).1
      simp at hlt
      rw [Array.getElem?_setIfInBounds]
      simp [hlt]
    have C4 : Hid (Chg S w (wA.setCell ⟨b, 9, none⟩ (.slice (some ⟨g, 0, none⟩) (r + 1) cap))) := hC3.set o1 _ _
    clear KA f1 f2 f3 f4 P1 P2 P3 P4 FZ OW GG OB hA hbl G hgb sg hC3 hmb hC2 hX2 hH2 r2 m2 rA
    generalize wA.setCell ⟨b, 9, none⟩ (.slice (some ⟨g, 0, none⟩) (r + 1) cap) = w3 at W3 C4 ⊢
    clear q2 q3 q4 q5 q6 q7 p1 p3 bbx
    obtain ⟨u1, u2, ⟨xs, z, sv, q1, q2, q3, q4, q5, q6, q7, l, q8⟩, HM⟩ := W3.out
    have HM := Lib.hid HM
    have Q := Lib.hid (And.intro q2 (And.intro q3 (And.intro q4 q7)))
    have Q8 := Lib.hid q8
    have lt3 : 3 < xs.size := (Array.getElem?_eq_some_iff.1 q5).1
    have c3 := (q1.cell 3).trans q5
    have fz3 := q1.free 3
    clear q2 q3 q4 q7 q8 W3
    have HZ := Lib.hid q6
    rcases q6 with rfl | rfl
    all_goals
      go_wp2_with fail
      go_region
      all_goals
        go_wp2_with fail
        obtain ⟨m, M, p1, p2, p3⟩ := HM.out
        refine bodyPost_end (v := .tuple #[]) (by simp [results, Tryz.f205, go_sem]) rfl ⟨rfl, ⟨u1, u2, ⟨_, ((2 ^ 5 : Nat) : Int), sv, (q1.set 3 _).drew, by simpa using Q.out.1, by simpa using Q.out.2.1, by simpa using Q.out.2.2.1, by (rw [Array.getElem?_setIfInBounds_self_of_lt (by simpa using lt3)]; first | rfl | decide), .inr rfl, by simpa using Q.out.2.2.2, _, (Q8.out.setOther (Q8.out.ne q1 (by decide)) _ _).drew⟩, m, M, p1, p2.of_block (Below.heap_setCell _ _ _ _ (fun e => p2.neHas q1 e)), p3⟩, (C4.out.set o1 _ _).drew⟩
set_option maxRecDepth 100000 in
set_option maxHeartbeats 3200000 in
theorem wlay20_t (S : Nat → Prop) (b mb n r : Nat) (hr : r < 1000) (k o : Int) (w : World) (hS : ∀ b, S b → b < w.heap.size) (h : Whl S w b mb n r 20) : Calls Tryz.prog 205 #[.pointer (some ⟨b, 0, none⟩), .agg #[.int .i64 k, .int .i64 20, .int .i64 o]] w fun e w' => e = .returned (.tuple #[]) ∧ Whl (fun b => S b ∨ w.heap.size ≤ b) w' b mb n (r + 1) 20 ∧ Chg S w w' := by
  have h1 := h.keep (KeepM.alloc _ w (.cells #[.int .i64 k, .int .i64 20, .int .i64 o] 353))
  have hX := Has.new w #[.int .i64 k, .int .i64 20, .int .i64 o] 353
  have hC := (Chg.refl S w).alloc (.cells #[.int .i64 k, .int .i64 20, .int .i64 o] 353)
  go_enter Tryz.func205, Tryz.ntmps205
  go_wp2_with fail
  obtain ⟨w1, hw⟩ : ∃ W, W = w.alloc (.cells #[.int .i64 k, .int .i64 20, .int .i64 o] 353) := ⟨_, rfl⟩
  have z1 : w1.heap.size = w.heap.size + 1 := by rw [hw]; simp
  rw [← hw] at h1 hX hC ⊢
  obtain ⟨bx, hbx⟩ : ∃ b, b = w.heap.size := ⟨_, rfl⟩
  rw [← hbx] at hX z1 ⊢
  have HBX := Lib.hid hbx
  clear hw h hbx
  obtain ⟨o1, o2, ⟨xs, z, sv, q1, q2, q3, q4, q5, q6, q7, l, q8⟩, m, M, p1, p2, p3⟩ := h1
  refine (place20_c b w1 ((q1.cell 0).trans q2)).mono ?_
  rintro e w2 ⟨rfl, b2, s2⟩
  go_wp2_with fail
  have hX2 := hX.below b2
  have hH2 := q1.below b2
  have r2 := q8.keep (KeepM.below b2)
  have m2 := p2.of_block (b2.block mb p2.lt)
  have hC2 := hC.trans (Chg.of_below b2)
  have hl2 : bx < w2.heap.size := by omega
  have Z2 := Lib.hid (s2.trans z1)
  clear hX q1 q8 p2 hC b2 s2 z1
  have hB : Has (w2.drew.alloc (.cells #[.int .i64 k, .int .i64 20, .int .i64 o] 353)) w2.heap.size 353 #[.int .i64 k, .int .i64 20, .int .i64 o] := has_made rfl
  obtain ⟨g, cap, wA, rA, ow, G, ob⟩ := row_app353 245 (r2.keep (w' := w2.drew.alloc (.cells #[.int .i64 k, .int .i64 20, .int .i64 o] 353)) (fun b hb _ => Below.heap_alloc w2.drew _ b hb)) k 20 o w2.heap.size hB hr
  have bxo : ∀ c, sv.ownBlock = some c → c ≠ bx := fun c e => by have := hS c (r2.2 c e); have := HBX.out; omega
  have K1 : Keep (fun x => x = b ∨ x = bx) w2 w2.drew := fun _ _ _ _ h => h
  have K2 : Keep (fun x => x = b ∨ x = bx) w2 (w2.drew.alloc (.cells #[.int .i64 k, .int .i64 20, .int .i64 o] 353)) := fun _ _ _ _ h => h.drew.alloc _
  have K3 : Keep (fun x => x = b ∨ x = bx) w2 wA := fun c t ys hs hc => (G.block c (by have := hc.lt; simp; omega) (fun e => by
    rcases hs with rfl | rfl
    · exact r2.ne hH2 (by decide) e.symm
    · exact bxo c e.symm rfl)).trans (K2 c t ys hs hc)
  have KA : Hid (∀ W, Keep (fun x => x = bx) w2 W → W.cell? ⟨bx, 0, none⟩ = some (.int .i64 k) ∧ W.cell? ⟨bx, 1, none⟩ = some (.int .i64 20) ∧ W.cell? ⟨bx, 2, none⟩ = some (.int .i64 o)) := fun W hk => by
    have x := hk _ _ _ rfl hX2
    exact ⟨(x.cell 0).trans rfl, (x.cell 1).trans rfl, (x.cell 2).trans rfl⟩
  have bbx : bx ≠ b := fun e => by have := hS b o1; have := HBX.out; omega
  have hA := K3 _ _ _ (.inl rfl) hH2
  have hbl : b < w2.heap.size := hH2.lt
  have f1 : w2.cell? ⟨b, 24, none⟩ = some sv := (hH2.cell _).trans q7
  have f2 : (w2.drew.alloc (.cells #[.int .i64 k, .int .i64 20, .int .i64 o] 353)).cell? ⟨b, 24, none⟩ = some sv := ((K2 _ _ _ (.inl rfl) hH2).cell _).trans q7
  have f3 : wA.cell? ⟨b, 24, none⟩ = some sv := (hA.cell _).trans q7
  have f4 : wA.frozen? ⟨b, 24, none⟩ = false := hA.free _
  have P1 : Hid (Keep (fun x => x = bx) w2 w2.drew) := fun _ _ _ _ h => h
  have P2 : Hid (Keep (fun x => x = bx) w2 (w2.drew.alloc (.cells #[.int .i64 k, .int .i64 20, .int .i64 o] 353))) := fun c t ys hs hc => K2 c t ys (.inr hs) hc
  have P3 : Hid (Keep (fun x => x = bx) w2 wA) := fun c t ys hs hc => K3 c t ys (.inr hs) hc
  have P4 : Hid (Keep (fun x => x = bx) w2 (wA.setCell ⟨b, 24, none⟩ (.slice (some ⟨g, 0, none⟩) (r + 1) cap))) := fun c t ys hs hc => (K3 c t ys (.inr hs) hc).setOther _ (by rw [show c = bx from hs]; exact bbx) _
  have FZ := Lib.hid K3
  clear K1 K2 K3
  have OW := Lib.hid ow
  have GG := Lib.hid G
  have OB := Lib.hid ob
  clear ow G ob hB
  have y0 := (KA.out _ P1.out).1
  have y1 := (KA.out _ P1.out).2.1
  have y2 := (KA.out _ P1.out).2.2
  go_region_law ((rw [if_pos (by rfl)]; refine wp_appr _ _ 245 rfl rfl rfl rA ?_))
  all_goals
    have hA := FZ.out _ _ _ (.inl rfl) hH2
    have hbl := hA.lt
    have G := GG.out
    have hgb : g ≠ b := by
      rcases OB.out with e | e
      · rintro rfl; exact r2.ne hH2 (by decide) e
      · have := hH2.lt; simp at e; omega
    have sg : S g ∨ w.heap.size ≤ g := by
      rcases OB.out with e | e
      · exact .inl (r2.2 g e)
      · have := Z2.out; have := HBX.out; simp at e; exact .inr (by omega)
    have hC3 : Chg S w wA := (hC2.drew.alloc (.cells #[.int .i64 k, .int .i64 20, .int .i64 o] 353)).trans ⟨G.os, G.tape, G.output, G.size, fun k hk hn => G.block k hk (fun e => hn (r2.2 k e.symm))⟩
    have hmb : wA.heap[mb]? = w2.heap[mb]? := (G.block mb (by have := m2.lt; simp; omega) (fun e => by
      obtain ⟨⟨_, h2⟩, _⟩ := r2
      rcases h2 with ⟨rfl, _⟩ | ⟨g', cap', cur, rfl, _, h3, _⟩
      · cases e
      · cases e; exact m2.neHas (show Has w2 g' 353 cur from h3) rfl)).trans (Below.heap_alloc w2.drew _ mb m2.lt)
    have W3 : Hid (Whl (fun b => S b ∨ w.heap.size ≤ b) (wA.setCell ⟨b, 24, none⟩ (.slice (some ⟨g, 0, none⟩) (r + 1) cap)) b mb n (r + 1) 20) := by
      refine ⟨.inl o1, .inl o2, ⟨_, z, _, hA.set _ _, by simpa using q2, by simpa using q3, by simpa using q4, by simpa using q5, q6, ?_, _, Row.setOther (S := fun b => S b ∨ w.heap.size ≤ b) ⟨OW.out, fun c e => by cases e; exact sg⟩ (fun e => by cases e; exact hgb rfl) _ _⟩, m, M, p1, (m2.of_block hmb).of_block (Below.heap_setCell _ _ _ _ (fun e => m2.neHas hH2 e)), p3⟩
      have hlt : 4 + 20 < xs.size := (Array.getElem?_eq_some_iff.1 q7).1
      simp at hlt
      rw [Array.getElem?_setIfInBounds]
      simp [hlt]
    have C4 : Hid (Chg S w (wA.setCell ⟨b, 24, none⟩ (.slice (some ⟨g, 0, none⟩) (r + 1) cap))) := hC3.set o1 _ _
    clear KA f1 f2 f3 f4 P1 P2 P3 P4 FZ OW GG OB hA hbl G hgb sg hC3 hmb hC2 hX2 hH2 r2 m2 rA
    generalize wA.setCell ⟨b, 24, none⟩ (.slice (some ⟨g, 0, none⟩) (r + 1) cap) = w3 at W3 C4 ⊢
    clear q2 q3 q4 q5 q6 q7 p1 p3 bbx
    obtain ⟨u1, u2, ⟨xs, z, sv, q1, q2, q3, q4, q5, q6, q7, l, q8⟩, HM⟩ := W3.out
    have HM := Lib.hid HM
    have Q := Lib.hid (And.intro q2 (And.intro q3 (And.intro q4 q7)))
    have Q8 := Lib.hid q8
    have lt3 : 3 < xs.size := (Array.getElem?_eq_some_iff.1 q5).1
    have c3 := (q1.cell 3).trans q5
    have fz3 := q1.free 3
    clear q2 q3 q4 q7 q8 W3
    have HZ := Lib.hid q6
    rcases q6 with rfl | rfl
    all_goals
      go_wp2_with fail
      go_region
      all_goals
        go_wp2_with fail
        obtain ⟨m, M, p1, p2, p3⟩ := HM.out
        refine bodyPost_end (v := .tuple #[]) (by simp [results, Tryz.f205, go_sem]) rfl ⟨rfl, ⟨u1, u2, ⟨_, ((2 ^ 20 : Nat) : Int), sv, (q1.set 3 _).drew, by simpa using Q.out.1, by simpa using Q.out.2.1, by simpa using Q.out.2.2.1, by (rw [Array.getElem?_setIfInBounds_self_of_lt (by simpa using lt3)]; first | rfl | decide), .inr rfl, by simpa using Q.out.2.2.2, _, (Q8.out.setOther (Q8.out.ne q1 (by decide)) _ _).drew⟩, m, M, p1, p2.of_block (Below.heap_setCell _ _ _ _ (fun e => p2.neHas q1 e)), p3⟩, (C4.out.set o1 _ _).drew⟩
theorem Whl.cut {S : Nat → Prop} {w : World} {b mb n r s : Nat} (h : Whl S w b mb n r s) : Whl (fun b => S b ∧ b < w.heap.size) w b mb n r s := by
  obtain ⟨o1, o2, ⟨xs, z, sv, q1, q2, q3, q4, q5, q6, q7, l, q8⟩, m, M, p1, p2, p3⟩ := h
  exact ⟨⟨o1, q1.lt⟩, ⟨o2, p2.lt⟩, ⟨xs, z, sv, q1, q2, q3, q4, q5, q6, q7, l, ⟨q8.1, fun c e => ⟨q8.2 c e, by
    obtain ⟨⟨_, h2⟩, _⟩ := q8
    rcases h2 with ⟨rfl, _⟩ | ⟨g', cap', cur, rfl, _, h3, _⟩
    · cases e
    · cases e; exact (Array.getElem?_eq_some_iff.1 h3).1⟩⟩⟩, m, M, p1, p2, p3⟩
theorem wlay5_c (S : Nat → Prop) (b mb n r : Nat) (hr : r < 1000) (k o : Int) (w : World) (h : Whl S w b mb n r 5) : Calls Tryz.prog 205 #[.pointer (some ⟨b, 0, none⟩), .agg #[.int .i64 k, .int .i64 5, .int .i64 o]] w fun e w' => e = .returned (.tuple #[]) ∧ Whl (fun b => S b ∨ w.heap.size ≤ b) w' b mb n (r + 1) 5 ∧ Chg S w w' :=
  (wlay5_t _ b mb n r hr k o w (fun b h => h.2) h.cut).mono fun e w' ⟨he, hp, hc⟩ => ⟨he, hp.mono (fun b h => h.imp And.left id), hc.mono (fun b _ h => h.1)⟩
theorem wlay20_c (S : Nat → Prop) (b mb n r : Nat) (hr : r < 1000) (k o : Int) (w : World) (h : Whl S w b mb n r 20) : Calls Tryz.prog 205 #[.pointer (some ⟨b, 0, none⟩), .agg #[.int .i64 k, .int .i64 20, .int .i64 o]] w fun e w' => e = .returned (.tuple #[]) ∧ Whl (fun b => S b ∨ w.heap.size ≤ b) w' b mb n (r + 1) 20 ∧ Chg S w w' :=
  (wlay20_t _ b mb n r hr k o w (fun b h => h.2) h.cut).mono fun e w' ⟨he, hp, hc⟩ => ⟨he, hp.mono (fun b h => h.imp And.left id), hc.mono (fun b _ h => h.1)⟩
end Go.Proofs.YtngdebpaheejlaaGreatDoor
namespace Go.Proofs.YtngdebpaheejlaaGreatDoor
open Go.RowKit Go.Shelf
set_option linter.unusedSimpArgs false
set_option linter.unusedVariables false
set_option maxRecDepth 100000 in
set_option maxHeartbeats 3200000 in
theorem warm5_t (S : Nat → Prop) (b mb n r x : Nat) (hr : r < 1000) (hx : n + 1 = x) (hn : n < 900) (w : World) (hS : ∀ b, S b → b < w.heap.size) (h : Whl S w b mb n r 5) : Calls Tryz.prog 180 #[.pointer (some ⟨b, 0, none⟩), .int .i64 (x : Int), .int .i64 5] w fun e w' => e = .returned (.int .i64 0) ∧ Whl (fun b => S b ∨ w.heap.size ≤ b) w' b mb (n + 1) (r + 1) 5 ∧ Chg S w w' := by
  obtain ⟨o1, o2, ⟨xs, z, sv, q1, q2, q3, q4, q5, q6, q7, l, q8⟩, m, M, p1, p2, p3⟩ := h
  have c0 := (q1.cell 0).trans q2
  have HC := Lib.hid (wcancel_c S b mb n r 5 x (by omega) (by omega) w ⟨o1, o2, ⟨xs, z, sv, q1, q2, q3, q4, q5, q6, q7, l, q8⟩, m, M, p1, p2, p3⟩)
  go_enter Tryz.func180, Tryz.ntmps180
  go_wp2_with fail
  refine HC.out.mono ?_
  rintro e w1 ⟨rfl, b1⟩
  clear HC c0
  have q1 := q1.below b1
  have q8 := q8.keep (KeepM.below b1)
  have p2 := p2.of_block (b1.block mb p2.lt)
  have hC1 := Chg.of_below (S := S) b1
  have c1 := (q1.cell 1).trans q3
  have f1 := q1.free 1
  have Q := Lib.hid (And.intro q2 (And.intro q3 (And.intro q4 (And.intro q5 (And.intro q6 (And.intro q7 p3))))))
  clear q2 q3 q5 q6 q7 p3
  go_wp2_with fail
  obtain ⟨w2, hw⟩ : ∃ W, W = (w1.setCell ⟨b, 1, none⟩ (.int .i64 ((n : Int) + 1))).alloc (.cells #[.int .i64 (x : Int), .int .i64 5, .int .i64 ((n : Int) + 1)] 353) := ⟨_, rfl⟩
  have hB2 : Has w2 b 251 (xs.setIfInBounds 1 (.int .i64 ((n : Int) + 1))) := by rw [hw]; exact (q1.set 1 _).alloc _
  have hX2 : Has w2 w1.heap.size 353 #[.int .i64 (x : Int), .int .i64 5, .int .i64 ((n : Int) + 1)] := by rw [hw]; exact has_made (by simp)
  have r2 : Row S w2 353 3 sv r l := by rw [hw]; exact (q8.setOther (q8.ne q1 (by decide)) _ _).keep (KeepM.alloc _ _ _)
  have m2 : GMap Tryz.prog w2 3 mb m M := by rw [hw]; exact (p2.of_block (Below.heap_setCell _ _ _ _ (fun e => p2.neHas q1 e))).of_block (Below.heap_alloc _ _ _ (by simpa using p2.lt))
  have hC2 : Chg S w w2 := by rw [hw]; exact (hC1.set o1 _ _).alloc _
  rw [← hw]
  obtain ⟨bx, hbx⟩ : ∃ c, c = w1.heap.size := ⟨_, rfl⟩
  rw [← hbx] at hX2 ⊢
  clear hw hbx q1 q8 p2 hC1 c1 f1 b1
  have kx := key3 x (by omega)
  obtain ⟨wU, rU, gU, tU⟩ := (m2.of_block (w' := w2.drew) rfl).store keyed3 Tryz.underlying243 (by unfold maxLen; omega) (keyed3.key kx) kx (val := .agg #[.int .i64 (x : Int), .int .i64 5, .int .i64 ((n : Int) + 1)])
  have rU : (Instr.mapUpdate 243 (.map (some mb)) (.int .i64 (x : Int)) (.agg #[.int .i64 (x : Int), .int .i64 5, .int .i64 ((n : Int) + 1)])).run Tryz.prog w2.drew = .ok () wU := rU
  have hb2 : xs.size > 2 := (Array.getElem?_eq_some_iff.1 q4).1
  have KA : Hid (∀ W, Keep (fun _ => True) w2 W → W.cell? ⟨b, 2, none⟩ = some (.map (some mb)) ∧ W.cell? ⟨bx, 0, none⟩ = some (.int .i64 (x : Int)) ∧ W.cell? ⟨bx, 1, none⟩ = some (.int .i64 5) ∧ W.cell? ⟨bx, 2, none⟩ = some (.int .i64 ((n : Int) + 1))) := fun W k => by
    have q := k _ _ _ trivial hB2
    have x := k _ _ _ trivial hX2
    exact ⟨(q.cell 2).trans (by simpa using q4), (x.cell 0).trans rfl, (x.cell 1).trans rfl, (x.cell 2).trans rfl⟩
  have K1 : Keep (fun _ => True) w2 w2.drew := fun _ _ _ _ h => h
  have P1 := Lib.hid K1
  have P2 := Lib.hid (K1.trans (Keep.turned tU))
  go_region_held3 (fun W => W.cell? ⟨b, 2, none⟩ = some (.map (some mb)) ∧ W.cell? ⟨bx, 0, none⟩ = some (.int .i64 (x : Int)) ∧ W.cell? ⟨bx, 1, none⟩ = some (.int .i64 5) ∧ W.cell? ⟨bx, 2, none⟩ = some (.int .i64 ((n : Int) + 1))) (first | exact KA.out _ P1.out | exact KA.out _ P2.out) (fail)
  have W3 : Whl S wU b mb (n + 1) r 5 := by
    obtain ⟨q2, q3, q4, q5, q6, q7, p3⟩ := Q.out
    refine ⟨o1, o2, ⟨_, z, sv, P2.out _ _ _ trivial hB2, by simpa using q2, ?_, by simpa using q4, by simpa using q5, q6, by simpa using q7, l, r2.keepH (fun c t ys _ hc => P2.out c t ys trivial hc)⟩, _, _, ?_, gU, fun y hy => ?_⟩
    · rw [Array.getElem?_setIfInBounds_self_of_lt (by omega)]; simp
    · split <;> omega
    · rw [putM_other _ _ (fun e => by simp at e; omega)]; exact p3 y (by omega)
  have hC3 : Chg S w wU := hC2.drew.trans (Chg.turned tU o2)
  have x3 := P2.out _ _ _ trivial hX2
  have xa := x3.cell 0
  have xb := x3.cell 1
  have xc := x3.cell 2
  simp at xa xb xc
  have WL := Lib.hid (wlay5_c S b mb (n + 1) r hr (x : Int) ((n : Int) + 1) wU W3)
  clear KA P1 P2 K1 tU gU rU m2 r2 hB2 hX2 kx Q hb2
  go_wp2_with fail
  refine WL.out.mono ?_
  rintro e w4 ⟨rfl, W4, c4⟩
  go_wp2_with fail
  go_ret
  exact ⟨rfl, W4.mono (fun b h => h.imp id (Nat.le_trans hC3.size)), hC3.trans c4⟩
theorem warm5_c (S : Nat → Prop) (b mb n r x : Nat) (hr : r < 1000) (hx : n + 1 = x) (hn : n < 900) (w : World) (h : Whl S w b mb n r 5) : Calls Tryz.prog 180 #[.pointer (some ⟨b, 0, none⟩), .int .i64 (x : Int), .int .i64 5] w fun e w' => e = .returned (.int .i64 0) ∧ Whl (fun b => S b ∨ w.heap.size ≤ b) w' b mb (n + 1) (r + 1) 5 ∧ Chg S w w' :=
  (warm5_t _ b mb n r x hr hx hn w (fun b h => h.2) h.cut).mono fun e w' ⟨he, hp, hc⟩ => ⟨he, hp.mono (fun b h => h.imp And.left id), hc.mono (fun b _ h => h.1)⟩
set_option maxRecDepth 100000 in
set_option maxHeartbeats 3200000 in
theorem warm20_t (S : Nat → Prop) (b mb n r x : Nat) (hr : r < 1000) (hx : n + 1 = x) (hn : n < 900) (w : World) (hS : ∀ b, S b → b < w.heap.size) (h : Whl S w b mb n r 20) : Calls Tryz.prog 180 #[.pointer (some ⟨b, 0, none⟩), .int .i64 (x : Int), .int .i64 20] w fun e w' => e = .returned (.int .i64 0) ∧ Whl (fun b => S b ∨ w.heap.size ≤ b) w' b mb (n + 1) (r + 1) 20 ∧ Chg S w w' := by
  obtain ⟨o1, o2, ⟨xs, z, sv, q1, q2, q3, q4, q5, q6, q7, l, q8⟩, m, M, p1, p2, p3⟩ := h
  have c0 := (q1.cell 0).trans q2
  have HC := Lib.hid (wcancel_c S b mb n r 20 x (by omega) (by omega) w ⟨o1, o2, ⟨xs, z, sv, q1, q2, q3, q4, q5, q6, q7, l, q8⟩, m, M, p1, p2, p3⟩)
  go_enter Tryz.func180, Tryz.ntmps180
  go_wp2_with fail
  refine HC.out.mono ?_
  rintro e w1 ⟨rfl, b1⟩
  clear HC c0
  have q1 := q1.below b1
  have q8 := q8.keep (KeepM.below b1)
  have p2 := p2.of_block (b1.block mb p2.lt)
  have hC1 := Chg.of_below (S := S) b1
  have c1 := (q1.cell 1).trans q3
  have f1 := q1.free 1
  have Q := Lib.hid (And.intro q2 (And.intro q3 (And.intro q4 (And.intro q5 (And.intro q6 (And.intro q7 p3))))))
  clear q2 q3 q5 q6 q7 p3
  go_wp2_with fail
  obtain ⟨w2, hw⟩ : ∃ W, W = (w1.setCell ⟨b, 1, none⟩ (.int .i64 ((n : Int) + 1))).alloc (.cells #[.int .i64 (x : Int), .int .i64 20, .int .i64 ((n : Int) + 1)] 353) := ⟨_, rfl⟩
  have hB2 : Has w2 b 251 (xs.setIfInBounds 1 (.int .i64 ((n : Int) + 1))) := by rw [hw]; exact (q1.set 1 _).alloc _
  have hX2 : Has w2 w1.heap.size 353 #[.int .i64 (x : Int), .int .i64 20, .int .i64 ((n : Int) + 1)] := by rw [hw]; exact has_made (by simp)
  have r2 : Row S w2 353 3 sv r l := by rw [hw]; exact (q8.setOther (q8.ne q1 (by decide)) _ _).keep (KeepM.alloc _ _ _)
  have m2 : GMap Tryz.prog w2 3 mb m M := by rw [hw]; exact (p2.of_block (Below.heap_setCell _ _ _ _ (fun e => p2.neHas q1 e))).of_block (Below.heap_alloc _ _ _ (by simpa using p2.lt))
  have hC2 : Chg S w w2 := by rw [hw]; exact (hC1.set o1 _ _).alloc _
  rw [← hw]
  obtain ⟨bx, hbx⟩ : ∃ c, c = w1.heap.size := ⟨_, rfl⟩
  rw [← hbx] at hX2 ⊢
  clear hw hbx q1 q8 p2 hC1 c1 f1 b1
  have kx := key3 x (by omega)
  obtain ⟨wU, rU, gU, tU⟩ := (m2.of_block (w' := w2.drew) rfl).store keyed3 Tryz.underlying243 (by unfold maxLen; omega) (keyed3.key kx) kx (val := .agg #[.int .i64 (x : Int), .int .i64 20, .int .i64 ((n : Int) + 1)])
  have rU : (Instr.mapUpdate 243 (.map (some mb)) (.int .i64 (x : Int)) (.agg #[.int .i64 (x : Int), .int .i64 20, .int .i64 ((n : Int) + 1)])).run Tryz.prog w2.drew = .ok () wU := rU
  have hb2 : xs.size > 2 := (Array.getElem?_eq_some_iff.1 q4).1
  have KA : Hid (∀ W, Keep (fun _ => True) w2 W → W.cell? ⟨b, 2, none⟩ = some (.map (some mb)) ∧ W.cell? ⟨bx, 0, none⟩ = some (.int .i64 (x : Int)) ∧ W.cell? ⟨bx, 1, none⟩ = some (.int .i64 20) ∧ W.cell? ⟨bx, 2, none⟩ = some (.int .i64 ((n : Int) + 1))) := fun W k => by
    have q := k _ _ _ trivial hB2
    have x := k _ _ _ trivial hX2
    exact ⟨(q.cell 2).trans (by simpa using q4), (x.cell 0).trans rfl, (x.cell 1).trans rfl, (x.cell 2).trans rfl⟩
  have K1 : Keep (fun _ => True) w2 w2.drew := fun _ _ _ _ h => h
  have P1 := Lib.hid K1
  have P2 := Lib.hid (K1.trans (Keep.turned tU))
  go_region_held3 (fun W => W.cell? ⟨b, 2, none⟩ = some (.map (some mb)) ∧ W.cell? ⟨bx, 0, none⟩ = some (.int .i64 (x : Int)) ∧ W.cell? ⟨bx, 1, none⟩ = some (.int .i64 20) ∧ W.cell? ⟨bx, 2, none⟩ = some (.int .i64 ((n : Int) + 1))) (first | exact KA.out _ P1.out | exact KA.out _ P2.out) (fail)
  have W3 : Whl S wU b mb (n + 1) r 20 := by
    obtain ⟨q2, q3, q4, q5, q6, q7, p3⟩ := Q.out
    refine ⟨o1, o2, ⟨_, z, sv, P2.out _ _ _ trivial hB2, by simpa using q2, ?_, by simpa using q4, by simpa using q5, q6, by simpa using q7, l, r2.keepH (fun c t ys _ hc => P2.out c t ys trivial hc)⟩, _, _, ?_, gU, fun y hy => ?_⟩
    · rw [Array.getElem?_setIfInBounds_self_of_lt (by omega)]; simp
    · split <;> omega
    · rw [putM_other _ _ (fun e => by simp at e; omega)]; exact p3 y (by omega)
  have hC3 : Chg S w wU := hC2.drew.trans (Chg.turned tU o2)
  have x3 := P2.out _ _ _ trivial hX2
  have xa := x3.cell 0
  have xb := x3.cell 1
  have xc := x3.cell 2
  simp at xa xb xc
  have WL := Lib.hid (wlay20_c S b mb (n + 1) r hr (x : Int) ((n : Int) + 1) wU W3)
  clear KA P1 P2 K1 tU gU rU m2 r2 hB2 hX2 kx Q hb2
  go_wp2_with fail
  refine WL.out.mono ?_
  rintro e w4 ⟨rfl, W4, c4⟩
  go_wp2_with fail
  go_ret
  exact ⟨rfl, W4.mono (fun b h => h.imp id (Nat.le_trans hC3.size)), hC3.trans c4⟩
theorem warm20_c (S : Nat → Prop) (b mb n r x : Nat) (hr : r < 1000) (hx : n + 1 = x) (hn : n < 900) (w : World) (h : Whl S w b mb n r 20) : Calls Tryz.prog 180 #[.pointer (some ⟨b, 0, none⟩), .int .i64 (x : Int), .int .i64 20] w fun e w' => e = .returned (.int .i64 0) ∧ Whl (fun b => S b ∨ w.heap.size ≤ b) w' b mb (n + 1) (r + 1) 20 ∧ Chg S w w' :=
  (warm20_t _ b mb n r x hr hx hn w (fun b h => h.2) h.cut).mono fun e w' ⟨he, hp, hc⟩ => ⟨he, hp.mono (fun b h => h.imp And.left id), hc.mono (fun b _ h => h.1)⟩
theorem wnow_c (b : Nat) (w : World) (c0 : w.cell? ⟨b, 0, none⟩ = some (.int .i64 0)) : Calls Tryz.prog 186 #[.pointer (some ⟨b, 0, none⟩)] w fun e w' => e = .returned (.int .i64 0) ∧ w' = w := by
  go_enter Tryz.func186, Tryz.ntmps186
  go_wp2_with fail
  go_ret
  exact ⟨rfl, rfl⟩
end Go.Proofs.YtngdebpaheejlaaGreatDoor
namespace Go.Proofs.YtngdebpaheejlaaGreatDoor
open Go.RowKit Go.Shelf
set_option linter.unusedSimpArgs false
set_option linter.unusedVariables false
def zero25 : List Value := [.int .i64 0, .int .u32 0, .int .u32 0, .int .i64 0, .int .i64 0, .int .i64 0, .int .u32 0, .int .u32 0, .int .i64 0, .int .i64 0, .int .i64 0, .int .u32 0, .int .u32 0, .int .i64 0, .int .i64 0, .int .i64 0, .int .u32 0, .int .u32 0, .int .i64 0, .int .i64 0, .int .i64 0, .int .i64 0, .int .i64 0, .bool false, .bool false]
/-- The table in memory: n rows laid, none taken back; gA, gB say what its maps hold. -/
structure Tw (S : Nat → Prop) (w : World) (t am bm r n : Nat) (gA gB : Value → Option Value) (l : List Value) : Prop where
  o1 : S t
  st : ∃ sv, Has w t 166 #[.int .i64 (r : Int), sv, .slice none 0 0, .map (some am), .map (some bm)] ∧ Row S w 324 25 sv (n + 1) l
  mA : KMap S w 97 am n gA
  mB : KMap S w 97 bm n gB
  ne : am ≠ bm
theorem Tw.keep {S : Nat → Prop} {w w' : World} {t am bm r n : Nat} {gA gB : Value → Option Value} {l : List Value} (h : Tw S w t am bm r n gA gB l) (hk : KeepM S w w') : Tw S w' t am bm r n gA gB l := by
  obtain ⟨o1, ⟨sv, q1, q2⟩, q3, q4, q5⟩ := h
  exact ⟨o1, ⟨sv, hk.keep _ _ _ o1 q1, q2.keep hk⟩, q3.keep hk, q4.keep hk, q5⟩
theorem Tw.mono {S T : Nat → Prop} {w : World} {t am bm r n : Nat} {gA gB : Value → Option Value} {l : List Value} (h : Tw S w t am bm r n gA gB l) (hS : ∀ b, S b → T b) : Tw T w t am bm r n gA gB l := by
  obtain ⟨o1, ⟨sv, q1, q2⟩, q3, q4, q5⟩ := h
  exact ⟨hS _ o1, ⟨sv, q1, q2.mono hS⟩, q3.mono hS, q4.mono hS, q5⟩
theorem Row.cut {S : Nat → Prop} {w : World} {t : TypeId} {size n : Nat} {v : Value} {xs : List Value} (h : Row S w t size v n xs) : Row (fun b => S b ∧ b < w.heap.size) w t size v n xs := by
  refine ⟨h.1, fun c e => ⟨h.2 c e, ?_⟩⟩
  obtain ⟨⟨_, h2⟩, _⟩ := h
  rcases h2 with ⟨rfl, _⟩ | ⟨g', cap', cur, rfl, _, h3, _⟩
  · cases e
  · cases e; exact (Array.getElem?_eq_some_iff.1 h3).1
theorem Tw.cut {S : Nat → Prop} {w : World} {t am bm r n : Nat} {gA gB : Value → Option Value} {l : List Value} (h : Tw S w t am bm r n gA gB l) : Tw (fun b => S b ∧ b < w.heap.size) w t am bm r n gA gB l := by
  obtain ⟨o1, ⟨sv, q1, q2⟩, q3, q4, q5⟩ := h
  exact ⟨⟨o1, q1.lt⟩, ⟨sv, q1, q2.cut⟩, q3.cut, q4.cut, q5⟩
set_option maxRecDepth 100000 in
set_option maxHeartbeats 1600000 in
theorem twnew_c (r : Nat) (h1 : 1 ≤ r) (h2 : r ≤ 65536) (w : World) : Calls Tryz.prog 56 #[.int .i64 (r : Int)] w fun e w' => ∃ t am bm, e = .returned (.tuple #[.pointer (some ⟨t, 0, none⟩), .int .i64 0]) ∧ Tw (fun b => w.heap.size ≤ b) w' t am bm r 0 (fun _ => none) (fun _ => none) zero25 ∧ Below w.heap.size w w' := by
  have hmm := @run_makeMap Tryz.prog
  have hmk : ∀ W : World, (Instr.makeSlice 162 (.int .i64 1) (.int .i64 1)).run Tryz.prog W = .ok (.slice (some ⟨W.heap.size, 0, none⟩) 1 1) (W.alloc (.cells #[.int .i64 0, .int .u32 0, .int .u32 0, .int .i64 0, .int .i64 0, .int .i64 0, .int .u32 0, .int .u32 0, .int .i64 0, .int .i64 0, .int .i64 0, .int .u32 0, .int .u32 0, .int .i64 0, .int .i64 0, .int .i64 0, .int .u32 0, .int .u32 0, .int .i64 0, .int .i64 0, .int .i64 0, .int .i64 0, .int .i64 0, .bool false, .bool false] 324)) := fun W => by kernel_rfl
  have i1 : ¬ (r : Int) < 1 := by omega
  have i2 : ¬ (65536 : Int) < (r : Int) := by omega
  go_enter Tryz.func56, Tryz.ntmps56
  go_wp2_with fail
  go_ret2
  have hB : ∀ (W : World) (b : Nat), W.heap.size = b → Has (W.alloc (.cells #[.int .i64 0, .int .u32 0, .int .u32 0, .int .i64 0, .int .i64 0, .int .i64 0, .int .u32 0, .int .u32 0, .int .i64 0, .int .i64 0, .int .i64 0, .int .u32 0, .int .u32 0, .int .i64 0, .int .i64 0, .int .i64 0, .int .u32 0, .int .u32 0, .int .i64 0, .int .i64 0, .int .i64 0, .int .i64 0, .int .i64 0, .bool false, .bool false] 324)) b 324 #[.int .i64 0, .int .u32 0, .int .u32 0, .int .i64 0, .int .i64 0, .int .i64 0, .int .u32 0, .int .u32 0, .int .i64 0, .int .i64 0, .int .i64 0, .int .u32 0, .int .u32 0, .int .i64 0, .int .i64 0, .int .i64 0, .int .u32 0, .int .u32 0, .int .i64 0, .int .i64 0, .int .i64 0, .int .i64 0, .int .i64 0, .bool false, .bool false] := fun W b e => e ▸ Has.new W _ _
  refine ⟨_, rfl, ⟨w.heap.size + 1, w.heap.size + 1 + 1, ⟨?_, ⟨_, has_made (by simp), ⟨⟨rfl, .inr ⟨w.heap.size, 1, #[.int .i64 0, .int .u32 0, .int .u32 0, .int .i64 0, .int .i64 0, .int .i64 0, .int .u32 0, .int .u32 0, .int .i64 0, .int .i64 0, .int .i64 0, .int .u32 0, .int .u32 0, .int .i64 0, .int .i64 0, .int .i64 0, .int .u32 0, .int .u32 0, .int .i64 0, .int .i64 0, .int .i64 0, .int .i64 0, .int .i64 0, .bool false, .bool false], rfl, Nat.zero_le _, ?_, Nat.le_refl _, by unfold maxLen; omega, rfl, rfl⟩⟩, fun b e => by cases e; exact Nat.le_refl _⟩⟩, ?_, ?_, by omega⟩⟩, ?_⟩
  · show w.heap.size ≤ _
    omega
  · exact (((Has.new w #[.int .i64 0, .int .u32 0, .int .u32 0, .int .i64 0, .int .i64 0, .int .i64 0, .int .u32 0, .int .u32 0, .int .i64 0, .int .i64 0, .int .i64 0, .int .u32 0, .int .u32 0, .int .i64 0, .int .i64 0, .int .i64 0, .int .u32 0, .int .u32 0, .int .i64 0, .int .i64 0, .int .i64 0, .int .i64 0, .int .i64 0, .bool false, .bool false] 324).alloc _).alloc _).alloc _
  · exact ((KMap.made (fun b => w.heap.size ≤ b) (w.alloc (.cells #[.int .i64 0, .int .u32 0, .int .u32 0, .int .i64 0, .int .i64 0, .int .i64 0, .int .u32 0, .int .u32 0, .int .i64 0, .int .i64 0, .int .i64 0, .int .u32 0, .int .u32 0, .int .i64 0, .int .i64 0, .int .i64 0, .int .u32 0, .int .u32 0, .int .i64 0, .int .i64 0, .int .i64 0, .int .i64 0, .int .i64 0, .bool false, .bool false] 324)) 97 (by simp)).keep (KeepM.alloc _ _ _)).keep (KeepM.alloc _ _ _) |> fun h => by simpa using h
  · exact (KMap.made (fun b => w.heap.size ≤ b) ((w.alloc (.cells #[.int .i64 0, .int .u32 0, .int .u32 0, .int .i64 0, .int .i64 0, .int .i64 0, .int .u32 0, .int .u32 0, .int .i64 0, .int .i64 0, .int .i64 0, .int .u32 0, .int .u32 0, .int .i64 0, .int .i64 0, .int .i64 0, .int .u32 0, .int .u32 0, .int .i64 0, .int .i64 0, .int .i64 0, .int .i64 0, .int .i64 0, .bool false, .bool false] 324)).alloc (.map #[] 0)) 97 (by first | omega | (simp; omega))).keep (KeepM.alloc _ _ _) |> fun h => by simpa using h
  · exact ((((Below.refl _ _).alloc (Nat.le_refl _) _).alloc (by simp) _).alloc (by simp; omega) _).alloc (by simp; omega) _
theorem zero3' (w : World) : (zeroValue 3).run Tryz.prog w = .ok (.int .i64 0) w := by kernel_rfl
set_option maxRecDepth 100000 in
theorem twlen_c (S : Nat → Prop) (t am bm r n : Nat) (gA gB : Value → Option Value) (l : List Value) (w : World) (h : Tw S w t am bm r n gA gB l) : Calls Tryz.prog 27 #[.pointer (some ⟨t, 0, none⟩)] w fun e w' => e = .returned (.int .i64 (n : Int)) ∧ w' = w := by
  obtain ⟨o1, ⟨sv, q1, q2⟩, q3, q4, q5⟩ := h
  have c3 := (q1.cell 3).trans rfl
  have hl := q3.len Tryz.underlying164 3
  go_enter Tryz.func27, Tryz.ntmps27
  go_wp2_with fail
  go_ret
  exact ⟨rfl, rfl⟩
set_option maxRecDepth 100000 in
set_option maxHeartbeats 1600000 in
theorem twbya_c (S : Nat → Prop) (t am bm r n : Nat) (gA gB : Value → Option Value) (l : List Value) (k0 k1 k2 k3 k4 : Int) (hkv : (keyOf Tryz.prog 97 (.agg #[.int .i64 k0, .int .u32 k1, .int .u32 k2, .int .i64 k3, .int .i64 k4])).isSome = true) (hno : gA (.agg #[.int .i64 k0, .int .u32 k1, .int .u32 k2, .int .i64 k3, .int .i64 k4]) = none) (w : World) (h : Tw S w t am bm r n gA gB l) : Calls Tryz.prog 79 #[.pointer (some ⟨t, 0, none⟩), .agg #[.int .i64 k0, .int .u32 k1, .int .u32 k2, .int .i64 k3, .int .i64 k4]] w fun e w' => e = .returned (.tuple #[.int .i64 0, .bool false]) ∧ Below w.heap.size w w' := by
  obtain ⟨o1, ⟨sv, q1, q2⟩, q3, q4, q5⟩ := h
  have hH1 := q1.alloc (.cells #[.int .i64 k0, .int .u32 k1, .int .u32 k2, .int .i64 k3, .int .i64 k4] 97)
  have hX := Has.new w #[.int .i64 k0, .int .u32 k1, .int .u32 k2, .int .i64 k3, .int .i64 k4] 97
  have hM1 := q3.keep (KeepM.alloc _ w (.cells #[.int .i64 k0, .int .u32 k1, .int .u32 k2, .int .i64 k3, .int .i64 k4] 97))
  have b1 := (Below.refl w.heap.size w).alloc (Nat.le_refl _) (.cells #[.int .i64 k0, .int .u32 k1, .int .u32 k2, .int .i64 k3, .int .i64 k4] 97)
  go_enter Tryz.func79, Tryz.ntmps79
  go_wp2_with fail
  obtain ⟨w1, hw⟩ : ∃ W, W = w.alloc (.cells #[.int .i64 k0, .int .u32 k1, .int .u32 k2, .int .i64 k3, .int .i64 k4] 97) := ⟨_, rfl⟩
  rw [← hw] at hH1 hX hM1 b1 ⊢
  obtain ⟨bx, hbx⟩ : ∃ b, b = w.heap.size := ⟨_, rfl⟩
  rw [← hbx] at hX ⊢
  have HBX := Lib.hid hbx
  clear hw hbx q1 q2 q3 q4 q5 o1
  have KA : Hid (∀ W, Below w1.heap.size w1 W → W.cell? ⟨t, 3, none⟩ = some (.map (some am)) ∧ W.cell? ⟨bx, 0, none⟩ = some (.int .i64 k0) ∧ W.cell? ⟨bx, 1, none⟩ = some (.int .u32 k1) ∧ W.cell? ⟨bx, 2, none⟩ = some (.int .u32 k2) ∧ W.cell? ⟨bx, 3, none⟩ = some (.int .i64 k3) ∧ W.cell? ⟨bx, 4, none⟩ = some (.int .i64 k4) ∧ (Instr.lookup 164 (.map (some am)) (.agg #[.int .i64 k0, .int .u32 k1, .int .u32 k2, .int .i64 k3, .int .i64 k4]) true).run Tryz.prog W = .ok (.tuple #[.int .i64 0, .bool false]) W) := fun W hW => by
    have q := hH1.below hW
    have x := hX.below hW
    exact ⟨(q.cell 3).trans rfl, (x.cell 0).trans rfl, (x.cell 1).trans rfl, (x.cell 2).trans rfl, (x.cell 3).trans rfl, (x.cell 4).trans rfl, (hM1.keep (KeepM.below hW)).look_ok keyed97 Tryz.underlying164 zero3' _ hkv _ _ (by rw [hno]; rfl) (by rw [hno]; rfl)⟩
  go_region_held3 (fun W => W.cell? ⟨t, 3, none⟩ = some (.map (some am)) ∧ W.cell? ⟨bx, 0, none⟩ = some (.int .i64 k0) ∧ W.cell? ⟨bx, 1, none⟩ = some (.int .u32 k1) ∧ W.cell? ⟨bx, 2, none⟩ = some (.int .u32 k2) ∧ W.cell? ⟨bx, 3, none⟩ = some (.int .i64 k3) ∧ W.cell? ⟨bx, 4, none⟩ = some (.int .i64 k4) ∧ (Instr.lookup 164 (.map (some am)) (.agg #[.int .i64 k0, .int .u32 k1, .int .u32 k2, .int .i64 k3, .int .i64 k4]) true).run Tryz.prog W = .ok (.tuple #[.int .i64 0, .bool false]) W) (first | exact KA.out _ ((Below.refl _ _).drew)) (fail)
  all_goals
    have hb2 := b1.drew
    clear KA hH1 hX hM1 b1
    go_wp2_with fail
    go_ret2
    rw [HBX.out]
    exact ⟨rfl, hb2⟩
end Go.Proofs.YtngdebpaheejlaaGreatDoor
