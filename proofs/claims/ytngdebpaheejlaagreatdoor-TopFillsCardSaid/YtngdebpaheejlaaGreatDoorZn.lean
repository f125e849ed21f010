/- The flows (chapter 20): what stands in memory; Len, Ahead, Now, Get, key, step. The flows: arm. -/
import Derived.Test.YtngdebpaheejlaaGreatDoorTX
import Derived.Test.YtngdebpaheejlaaGreatDoorZk
import Derived.Test.YtngdebpaheejlaaGreatDoorZh
namespace Go.Proofs.YtngdebpaheejlaaGreatDoor
open Go.RowKit Go.Shelf
set_option linter.unusedSimpArgs false
set_option linter.unusedVariables false
theorem PortB.cut {S : Nat → Prop} {w : World} {pb pm k i n xb cb wb lm gm : Nat} {g : Value → Option Value} {kv : Value} (h : PortB S w pb pm k i n g kv xb cb wb lm gm) : PortB (fun b => S b ∧ b < w.heap.size) w pb pm k i n g kv xb cb wb lm gm := by
  obtain ⟨W, c1, c2⟩ := h.cur.words
  obtain ⟨nl, M, l1, l2⟩ := h.lent
  exact ⟨⟨h.o1, h.head.lt⟩, ⟨h.o2, h.part.lt⟩, ⟨h.o3, h.cur.head.lt⟩, ⟨h.o4, c1.lt⟩, ⟨h.o5, l2.lt⟩, ⟨h.o6, h.given.lt⟩, h.head, h.parts.cut, h.at_, h.part, h.cur, h.lent, h.given, h.n1, h.n2, h.n3⟩
/-- The ports of which i of a key have been lent. -/
def Prt (S : Nat → Prop) (w : World) (pb k i : Nat) (kv : Value) : Prop :=
  (i = 0 ∧ ∃ pm n g, n < 500 ∧ S pb ∧ Has w pb 241 #[.int .i64 2000, .int .i64 k, .int .i64 10, .map (some pm)] ∧ KMap S w 292 pm n g ∧ g kv = none) ∨ ∃ pm n g xb cb wb lm gm, PortB S w pb pm k i n g kv xb cb wb lm gm
theorem Prt.keep {S : Nat → Prop} {w w' : World} {pb k i : Nat} {kv : Value} (h : Prt S w pb k i kv) (hk : KeepM S w w') : Prt S w' pb k i kv := by
  rcases h with ⟨h0, pm, n, g, h1, h2, h3, h4, h5⟩ | ⟨pm, n, g, xb, cb, wb, lm, gm, h⟩
  · exact .inl ⟨h0, pm, n, g, h1, h2, hk.keep _ _ _ h2 h3, h4.keep hk, h5⟩
  · exact .inr ⟨pm, n, g, xb, cb, wb, lm, gm, h.keep hk⟩
theorem Prt.mono {S T : Nat → Prop} {w : World} {pb k i : Nat} {kv : Value} (h : Prt S w pb k i kv) (hS : ∀ b, S b → T b) : Prt T w pb k i kv := by
  rcases h with ⟨h0, pm, n, g, h1, h2, h3, h4, h5⟩ | ⟨pm, n, g, xb, cb, wb, lm, gm, h⟩
  · exact .inl ⟨h0, pm, n, g, h1, hS _ h2, h3, h4.mono hS, h5⟩
  · exact .inr ⟨pm, n, g, xb, cb, wb, lm, gm, h.mono hS⟩
theorem Prt.cut {S : Nat → Prop} {w : World} {pb k i : Nat} {kv : Value} (h : Prt S w pb k i kv) : Prt (fun b => S b ∧ b < w.heap.size) w pb k i kv := by
  rcases h with ⟨h0, pm, n, g, h1, h2, h3, h4, h5⟩ | ⟨pm, n, g, xb, cb, wb, lm, gm, h⟩
  · exact .inl ⟨h0, pm, n, g, h1, ⟨h2, h3.lt⟩, h3, h4.cut, h5⟩
  · exact .inr ⟨pm, n, g, xb, cb, wb, lm, gm, h.cut⟩
theorem ptake_c (S : Nat → Prop) (pb k i : Nat) (k0 k1 k2 k3 : Int) (hkv : (keyOf Tryz.prog 292 (.agg #[.int .i64 k0, .int .u32 k1, .int .u32 k2, .int .i64 k3])).isSome = true) (hk1 : 1 ≤ k) (hik : i ≤ k) (hk : k ≤ 30) (w : World) (hT : CU.Tab w) (h0 : ¬ S 0) (h : Prt S w pb k i (.agg #[.int .i64 k0, .int .u32 k1, .int .u32 k2, .int .i64 k3])) :
    Calls Tryz.prog 138 #[.pointer (some ⟨pb, 0, none⟩), .agg #[.int .i64 k0, .int .u32 k1, .int .u32 k2, .int .i64 k3], .int .i64 0] w fun e w' => ((i < k ∧ e = .returned (.tuple #[.int .i64 ((2000 + i : Nat) : Int), .int .i64 0]) ∧ Prt (fun b => S b ∨ w.heap.size ≤ b) w' pb k (i + 1) (.agg #[.int .i64 k0, .int .u32 k1, .int .u32 k2, .int .i64 k3])) ∨ (i = k ∧ e = .returned (.tuple #[.int .i64 0, .int .i64 17]) ∧ Prt (fun b => S b ∨ w.heap.size ≤ b) w' pb k i (.agg #[.int .i64 k0, .int .u32 k1, .int .u32 k2, .int .i64 k3]))) ∧ Chg S w w' := by
  rcases h.cut with ⟨hi0, pm, n, g, h1, h2, h3, h4, h5⟩ | ⟨pm, n, g, xb, cb, wb, lm, gm, h⟩
  · subst hi0
    refine (ptfirst_t _ pb pm k n g k0 k1 k2 k3 hkv hk1 hk (by omega) w hT (fun b h => h.2) (fun h => h0 h.1) h2 h3 h4 h5).mono ?_
    rintro e w' ⟨g', xb, cb, wb, lm, gm, hg, i, rfl, hh, hC⟩
    refine ⟨?_, hC.mono (fun b hb h => h.elim And.left (fun h => by omega))⟩
    rcases hh with ⟨q1, q2, q3⟩ | ⟨q1, q2, q3⟩
    · exact .inl ⟨q1, q2, .inr ⟨_, _, _, _, _, _, _, _, q3.mono (fun b h => h.imp And.left id)⟩⟩
    · exact .inr ⟨q1, q2, .inr ⟨_, _, _, _, _, _, _, _, q3.mono (fun b h => h.imp And.left id)⟩⟩
  · refine (pttake_t _ pb pm k i n xb cb wb lm gm g k0 k1 k2 k3 hkv hik hk w hT (fun b h => h.2) (fun h => h0 h.1) h).mono ?_
    rintro e w' ⟨hh, hC⟩
    refine ⟨?_, hC.mono (fun b hb h => h.1)⟩
    rcases hh with ⟨q1, q2, q3⟩ | ⟨q1, q2, q3⟩
    · exact .inl ⟨q1, q2, .inr ⟨_, _, _, _, _, _, _, _, q3.mono (fun b h => .inl h.1)⟩⟩
    · exact .inr ⟨q1, q2, .inr ⟨_, _, _, _, _, _, _, _, q3.mono (fun b h => .inl h.1)⟩⟩
/-- The flows in memory, i of them opened; o tells whose a block is: 1 the flows' own, 2 the ports', 3 the wheel's, 4 the table's. -/
structure Flw (o : Nat → Nat) (w : World) (f pb wh mb t am bm k r s ip iw it : Nat) (kv : Value) (gA gB : Value → Option Value) (l : List Value) : Prop where
  own : o f = 1
  zero : o 0 = 0
  tab : CU.Tab w
  head : Has w f 95 #[.int .i64 5, .int .i64 50, .int .i64 9, .int .i64 7, .int .i64 20, .pointer (some ⟨pb, 0, none⟩), .pointer (some ⟨wh, 0, none⟩), .pointer (some ⟨t, 0, none⟩), .int .i64 (r : Int)]
  prt : Prt (fun b => o b = 2) w pb k ip kv
  whl : Whl (fun b => o b = 3) w wh mb iw iw s
  tw : Tw (fun b => o b = 4) w t am bm r it gA gB l
/-- How owners grow. -/
def Ext (C : Nat → Prop) (o o' : Nat → Nat) (n : Nat) : Prop := (∀ b, b < n → o' b = o b) ∧ ∀ b, n ≤ b → C (o' b)
theorem Ext.trans {C : Nat → Prop} {o o' o'' : Nat → Nat} {n n' : Nat} (h : Ext C o o' n) (h' : Ext C o' o'' n') (hn : n ≤ n') : Ext C o o'' n :=
  ⟨fun b hb => (h'.1 b (by omega)).trans (h.1 b hb), fun b hb => by
    by_cases e : b < n'
    · rw [h'.1 b e]; exact h.2 b hb
    · exact h'.2 b (by omega)⟩
theorem Ext.mono {C D : Nat → Prop} {o o' : Nat → Nat} {n : Nat} (h : Ext C o o' n) (hC : ∀ c, C c → D c) : Ext D o o' n := ⟨h.1, fun b hb => hC _ (h.2 b hb)⟩
/-- The blocks behind n are c's. -/
def owner (o : Nat → Nat) (n c : Nat) : Nat → Nat := fun b => if b < n then o b else c
theorem own_ext (o : Nat → Nat) (n c : Nat) : Ext (fun x => x = c) o (owner o n c) n := ⟨fun b hb => if_pos hb, fun b hb => if_neg (by omega)⟩
theorem own_lt {o : Nat → Nat} {n c b : Nat} (h : b < n) : owner o n c b = o b := if_pos h
theorem own_back {o : Nat → Nat} {n c b : Nat} (h : n ≤ b) : owner o n c b = c := if_neg (by omega)
theorem own_new {o : Nat → Nat} {n c b : Nat} (h : o b = c ∨ n ≤ b) : owner o n c b = c := by
  unfold owner; split
  · rcases h with h | h
    · exact h
    · omega
  · rfl
section
variable {o : Nat → Nat} {w w' : World} {f pb wh mb t am bm k r s i ip iw it : Nat} {kv : Value} {gA gB : Value → Option Value} {l : List Value}
theorem Flw.keep (h : Flw o w f pb wh mb t am bm k r s ip iw it kv gA gB l) (hk : ∀ b, b < w.heap.size → o b ≤ 4 → w'.heap[b]? = w.heap[b]?) : Flw o w' f pb wh mb t am bm k r s ip iw it kv gA gB l := by
  have l0 : 0 < w.heap.size := by
    have := h.tab 0 (by decide)
    rcases Nat.eq_zero_or_pos w.heap.size with q | q
    · simp [World.cell?, Array.getElem?_eq_none (show w.heap.size ≤ 0 by omega)] at this
    · exact q
  exact ⟨h.own, h.zero, Tab_keep h.tab (hk 0 l0 (by rw [h.zero]; omega)), (hk f h.head.lt (by rw [h.own]; omega)).trans h.head, h.prt.keep (fun b hb e => hk b hb (by omega)), h.whl.keep (fun b hb e => hk b hb (by omega)), h.tw.keep (fun b hb e => hk b hb (by omega))⟩
/-- Other owners of what is new. -/
theorem Flw.re {o' : Nat → Nat} (h : Flw o w f pb wh mb t am bm k r s ip iw it kv gA gB l) (he : ∀ b, b < w.heap.size → o' b = o b) : Flw o' w f pb wh mb t am bm k r s ip iw it kv gA gB l := by
  have l0 : 0 < w.heap.size := by
    have := h.tab 0 (by decide)
    rcases Nat.eq_zero_or_pos w.heap.size with q | q
    · simp [World.cell?, Array.getElem?_eq_none (show w.heap.size ≤ 0 by omega)] at this
    · exact q
  exact ⟨(he f h.head.lt).trans h.own, (he 0 l0).trans h.zero, h.tab, h.head, h.prt.cut.mono (fun b hb => (he b hb.2).trans hb.1), h.whl.cut.mono (fun b hb => (he b hb.2).trans hb.1), h.tw.cut.mono (fun b hb => (he b hb.2).trans hb.1)⟩
theorem Flw.below (h : Flw o w f pb wh mb t am bm k r s ip iw it kv gA gB l) (hb : Below w.heap.size w w') : Flw o w' f pb wh mb t am bm k r s ip iw it kv gA gB l := h.keep (fun b q _ => hb.block b q)
theorem Chg.then {S T : Nat → Prop} {w w1 w2 : World} (h : Chg S w w1) (h' : Chg T w1 w2) (hT : ∀ b, b < w.heap.size → T b → S b) : Chg S w w2 :=
  ⟨h'.os.trans h.os, h'.tape.trans h.tape, h'.output.trans h.output, Nat.le_trans h.size h'.size, fun b hb hn => (h'.block b (Nat.lt_of_lt_of_le hb h.size) (fun e => hn (hT b hb e))).trans (h.block b hb hn)⟩
theorem Flw.prt' {j : Nat} (h : Flw o w f pb wh mb t am bm k r s ip iw it kv gA gB l) (hC : Chg (fun b => o b = 2) w w') (q : Prt (fun b => o b = 2 ∨ w.heap.size ≤ b) w' pb k j kv) : Flw (owner o w.heap.size 2) w' f pb wh mb t am bm k r s j iw it kv gA gB l := by
  have h' := h.re (o' := owner o w.heap.size 2) (fun b hb => own_lt hb)
  have kp : ∀ d, d ≠ 2 → ∀ b, b < w.heap.size → owner o w.heap.size 2 b = d → w'.heap[b]? = w.heap[b]? := fun d hd b hb e => hC.block b hb (fun e2 => hd (by rw [own_lt hb] at e; omega))
  have l0 : 0 < w.heap.size := by
    have := h.tab 0 (by decide)
    rcases Nat.eq_zero_or_pos w.heap.size with q | q
    · simp [World.cell?, Array.getElem?_eq_none (show w.heap.size ≤ 0 by omega)] at this
    · exact q
  exact ⟨h'.own, h'.zero, Tab_keep h'.tab (kp 0 (by decide) 0 l0 h'.zero), (kp 1 (by decide) f h.head.lt h'.own).trans h.head, q.mono (fun b hb => own_new hb), h'.whl.keep (fun b hb e => kp 3 (by decide) b hb e), h'.tw.keep (fun b hb e => kp 4 (by decide) b hb e)⟩
theorem Flw.whl' {j : Nat} (h : Flw o w f pb wh mb t am bm k r s ip iw it kv gA gB l) (hC : Chg (fun b => o b = 3) w w') (q : Whl (fun b => o b = 3 ∨ w.heap.size ≤ b) w' wh mb j j s) : Flw (owner o w.heap.size 3) w' f pb wh mb t am bm k r s ip j it kv gA gB l := by
  have h' := h.re (o' := owner o w.heap.size 3) (fun b hb => own_lt hb)
  have kp : ∀ d, d ≠ 3 → ∀ b, b < w.heap.size → owner o w.heap.size 3 b = d → w'.heap[b]? = w.heap[b]? := fun d hd b hb e => hC.block b hb (fun e2 => hd (by rw [own_lt hb] at e; omega))
  have l0 : 0 < w.heap.size := by
    have := h.tab 0 (by decide)
    rcases Nat.eq_zero_or_pos w.heap.size with q | q
    · simp [World.cell?, Array.getElem?_eq_none (show w.heap.size ≤ 0 by omega)] at this
    · exact q
  exact ⟨h'.own, h'.zero, Tab_keep h'.tab (kp 0 (by decide) 0 l0 h'.zero), (kp 1 (by decide) f h.head.lt h'.own).trans h.head, h'.prt.keep (fun b hb e => kp 2 (by decide) b hb e), q.mono (fun b hb => own_new hb), h'.tw.keep (fun b hb e => kp 4 (by decide) b hb e)⟩
theorem Flw.tw' {j : Nat} {gA' gB' : Value → Option Value} {l' : List Value} (h : Flw o w f pb wh mb t am bm k r s ip iw it kv gA gB l) (hC : Chg (fun b => o b = 4) w w') (q : Tw (fun b => o b = 4 ∨ w.heap.size ≤ b) w' t am bm r j gA' gB' l') : Flw (owner o w.heap.size 4) w' f pb wh mb t am bm k r s ip iw j kv gA' gB' l' := by
  have h' := h.re (o' := owner o w.heap.size 4) (fun b hb => own_lt hb)
  have kp : ∀ d, d ≠ 4 → ∀ b, b < w.heap.size → owner o w.heap.size 4 b = d → w'.heap[b]? = w.heap[b]? := fun d hd b hb e => hC.block b hb (fun e2 => hd (by rw [own_lt hb] at e; omega))
  have l0 : 0 < w.heap.size := by
    have := h.tab 0 (by decide)
    rcases Nat.eq_zero_or_pos w.heap.size with q | q
    · simp [World.cell?, Array.getElem?_eq_none (show w.heap.size ≤ 0 by omega)] at this
    · exact q
  exact ⟨h'.own, h'.zero, Tab_keep h'.tab (kp 0 (by decide) 0 l0 h'.zero), (kp 1 (by decide) f h.head.lt h'.own).trans h.head, h'.prt.keep (fun b hb e => kp 2 (by decide) b hb e), h'.whl.keep (fun b hb e => kp 3 (by decide) b hb e), q.mono (fun b hb => own_new hb)⟩
set_option maxRecDepth 100000 in
theorem flen_c (h : Flw o w f pb wh mb t am bm k r s i i i kv gA gB l) : Calls Tryz.prog 10 #[.pointer (some ⟨f, 0, none⟩)] w fun e w' => e = .returned (.int .i64 (i : Int)) ∧ w' = w := by
  have c7 := (h.head.cell 7).trans rfl
  have HL := Lib.hid (twlen_c _ t am bm r i gA gB l w h.tw)
  clear h
  go_enter Tryz.func10, Tryz.ntmps10
  go_wp2_with fail
  refine HL.out.mono ?_
  rintro e w1 ⟨rfl, rfl⟩
  go_wp2_with fail
  go_ret
  exact ⟨rfl, rfl⟩
set_option maxRecDepth 100000 in
theorem fnow_c (h : Flw o w f pb wh mb t am bm k r s i i i kv gA gB l) : Calls Tryz.prog 137 #[.pointer (some ⟨f, 0, none⟩)] w fun e w' => e = .returned (.int .i64 0) ∧ w' = w := by
  have c6 := (h.head.cell 6).trans rfl
  have HL : Hid (Calls Tryz.prog 186 #[.pointer (some ⟨wh, 0, none⟩)] w fun e w' => e = .returned (.int .i64 0) ∧ w' = w) := by
    obtain ⟨_, _, ⟨xs, z, sv, q1, q2, _⟩, _⟩ := h.whl
    exact wnow_c wh w ((q1.cell 0).trans q2)
  clear h
  go_enter Tryz.func137, Tryz.ntmps137
  go_wp2_with fail
  refine HL.out.mono ?_
  rintro e w1 ⟨rfl, rfl⟩
  go_wp2_with fail
  go_ret
  exact ⟨rfl, rfl⟩
set_option maxRecDepth 100000 in
set_option maxHeartbeats 1600000 in
theorem fahead_c (a0 a1 a2 a3 a4 : Int) (hkv : (keyOf Tryz.prog 97 (.agg #[.int .i64 a0, .int .u32 a1, .int .u32 a2, .int .i64 a3, .int .i64 a4])).isSome = true) (hno : gA (.agg #[.int .i64 a0, .int .u32 a1, .int .u32 a2, .int .i64 a3, .int .i64 a4]) = none) (h : Flw o w f pb wh mb t am bm k r s i i i kv gA gB l) : Calls Tryz.prog 43 #[.pointer (some ⟨f, 0, none⟩), .agg #[.int .i64 a0, .int .u32 a1, .int .u32 a2, .int .i64 a3, .int .i64 a4]] w fun e w' => e = .returned (.tuple #[.int .i64 0, .bool false]) ∧ Below w.heap.size w w' := by
  have h1 : Flw o (w.alloc (.cells #[.int .i64 a0, .int .u32 a1, .int .u32 a2, .int .i64 a3, .int .i64 a4] 97)) f pb wh mb t am bm k r s i i i kv gA gB l := h.below ((Below.refl _ _).alloc (Nat.le_refl _) _)
  have hX := Has.new w #[.int .i64 a0, .int .u32 a1, .int .u32 a2, .int .i64 a3, .int .i64 a4] 97
  have b1 := (Below.refl w.heap.size w).alloc (Nat.le_refl _) (.cells #[.int .i64 a0, .int .u32 a1, .int .u32 a2, .int .i64 a3, .int .i64 a4] 97)
  clear h
  go_enter Tryz.func43, Tryz.ntmps43
  go_wp2_with fail
  generalize w.alloc (.cells #[.int .i64 a0, .int .u32 a1, .int .u32 a2, .int .i64 a3, .int .i64 a4] 97) = w1 at h1 hX b1 ⊢
  have x7 : ∀ V : Gr w1, V.1.cell? ⟨f, 7, none⟩ = some (.pointer (some ⟨t, 0, none⟩)) := fun V => ((V.has h1.head).cell 7).trans rfl
  have y0 : ∀ V : Gr w1, V.1.cell? ⟨w.heap.size, 0, none⟩ = some (.int .i64 a0) := fun V => ((V.has hX).cell 0).trans rfl
  have y1 : ∀ V : Gr w1, V.1.cell? ⟨w.heap.size, 1, none⟩ = some (.int .u32 a1) := fun V => ((V.has hX).cell 1).trans rfl
  have y2 : ∀ V : Gr w1, V.1.cell? ⟨w.heap.size, 2, none⟩ = some (.int .u32 a2) := fun V => ((V.has hX).cell 2).trans rfl
  have y3 : ∀ V : Gr w1, V.1.cell? ⟨w.heap.size, 3, none⟩ = some (.int .i64 a3) := fun V => ((V.has hX).cell 3).trans rfl
  have y4 : ∀ V : Gr w1, V.1.cell? ⟨w.heap.size, 4, none⟩ = some (.int .i64 a4) := fun V => ((V.has hX).cell 4).trans rfl
  have HC : Hid (∀ V : Gr w1, Calls Tryz.prog 79 #[.pointer (some ⟨t, 0, none⟩), .agg #[.int .i64 a0, .int .u32 a1, .int .u32 a2, .int .i64 a3, .int .i64 a4]] V.1 fun e w' => e = .returned (.tuple #[.int .i64 0, .bool false]) ∧ Below V.1.heap.size V.1 w') := fun V => twbya_c _ t am bm r i gA gB l a0 a1 a2 a3 a4 hkv hno V.1 (h1.below V.2).tw
  clear h1 hX
  refine wp_region_grows (by kernel_rfl) (by kernel_rfl) ?_
  repeat (go_big_quiet_step (first | (go_at_call 79; with_reducible refine grows_call _ (HC.out _))))
  refine wpQuiet_nil ?_
  rintro _ ⟨V, rfl⟩
  have bV := b1.trans (V.2.mono b1.size)
  go_wp2_with fail
  go_ret2
  exact ⟨rfl, bV⟩
set_option maxRecDepth 100000 in
set_option maxHeartbeats 1600000 in
theorem fget_c (l0 : List Value) (a0 a1 a2 a3 a4 b0 b1 b2 b3 b4 v0 v1 v2 : Int) (v3 : Bool) (hn : i < 1000) (h : Flw o w f pb wh mb t am bm k r s (i + 1) (i + 1) (i + 1) kv gA gB (l0 ++ [.int .i64 a0, .int .u32 a1, .int .u32 a2, .int .i64 a3, .int .i64 a4, .int .i64 b0, .int .u32 b1, .int .u32 b2, .int .i64 b3, .int .i64 b4, .int .i64 a0, .int .u32 a1, .int .u32 a2, .int .i64 a3, .int .i64 a4, .int .i64 b0, .int .u32 b1, .int .u32 b2, .int .i64 b3, .int .i64 b4, .int .i64 v0, .int .i64 v1, .int .i64 v2, .bool v3, .bool true])) :
    Calls Tryz.prog 82 #[.pointer (some ⟨f, 0, none⟩), .int .i64 ((i : Int) + 1)] w fun e w' => e = .returned (.tuple #[.agg #[.int .i64 a0, .int .u32 a1, .int .u32 a2, .int .i64 a3, .int .i64 a4, .int .i64 b0, .int .u32 b1, .int .u32 b2, .int .i64 b3, .int .i64 b4, .int .i64 v0, .int .i64 v1, .int .i64 v2, .bool v3], .bool true]) ∧ Below w.heap.size w w' := by
  have HC := Lib.hid (twget_c (fun b => o b = 4) t am bm r i gA gB l0 a0 a1 a2 a3 a4 b0 b1 b2 b3 b4 v0 v1 v2 v3 hn (w.alloc (.cells #[.int .i64 0, .int .u32 0, .int .u32 0, .int .i64 0, .int .i64 0, .int .i64 0, .int .u32 0, .int .u32 0, .int .i64 0, .int .i64 0, .int .i64 0, .int .i64 0, .int .i64 0, .bool false] 99)) (h.below ((Below.refl _ _).alloc (Nat.le_refl _) _)).tw)
  have c7 := (h.head.cell 7).trans rfl
  have hlt := h.head.lt
  clear h
  go_enter Tryz.func82, Tryz.ntmps82
  go_wp2_with fail
  refine HC.out.mono ?_
  rintro e w2 ⟨rfl, B2⟩
  have hX := (Has.new w #[.int .i64 0, .int .u32 0, .int .u32 0, .int .i64 0, .int .i64 0, .int .i64 0, .int .u32 0, .int .u32 0, .int .i64 0, .int .i64 0, .int .i64 0, .int .i64 0, .int .i64 0, .bool false] 99).below B2
  have B1 := ((Below.refl w.heap.size w).alloc (Nat.le_refl _) (.cells #[.int .i64 0, .int .u32 0, .int .u32 0, .int .i64 0, .int .i64 0, .int .i64 0, .int .u32 0, .int .u32 0, .int .i64 0, .int .i64 0, .int .i64 0, .int .i64 0, .int .i64 0, .bool false] 99)).trans (B2.mono (by simp))
  have y0 := (hX.cell 0).trans rfl
  have z0 := hX.free 0
  have y1 := (hX.cell 1).trans rfl
  have z1 := hX.free 1
  have y2 := (hX.cell 2).trans rfl
  have z2 := hX.free 2
  have y3 := (hX.cell 3).trans rfl
  have z3 := hX.free 3
  have y4 := (hX.cell 4).trans rfl
  have z4 := hX.free 4
  have y5 := (hX.cell 5).trans rfl
  have z5 := hX.free 5
  have y6 := (hX.cell 6).trans rfl
  have z6 := hX.free 6
  have y7 := (hX.cell 7).trans rfl
  have z7 := hX.free 7
  have y8 := (hX.cell 8).trans rfl
  have z8 := hX.free 8
  have y9 := (hX.cell 9).trans rfl
  have z9 := hX.free 9
  have y10 := (hX.cell 10).trans rfl
  have z10 := hX.free 10
  have y11 := (hX.cell 11).trans rfl
  have z11 := hX.free 11
  have y12 := (hX.cell 12).trans rfl
  have z12 := hX.free 12
  have y13 := (hX.cell 13).trans rfl
  have z13 := hX.free 13
  go_wp2_with fail
  have hX3 := ((((((((((((((hX).set 0 (.int .i64 a0)).set 1 (.int .u32 a1)).set 2 (.int .u32 a2)).set 3 (.int .i64 a3)).set 4 (.int .i64 a4)).set 5 (.int .i64 b0)).set 6 (.int .u32 b1)).set 7 (.int .u32 b2)).set 8 (.int .i64 b3)).set 9 (.int .i64 b4)).set 10 (.int .i64 v0)).set 11 (.int .i64 v1)).set 12 (.int .i64 v2)).set 13 (.bool v3)
  simp only [List.setIfInBounds_toArray, List.set] at hX3
  have B3 := ((((((((((((((B1).setCell (p := ⟨w.heap.size, 0, none⟩) (Nat.le_refl _) (.int .i64 a0)).setCell (p := ⟨w.heap.size, 1, none⟩) (Nat.le_refl _) (.int .u32 a1)).setCell (p := ⟨w.heap.size, 2, none⟩) (Nat.le_refl _) (.int .u32 a2)).setCell (p := ⟨w.heap.size, 3, none⟩) (Nat.le_refl _) (.int .i64 a3)).setCell (p := ⟨w.heap.size, 4, none⟩) (Nat.le_refl _) (.int .i64 a4)).setCell (p := ⟨w.heap.size, 5, none⟩) (Nat.le_refl _) (.int .i64 b0)).setCell (p := ⟨w.heap.size, 6, none⟩) (Nat.le_refl _) (.int .u32 b1)).setCell (p := ⟨w.heap.size, 7, none⟩) (Nat.le_refl _) (.int .u32 b2)).setCell (p := ⟨w.heap.size, 8, none⟩) (Nat.le_refl _) (.int .i64 b3)).setCell (p := ⟨w.heap.size, 9, none⟩) (Nat.le_refl _) (.int .i64 b4)).setCell (p := ⟨w.heap.size, 10, none⟩) (Nat.le_refl _) (.int .i64 v0)).setCell (p := ⟨w.heap.size, 11, none⟩) (Nat.le_refl _) (.int .i64 v1)).setCell (p := ⟨w.heap.size, 12, none⟩) (Nat.le_refl _) (.int .i64 v2)).setCell (p := ⟨w.heap.size, 13, none⟩) (Nat.le_refl _) (.bool v3)
  obtain ⟨w3, hw⟩ : ∃ W3, W3 = ((((((((((((((w2).setCell ⟨w.heap.size, 0, none⟩ (.int .i64 a0)).setCell ⟨w.heap.size, 1, none⟩ (.int .u32 a1)).setCell ⟨w.heap.size, 2, none⟩ (.int .u32 a2)).setCell ⟨w.heap.size, 3, none⟩ (.int .i64 a3)).setCell ⟨w.heap.size, 4, none⟩ (.int .i64 a4)).setCell ⟨w.heap.size, 5, none⟩ (.int .i64 b0)).setCell ⟨w.heap.size, 6, none⟩ (.int .u32 b1)).setCell ⟨w.heap.size, 7, none⟩ (.int .u32 b2)).setCell ⟨w.heap.size, 8, none⟩ (.int .i64 b3)).setCell ⟨w.heap.size, 9, none⟩ (.int .i64 b4)).setCell ⟨w.heap.size, 10, none⟩ (.int .i64 v0)).setCell ⟨w.heap.size, 11, none⟩ (.int .i64 v1)).setCell ⟨w.heap.size, 12, none⟩ (.int .i64 v2)).setCell ⟨w.heap.size, 13, none⟩ (.bool v3) := ⟨_, rfl⟩
  rw [← hw] at hX3 B3 ⊢
  clear hw
  have u0 := (hX3.cell 0).trans rfl
  have u1 := (hX3.cell 1).trans rfl
  have u2 := (hX3.cell 2).trans rfl
  have u3 := (hX3.cell 3).trans rfl
  have u4 := (hX3.cell 4).trans rfl
  have u5 := (hX3.cell 5).trans rfl
  have u6 := (hX3.cell 6).trans rfl
  have u7 := (hX3.cell 7).trans rfl
  have u8 := (hX3.cell 8).trans rfl
  have u9 := (hX3.cell 9).trans rfl
  have u10 := (hX3.cell 10).trans rfl
  have u11 := (hX3.cell 11).trans rfl
  have u12 := (hX3.cell 12).trans rfl
  have u13 := (hX3.cell 13).trans rfl
  refine bodyPost_ret (v := .tuple #[.agg #[.int .i64 a0, .int .u32 a1, .int .u32 a2, .int .i64 a3, .int .i64 a4, .int .i64 b0, .int .u32 b1, .int .u32 b2, .int .i64 b3, .int .i64 b4, .int .i64 v0, .int .i64 v1, .int .i64 v2, .bool v3], .bool true]) ?_ rfl ⟨rfl, B3⟩
  simp [results, Tryz.f82, go_sem, u0, u1, u2, u3, u4, u5, u6, u7, u8, u9, u10, u11, u12, u13]
set_option maxRecDepth 100000 in
set_option maxHeartbeats 1600000 in
theorem fkey_c (a0 a1 a2 a3 a4 b0 b1 b2 b3 b4 v0 v1 v2 : Int) (v3 : Bool) (w : World) : Calls Tryz.prog 139 #[.agg #[.int .i64 a0, .int .u32 a1, .int .u32 a2, .int .i64 a3, .int .i64 a4, .int .i64 b0, .int .u32 b1, .int .u32 b2, .int .i64 b3, .int .i64 b4, .int .i64 v0, .int .i64 v1, .int .i64 v2, .bool v3]] w fun e w' => e = .returned (.agg #[.int .i64 b0, .int .u32 b1, .int .u32 b2, .int .i64 b4]) ∧ Below w.heap.size w w' := by
  go_enter Tryz.func139, Tryz.ntmps139
  go_wp2_with fail
  refine bodyPost_ret (v := .agg #[.int .i64 b0, .int .u32 b1, .int .u32 b2, .int .i64 b4]) ?_ rfl ⟨rfl, ((Below.refl _ _).alloc (Nat.le_refl _) _).alloc (by simp) _⟩
  simp [results, Tryz.f139, go_sem]
theorem fstep175_c (p q : Nat) (w : World) (hp : w.cell? ⟨p, 0, none⟩ = some (.int .i64 0)) (hq : w.cell? ⟨q, 0, none⟩ = some (.bool false)) : Calls Tryz.prog 175 #[.pointer (some ⟨p, 0, none⟩), .pointer (some ⟨q, 0, none⟩)] w fun e w' => e = .returned (.tuple #[.int .i64 8, .bool true]) ∧ Below w.heap.size w w' := by
  go_enter Tryz.func175, Tryz.ntmps175
  go_wp2_with fail
  refine (udp_c w).mono ?_
  rintro e w1 ⟨rfl, rfl⟩
  go_wp2_with fail
  go_ret2
  exact ⟨rfl, Below.refl _ _⟩
theorem fstep173_c (p q r : Nat) (w : World) (hp : w.cell? ⟨p, 0, none⟩ = some (.int .i64 0)) (hq : w.cell? ⟨q, 0, none⟩ = some (.bool false)) (hr : w.cell? ⟨r, 0, none⟩ = some (.int .i64 2)) : Calls Tryz.prog 173 #[.pointer (some ⟨p, 0, none⟩), .pointer (some ⟨q, 0, none⟩), .pointer (some ⟨r, 0, none⟩)] w fun e w' => e = .returned (.tuple #[.int .i64 1, .bool true]) ∧ Below w.heap.size w w' := by
  go_enter Tryz.func173, Tryz.ntmps173
  go_wp2_with fail
  refine (step_c w).mono ?_
  rintro e w1 ⟨rfl, b⟩
  go_wp2_with fail
  go_ret2
  exact ⟨rfl, b⟩
set_option maxRecDepth 100000 in
theorem fstep17_c (fl : Int) (w : World) : Calls Tryz.prog 130 #[.int .i64 17, .int .i64 0, .bool false, .int .i64 fl] w fun e w' => e = .returned (.tuple #[.int .i64 8, .bool true]) ∧ Below w.heap.size w w' := by
  have x0 : Has (((w.alloc (.cells #[.int .i64 0] 3)).alloc (.cells #[.bool false] 4)).alloc (.cells #[.int .i64 fl] 3)) w.heap.size 3 #[.int .i64 0] := ((Has.new w #[.int .i64 0] 3).alloc _).alloc _
  have x1 : Has (((w.alloc (.cells #[.int .i64 0] 3)).alloc (.cells #[.bool false] 4)).alloc (.cells #[.int .i64 fl] 3)) (w.heap.size + 1) 4 #[.bool false] := (has_made (by simp)).alloc _
  have x2 : Has (((w.alloc (.cells #[.int .i64 0] 3)).alloc (.cells #[.bool false] 4)).alloc (.cells #[.int .i64 fl] 3)) (w.heap.size + 1 + 1) 3 #[.int .i64 fl] := has_made (by simp)
  have b : Below w.heap.size w (((w.alloc (.cells #[.int .i64 0] 3)).alloc (.cells #[.bool false] 4)).alloc (.cells #[.int .i64 fl] 3)) := (((Below.refl _ _).alloc (Nat.le_refl _) _).alloc (by simp) _).alloc (by simp; omega) _
  go_enter Tryz.func130, Tryz.ntmps130
  go_wp2_with fail
  refine (fstep175_c _ _  _ ((x0.cell 0).trans rfl) ((x1.cell 0).trans rfl) ).mono ?_
  rintro e w1 ⟨rfl, b1⟩
  go_wp2_with fail
  go_ret2
  exact ⟨rfl, b.trans (b1.mono b.size)⟩
set_option maxRecDepth 100000 in
theorem fstep6_c  (w : World) : Calls Tryz.prog 130 #[.int .i64 6, .int .i64 0, .bool false, .int .i64 2] w fun e w' => e = .returned (.tuple #[.int .i64 1, .bool true]) ∧ Below w.heap.size w w' := by
  have x0 : Has (((w.alloc (.cells #[.int .i64 0] 3)).alloc (.cells #[.bool false] 4)).alloc (.cells #[.int .i64 2] 3)) w.heap.size 3 #[.int .i64 0] := ((Has.new w #[.int .i64 0] 3).alloc _).alloc _
  have x1 : Has (((w.alloc (.cells #[.int .i64 0] 3)).alloc (.cells #[.bool false] 4)).alloc (.cells #[.int .i64 2] 3)) (w.heap.size + 1) 4 #[.bool false] := (has_made (by simp)).alloc _
  have x2 : Has (((w.alloc (.cells #[.int .i64 0] 3)).alloc (.cells #[.bool false] 4)).alloc (.cells #[.int .i64 2] 3)) (w.heap.size + 1 + 1) 3 #[.int .i64 2] := has_made (by simp)
  have b : Below w.heap.size w (((w.alloc (.cells #[.int .i64 0] 3)).alloc (.cells #[.bool false] 4)).alloc (.cells #[.int .i64 2] 3)) := (((Below.refl _ _).alloc (Nat.le_refl _) _).alloc (by simp) _).alloc (by simp; omega) _
  go_enter Tryz.func130, Tryz.ntmps130
  go_wp2_with fail
  refine (fstep173_c _ _ _ _ ((x0.cell 0).trans rfl) ((x1.cell 0).trans rfl) ((x2.cell 0).trans rfl)).mono ?_
  rintro e w1 ⟨rfl, b1⟩
  go_wp2_with fail
  go_ret2
  exact ⟨rfl, b.trans (b1.mono b.size)⟩
end
end Go.Proofs.YtngdebpaheejlaaGreatDoor
namespace Go.Proofs.YtngdebpaheejlaaGreatDoor
open Go.RowKit Go.Shelf
set_option linter.unusedSimpArgs false
set_option linter.unusedVariables false
theorem fnow0_c (f wh : Nat) (w : World) (c6 : w.cell? ⟨f, 6, none⟩ = some (.pointer (some ⟨wh, 0, none⟩))) (c0 : w.cell? ⟨wh, 0, none⟩ = some (.int .i64 0)) : Calls Tryz.prog 137 #[.pointer (some ⟨f, 0, none⟩)] w fun e w' => e = .returned (.int .i64 0) ∧ Below w.heap.size w w' := by
  have HL := Lib.hid (wnow_c wh w c0)
  clear c0
  go_enter Tryz.func137, Tryz.ntmps137
  go_wp2_with fail
  refine HL.out.mono ?_
  rintro e w1 ⟨rfl, rfl⟩
  go_wp2_with fail
  go_ret
  exact ⟨rfl, Below.refl _ _⟩
set_option maxRecDepth 100000 in
set_option maxHeartbeats 3200000 in
theorem farm20_c (S : Nat → Prop) (f pb wh mb t r i : Nat) (hi : i < 100) (a0 a1 a2 a3 a4 b0 b1 b2 b3 b4 v0 v1 : Int) (v3 : Bool) (w : World) (hH : Has w f 95 #[.int .i64 5, .int .i64 50, .int .i64 9, .int .i64 7, .int .i64 20, .pointer (some ⟨pb, 0, none⟩), .pointer (some ⟨wh, 0, none⟩), .pointer (some ⟨t, 0, none⟩), .int .i64 (r : Int)]) (hW : Whl S w wh mb i i 20) :
    Calls Tryz.prog 133 #[.pointer (some ⟨f, 0, none⟩), .int .i64 ((i : Int) + 1), .agg #[.int .i64 a0, .int .u32 a1, .int .u32 a2, .int .i64 a3, .int .i64 a4, .int .i64 b0, .int .u32 b1, .int .u32 b2, .int .i64 b3, .int .i64 b4, .int .i64 v0, .int .i64 v1, .int .i64 8, .bool v3]] w fun e w' => e = .returned (.tuple #[]) ∧ Whl (fun b => S b ∨ w.heap.size ≤ b) w' wh mb (i + 1) (i + 1) 20 ∧ Chg S w w' := by
  have hH1 := hH.alloc (.cells #[.int .i64 a0, .int .u32 a1, .int .u32 a2, .int .i64 a3, .int .i64 a4, .int .i64 b0, .int .u32 b1, .int .u32 b2, .int .i64 b3, .int .i64 b4, .int .i64 v0, .int .i64 v1, .int .i64 8, .bool v3] 99)
  have hX1 := Has.new w #[.int .i64 a0, .int .u32 a1, .int .u32 a2, .int .i64 a3, .int .i64 a4, .int .i64 b0, .int .u32 b1, .int .u32 b2, .int .i64 b3, .int .i64 b4, .int .i64 v0, .int .i64 v1, .int .i64 8, .bool v3] 99
  have hW1 := hW.keep (KeepM.alloc _ w (.cells #[.int .i64 a0, .int .u32 a1, .int .u32 a2, .int .i64 a3, .int .i64 a4, .int .i64 b0, .int .u32 b1, .int .u32 b2, .int .i64 b3, .int .i64 b4, .int .i64 v0, .int .i64 v1, .int .i64 8, .bool v3] 99))
  have hC1 := (Chg.refl S w).alloc (.cells #[.int .i64 a0, .int .u32 a1, .int .u32 a2, .int .i64 a3, .int .i64 a4, .int .i64 b0, .int .u32 b1, .int .u32 b2, .int .i64 b3, .int .i64 b4, .int .i64 v0, .int .i64 v1, .int .i64 8, .bool v3] 99)
  clear hH hW
  go_enter Tryz.func133, Tryz.ntmps133
  go_wp2_with fail
  generalize w.alloc (.cells #[.int .i64 a0, .int .u32 a1, .int .u32 a2, .int .i64 a3, .int .i64 a4, .int .i64 b0, .int .u32 b1, .int .u32 b2, .int .i64 b3, .int .i64 b4, .int .i64 v0, .int .i64 v1, .int .i64 8, .bool v3] 99) = w1 at hH1 hX1 hW1 hC1 ⊢
  have x0 : ∀ V : Gr w1, V.1.cell? ⟨f, 0, none⟩ = some (.int .i64 5) := fun V => ((V.has hH1).cell 0).trans rfl
  have x1 : ∀ V : Gr w1, V.1.cell? ⟨f, 1, none⟩ = some (.int .i64 50) := fun V => ((V.has hH1).cell 1).trans rfl
  have x2 : ∀ V : Gr w1, V.1.cell? ⟨f, 2, none⟩ = some (.int .i64 9) := fun V => ((V.has hH1).cell 2).trans rfl
  have x3 : ∀ V : Gr w1, V.1.cell? ⟨f, 3, none⟩ = some (.int .i64 7) := fun V => ((V.has hH1).cell 3).trans rfl
  have x4 : ∀ V : Gr w1, V.1.cell? ⟨f, 4, none⟩ = some (.int .i64 20) := fun V => ((V.has hH1).cell 4).trans rfl
  have y12 : ∀ V : Gr w1, V.1.cell? ⟨w.heap.size, 12, none⟩ = some (.int .i64 8) := fun V => ((V.has hX1).cell 12).trans rfl
  have HO : Hid (∀ V : Gr w1, Calls Tryz.prog 179 #[.agg #[.int .i64 5, .int .i64 50, .int .i64 9, .int .i64 7, .int .i64 20], .int .i64 8] V.1 fun e w' => e = .returned (.tuple #[.int .i64 20, .bool true]) ∧ Below V.1.heap.size V.1 w') := fun V => of_c 5 50 9 7 20 8 (by decide) V.1
  refine wp_region_grows (by kernel_rfl) (by kernel_rfl) ?_
  repeat (go_big_quiet_step (first | (go_at_call 179; with_reducible refine grows_call _ (HO.out _))))
  refine wpQuiet_nil ?_
  rintro _ ⟨V, rfl⟩
  have hH2 := V.has hH1
  have hW2 := hW1.keep (KeepM.below V.2)
  have hC2 := hC1.trans (Chg.of_below V.2)
  clear x0 x1 x2 x3 x4 y12 HO hH1 hX1 hW1 hC1
  go_wp2_with fail
  obtain ⟨w2, hw⟩ : ∃ W, W = V.1 := ⟨_, rfl⟩
  rw [← hw] at hH2 hW2 hC2 ⊢
  clear hw V
  have x6 : ∀ V : Gr w2, V.1.cell? ⟨f, 6, none⟩ = some (.pointer (some ⟨wh, 0, none⟩)) := fun V => ((V.has hH2).cell 6).trans rfl
  have HN : Hid (∀ V : Gr w2, Calls Tryz.prog 137 #[.pointer (some ⟨f, 0, none⟩)] V.1 fun e w' => e = .returned (.int .i64 0) ∧ Below V.1.heap.size V.1 w') := fun V => fnow0_c f wh V.1 (x6 V) (by
    obtain ⟨_, _, ⟨xs, z, sv, q1, q2, _⟩, _⟩ := hW2
    exact ((V.has q1).cell 0).trans q2)
  refine wp_region_grows_tail 10 (by kernel_rfl) (by kernel_rfl) ?_
  simp only [List.take_succ_cons, List.take_zero, List.drop_succ_cons, List.drop_zero]
  repeat (go_big_quiet_step (first | (go_at_call 137; with_reducible refine grows_call _ (HN.out _))))
  refine wpQuiet_nil ?_
  rintro _ ⟨V, rfl⟩
  have hW3 := hW2.keep (KeepM.below V.2)
  have hC3 := hC2.trans (Chg.of_below V.2)
  clear x6 HN hW2 hC2 hH2
  obtain ⟨w3, hw⟩ : ∃ W, W = V.1 := ⟨_, rfl⟩
  rw [← hw] at hW3 hC3 ⊢
  clear hw V
  have HA := Lib.hid (warm20_c S wh mb i i (i + 1) (by omega) rfl (by omega) w3 hW3)
  clear hW3
  go_wp2_with fail
  refine HA.out.mono ?_
  rintro e w4 ⟨rfl, W4, c4⟩
  go_wp2_with fail
  refine bodyPost_end (v := .tuple #[]) (by simp [results, Tryz.f133, go_sem]) rfl ⟨rfl, W4.mono (fun b h => h.imp id (Nat.le_trans hC3.size)), hC3.trans c4⟩
set_option maxRecDepth 100000 in
set_option maxHeartbeats 3200000 in
theorem farm5_c (S : Nat → Prop) (f pb wh mb t r i : Nat) (hi : i < 100) (a0 a1 a2 a3 a4 b0 b1 b2 b3 b4 v0 v1 : Int) (v3 : Bool) (w : World) (hH : Has w f 95 #[.int .i64 5, .int .i64 50, .int .i64 9, .int .i64 7, .int .i64 20, .pointer (some ⟨pb, 0, none⟩), .pointer (some ⟨wh, 0, none⟩), .pointer (some ⟨t, 0, none⟩), .int .i64 (r : Int)]) (hW : Whl S w wh mb i i 5) :
    Calls Tryz.prog 133 #[.pointer (some ⟨f, 0, none⟩), .int .i64 ((i : Int) + 1), .agg #[.int .i64 a0, .int .u32 a1, .int .u32 a2, .int .i64 a3, .int .i64 a4, .int .i64 b0, .int .u32 b1, .int .u32 b2, .int .i64 b3, .int .i64 b4, .int .i64 v0, .int .i64 v1, .int .i64 1, .bool v3]] w fun e w' => e = .returned (.tuple #[]) ∧ Whl (fun b => S b ∨ w.heap.size ≤ b) w' wh mb (i + 1) (i + 1) 5 ∧ Chg S w w' := by
  have hH1 := hH.alloc (.cells #[.int .i64 a0, .int .u32 a1, .int .u32 a2, .int .i64 a3, .int .i64 a4, .int .i64 b0, .int .u32 b1, .int .u32 b2, .int .i64 b3, .int .i64 b4, .int .i64 v0, .int .i64 v1, .int .i64 1, .bool v3] 99)
  have hX1 := Has.new w #[.int .i64 a0, .int .u32 a1, .int .u32 a2, .int .i64 a3, .int .i64 a4, .int .i64 b0, .int .u32 b1, .int .u32 b2, .int .i64 b3, .int .i64 b4, .int .i64 v0, .int .i64 v1, .int .i64 1, .bool v3] 99
  have hW1 := hW.keep (KeepM.alloc _ w (.cells #[.int .i64 a0, .int .u32 a1, .int .u32 a2, .int .i64 a3, .int .i64 a4, .int .i64 b0, .int .u32 b1, .int .u32 b2, .int .i64 b3, .int .i64 b4, .int .i64 v0, .int .i64 v1, .int .i64 1, .bool v3] 99))
  have hC1 := (Chg.refl S w).alloc (.cells #[.int .i64 a0, .int .u32 a1, .int .u32 a2, .int .i64 a3, .int .i64 a4, .int .i64 b0, .int .u32 b1, .int .u32 b2, .int .i64 b3, .int .i64 b4, .int .i64 v0, .int .i64 v1, .int .i64 1, .bool v3] 99)
  clear hH hW
  go_enter Tryz.func133, Tryz.ntmps133
  go_wp2_with fail
  generalize w.alloc (.cells #[.int .i64 a0, .int .u32 a1, .int .u32 a2, .int .i64 a3, .int .i64 a4, .int .i64 b0, .int .u32 b1, .int .u32 b2, .int .i64 b3, .int .i64 b4, .int .i64 v0, .int .i64 v1, .int .i64 1, .bool v3] 99) = w1 at hH1 hX1 hW1 hC1 ⊢
  have x0 : ∀ V : Gr w1, V.1.cell? ⟨f, 0, none⟩ = some (.int .i64 5) := fun V => ((V.has hH1).cell 0).trans rfl
  have x1 : ∀ V : Gr w1, V.1.cell? ⟨f, 1, none⟩ = some (.int .i64 50) := fun V => ((V.has hH1).cell 1).trans rfl
  have x2 : ∀ V : Gr w1, V.1.cell? ⟨f, 2, none⟩ = some (.int .i64 9) := fun V => ((V.has hH1).cell 2).trans rfl
  have x3 : ∀ V : Gr w1, V.1.cell? ⟨f, 3, none⟩ = some (.int .i64 7) := fun V => ((V.has hH1).cell 3).trans rfl
  have x4 : ∀ V : Gr w1, V.1.cell? ⟨f, 4, none⟩ = some (.int .i64 20) := fun V => ((V.has hH1).cell 4).trans rfl
  have y12 : ∀ V : Gr w1, V.1.cell? ⟨w.heap.size, 12, none⟩ = some (.int .i64 1) := fun V => ((V.has hX1).cell 12).trans rfl
  have HO : Hid (∀ V : Gr w1, Calls Tryz.prog 179 #[.agg #[.int .i64 5, .int .i64 50, .int .i64 9, .int .i64 7, .int .i64 20], .int .i64 1] V.1 fun e w' => e = .returned (.tuple #[.int .i64 5, .bool true]) ∧ Below V.1.heap.size V.1 w') := fun V => of_c 5 50 9 7 20 1 (by decide) V.1
  refine wp_region_grows (by kernel_rfl) (by kernel_rfl) ?_
  repeat (go_big_quiet_step (first | (go_at_call 179; with_reducible refine grows_call _ (HO.out _))))
  refine wpQuiet_nil ?_
  rintro _ ⟨V, rfl⟩
  have hH2 := V.has hH1
  have hW2 := hW1.keep (KeepM.below V.2)
  have hC2 := hC1.trans (Chg.of_below V.2)
  clear x0 x1 x2 x3 x4 y12 HO hH1 hX1 hW1 hC1
  go_wp2_with fail
  obtain ⟨w2, hw⟩ : ∃ W, W = V.1 := ⟨_, rfl⟩
  rw [← hw] at hH2 hW2 hC2 ⊢
  clear hw V
  have x6 : ∀ V : Gr w2, V.1.cell? ⟨f, 6, none⟩ = some (.pointer (some ⟨wh, 0, none⟩)) := fun V => ((V.has hH2).cell 6).trans rfl
  have HN : Hid (∀ V : Gr w2, Calls Tryz.prog 137 #[.pointer (some ⟨f, 0, none⟩)] V.1 fun e w' => e = .returned (.int .i64 0) ∧ Below V.1.heap.size V.1 w') := fun V => fnow0_c f wh V.1 (x6 V) (by
    obtain ⟨_, _, ⟨xs, z, sv, q1, q2, _⟩, _⟩ := hW2
    exact ((V.has q1).cell 0).trans q2)
  refine wp_region_grows_tail 10 (by kernel_rfl) (by kernel_rfl) ?_
  simp only [List.take_succ_cons, List.take_zero, List.drop_succ_cons, List.drop_zero]
  repeat (go_big_quiet_step (first | (go_at_call 137; with_reducible refine grows_call _ (HN.out _))))
  refine wpQuiet_nil ?_
  rintro _ ⟨V, rfl⟩
  have hW3 := hW2.keep (KeepM.below V.2)
  have hC3 := hC2.trans (Chg.of_below V.2)
  clear x6 HN hW2 hC2 hH2
  obtain ⟨w3, hw⟩ : ∃ W, W = V.1 := ⟨_, rfl⟩
  rw [← hw] at hW3 hC3 ⊢
  clear hw V
  have HA := Lib.hid (warm5_c S wh mb i i (i + 1) (by omega) rfl (by omega) w3 hW3)
  clear hW3
  go_wp2_with fail
  refine HA.out.mono ?_
  rintro e w4 ⟨rfl, W4, c4⟩
  go_wp2_with fail
  refine bodyPost_end (v := .tuple #[]) (by simp [results, Tryz.f133, go_sem]) rfl ⟨rfl, W4.mono (fun b h => h.imp id (Nat.le_trans hC3.size)), hC3.trans c4⟩
end Go.Proofs.YtngdebpaheejlaaGreatDoor
