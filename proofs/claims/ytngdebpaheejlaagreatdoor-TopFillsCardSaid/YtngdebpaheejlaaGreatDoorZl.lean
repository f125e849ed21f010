/- Ports (chapter 15): what stands in memory; New; Take of a key that has its part. Ports (chapter 15): Take of a key that has no part yet. (Its second half is that of text PT: PU.tpl takes it out of PT.tpl.). -/
import Derived.Test.YtngdebpaheejlaaGreatDoorCU
import Derived.Test.YtngdebpaheejlaaGreatDoorZi
namespace Go.Proofs.YtngdebpaheejlaaGreatDoor
open Go.RowKit Go.Shelf
set_option linter.unusedSimpArgs false
set_option linter.unusedVariables false
theorem keyed292 : Maps.Keyed Tryz.prog 292 := Maps.Keyed.of_law (deep_law_laid (by kernel_rfl) (m := 3) (by decide) (of_decide_eq_true (by kernel_rfl)) (by kernel_rfl) (by kernel_rfl))
theorem zero336 (w : World) : (zeroValue 336).run Tryz.prog w = .ok (.pointer none) w := by kernel_rfl
theorem Tab_keep {w w' : World} (h : CU.Tab w) (e : w'.heap[0]? = w.heap[0]?) : CU.Tab w' := fun j hj => by
  have := h j hj
  unfold World.cell? at *
  rw [e]
  exact this
set_option maxRecDepth 100000 in
theorem ptnew_c (k : Nat) (h1 : 1 ≤ k) (h2 : k ≤ 30) (w : World) : Calls Tryz.prog 57 #[.int .i64 2000, .int .i64 k, .int .i64 10] w fun e w' => ∃ pb pm, e = .returned (.tuple #[.pointer (some ⟨pb, 0, none⟩), .int .i64 0]) ∧ Has w' pb 241 #[.int .i64 2000, .int .i64 k, .int .i64 10, .map (some pm)] ∧ KMap (fun b => w.heap.size ≤ b) w' 292 pm 0 (fun _ => none) ∧ w.heap.size ≤ pb ∧ Below w.heap.size w w' := by
  have hmm := @run_makeMap Tryz.prog
  have i1 : ¬ (k : Int) < 1 := by omega
  have i2 : ¬ (63536 : Int) < (k : Int) := by omega
  go_enter Tryz.func57, Tryz.ntmps57
  go_wp2_with fail
  go_ret2
  exact ⟨w.heap.size + 1, rfl, w.heap.size, has_made (by simp), (KMap.made _ w 292 (Nat.le_refl _)).keep1 (Below.heap_alloc _ _ _ (by simp)), by omega, ((Below.refl _ _).alloc (Nat.le_refl _) _).alloc (by simp) _⟩
/-- The ports of a key of which i have been lent. -/
structure PortB (S : Nat → Prop) (w : World) (pb pm k i n : Nat) (g : Value → Option Value) (kv : Value) (xb cb wb lm gm : Nat) : Prop where
  o1 : S pb
  o2 : S xb
  o3 : S cb
  o4 : S wb
  o5 : S lm
  o6 : S gm
  head : Has w pb 241 #[.int .i64 2000, .int .i64 k, .int .i64 10, .map (some pm)]
  parts : KMap S w 292 pm n g
  at_ : g kv = some (.pointer (some ⟨xb, 0, none⟩))
  part : Has w xb 343 #[.pointer (some ⟨cb, 0, none⟩), .map (some lm), .map (some gm)]
  cur : CU.Cur w cb wb k (i % k) (fun j => decide (j < i))
  lent : ∃ nl M, nl ≤ i ∧ GMap Tryz.prog w 3 lm nl M
  given : GMap Tryz.prog w 3 gm 0 (fun _ => none)
  n1 : lm ≠ gm
  n2 : lm ≠ pm
  n3 : gm ≠ pm
theorem PortB.keep {S : Nat → Prop} {w w' : World} {pb pm k i n xb cb wb lm gm : Nat} {g : Value → Option Value} {kv : Value} (h : PortB S w pb pm k i n g kv xb cb wb lm gm) (hk : KeepM S w w') : PortB S w' pb pm k i n g kv xb cb wb lm gm := by
  obtain ⟨nl, M, l1, l2⟩ := h.lent
  obtain ⟨W, c1, c2⟩ := h.cur.words
  exact ⟨h.o1, h.o2, h.o3, h.o4, h.o5, h.o6, hk.keep _ _ _ h.o1 h.head, h.parts.keep hk, h.at_, hk.keep _ _ _ h.o2 h.part, ⟨hk.keep _ _ _ h.o3 h.cur.head, ⟨W, hk.keep _ _ _ h.o4 c1, c2⟩, h.cur.lo, h.cur.hi, h.cur.hat, h.cur.top, h.cur.ne⟩, ⟨nl, M, l1, l2.of_block (hk _ l2.lt h.o5)⟩, h.given.of_block (hk _ h.given.lt h.o6), h.n1, h.n2, h.n3⟩
theorem PortB.mono {S T : Nat → Prop} {w : World} {pb pm k i n xb cb wb lm gm : Nat} {g : Value → Option Value} {kv : Value} (h : PortB S w pb pm k i n g kv xb cb wb lm gm) (hS : ∀ b, S b → T b) : PortB T w pb pm k i n g kv xb cb wb lm gm :=
  ⟨hS _ h.o1, hS _ h.o2, hS _ h.o3, hS _ h.o4, hS _ h.o5, hS _ h.o6, h.head, h.parts.mono hS, h.at_, h.part, h.cur, h.lent, h.given, h.n1, h.n2, h.n3⟩
theorem only_chg {cb wb : Nat} {w w' : World} (h : CU.V2.Only cb wb w w') : Chg (fun b => b = cb ∨ b = wb) w w' := by
  have b := h.1 0 (Nat.zero_le _) (Nat.zero_le _)
  exact ⟨b.os, b.tape, b.output, Nat.le_of_eq h.2.1.symm, fun k _ hn => h.2.2 k (fun e => hn (.inl e)) (fun e => hn (.inr e))⟩
theorem PortB.turn' {S : Nat → Prop} {w w' : World} {pb pm k i j n xb cb wb lm gm : Nat} {g : Value → Option Value} {kv : Value} (h : PortB S w pb pm k i n g kv xb cb wb lm gm) (hG : Chg (fun b => b = cb ∨ b = wb) w w') (hc : CU.Cur w' cb wb k (j % k) (fun x => decide (x < j))) (hij : i ≤ j) : PortB S w' pb pm k j n g kv xb cb wb lm gm := by
  obtain ⟨nl, M, l1, l2⟩ := h.lent
  obtain ⟨W, c1, c2⟩ := h.cur.words
  have hm : ∀ b m (N : Lit → Option Value) K, GMap Tryz.prog w K b m N → ¬ (b = cb ∨ b = wb) := fun b m N K G e => by
    rcases e with e | e
    · exact G.neHas h.cur.head e
    · exact G.neHas c1 e
  have hh : ∀ b t xs, Has w b t xs → t ≠ 366 → t ≠ 244 → ¬ (b = cb ∨ b = wb) := fun b t xs H t1 t2 e => by
    rcases e with e | e
    · exact H.ne h.cur.head t1 e
    · exact H.ne c1 t2 e
  refine ⟨h.o1, h.o2, h.o3, h.o4, h.o5, h.o6, h.head.chg hG (hh _ _ _ h.head (by decide) (by decide)), ?_, h.at_, h.part.chg hG (hh _ _ _ h.part (by decide) (by decide)), hc, ⟨nl, M, by omega, l2.chg hG (hm _ _ _ _ l2)⟩, h.given.chg hG (hm _ _ _ _ h.given), h.n1, h.n2, h.n3⟩
  obtain ⟨s, M2, r1, r2⟩ := h.parts
  exact ⟨s, M2, r1.chg hG (hm _ _ _ _ r1), r2⟩
theorem PortB.turn {S : Nat → Prop} {w w' : World} {pb pm k i n xb cb wb lm gm : Nat} {g : Value → Option Value} {kv : Value} (h : PortB S w pb pm k i n g kv xb cb wb lm gm) (hG : Chg (fun b => b = cb ∨ b = wb) w w') (hc : CU.Cur w' cb wb k (i % k) (fun x => decide (x < i))) : PortB S w' pb pm k i n g kv xb cb wb lm gm := h.turn' hG hc (Nat.le_refl _)
set_option maxRecDepth 100000 in
set_option maxHeartbeats 3200000 in
theorem pttake_t (S : Nat → Prop) (pb pm k i n xb cb wb lm gm : Nat) (g : Value → Option Value) (k0 k1 k2 k3 : Int) (hkv : (keyOf Tryz.prog 292 (.agg #[.int .i64 k0, .int .u32 k1, .int .u32 k2, .int .i64 k3])).isSome = true) (hik : i ≤ k) (hk : k ≤ 30) (w : World) (hT : CU.Tab w) (hS : ∀ b, S b → b < w.heap.size) (h0 : ¬ S 0) (h : PortB S w pb pm k i n g (.agg #[.int .i64 k0, .int .u32 k1, .int .u32 k2, .int .i64 k3]) xb cb wb lm gm) :
    Calls Tryz.prog 138 #[.pointer (some ⟨pb, 0, none⟩), .agg #[.int .i64 k0, .int .u32 k1, .int .u32 k2, .int .i64 k3], .int .i64 0] w fun e w' => ((i < k ∧ e = .returned (.tuple #[.int .i64 ((2000 + i : Nat) : Int), .int .i64 0]) ∧ PortB S w' pb pm k (i + 1) n g (.agg #[.int .i64 k0, .int .u32 k1, .int .u32 k2, .int .i64 k3]) xb cb wb lm gm) ∨ (i = k ∧ e = .returned (.tuple #[.int .i64 0, .int .i64 17]) ∧ PortB S w' pb pm k i n g (.agg #[.int .i64 k0, .int .u32 k1, .int .u32 k2, .int .i64 k3]) xb cb wb lm gm)) ∧ Chg S w w' := by
  have h1 := h.keep (KeepM.alloc _ w (.cells #[.int .i64 k0, .int .u32 k1, .int .u32 k2, .int .i64 k3] 292))
  have hX := Has.new w #[.int .i64 k0, .int .u32 k1, .int .u32 k2, .int .i64 k3] 292
  have hC := (Chg.refl S w).alloc (.cells #[.int .i64 k0, .int .u32 k1, .int .u32 k2, .int .i64 k3] 292)
  have w0 : 0 < w.heap.size := by
    have := hT 0 (by decide)
    rcases Nat.eq_zero_or_pos w.heap.size with q | q
    · simp [World.cell?, Array.getElem?_eq_none (show w.heap.size ≤ 0 by omega)] at this
    · exact q
  have hT1 : CU.Tab (w.alloc (.cells #[.int .i64 k0, .int .u32 k1, .int .u32 k2, .int .i64 k3] 292)) := Tab_keep hT (Below.heap_alloc _ _ _ w0)
  go_enter Tryz.func138, Tryz.ntmps138
  go_wp2_with fail
  obtain ⟨w1, hw⟩ : ∃ W, W = w.alloc (.cells #[.int .i64 k0, .int .u32 k1, .int .u32 k2, .int .i64 k3] 292) := ⟨_, rfl⟩
  have z1 : w1.heap.size = w.heap.size + 1 := by rw [hw]; simp
  rw [← hw] at h1 hX hC hT1 ⊢
  obtain ⟨bx, hbx⟩ : ∃ b, b = w.heap.size := ⟨_, rfl⟩
  rw [← hbx] at hX z1 ⊢
  have HBX := Lib.hid hbx
  clear hw hbx h
  have KA : Hid (∀ W, Below w1.heap.size w1 W → W.cell? ⟨pb, 3, none⟩ = some (.map (some pm)) ∧ W.cell? ⟨bx, 0, none⟩ = some (.int .i64 k0) ∧ W.cell? ⟨bx, 1, none⟩ = some (.int .u32 k1) ∧ W.cell? ⟨bx, 2, none⟩ = some (.int .u32 k2) ∧ W.cell? ⟨bx, 3, none⟩ = some (.int .i64 k3) ∧ (Instr.lookup 239 (.map (some pm)) (.agg #[.int .i64 k0, .int .u32 k1, .int .u32 k2, .int .i64 k3]) true).run Tryz.prog W = .ok (.tuple #[.pointer (some ⟨xb, 0, none⟩), .bool true]) W) := fun W hW => by
    have q := h1.keep (KeepM.below hW)
    have x := hX.below hW
    exact ⟨(q.head.cell 3).trans rfl, (x.cell 0).trans rfl, (x.cell 1).trans rfl, (x.cell 2).trans rfl, (x.cell 3).trans rfl, q.parts.look_ok keyed292 Tryz.underlying239 zero336 _ hkv _ _ (by rw [q.at_]; rfl) (by rw [q.at_]; rfl)⟩
  go_region_held3 (fun W => W.cell? ⟨pb, 3, none⟩ = some (.map (some pm)) ∧ W.cell? ⟨bx, 0, none⟩ = some (.int .i64 k0) ∧ W.cell? ⟨bx, 1, none⟩ = some (.int .u32 k1) ∧ W.cell? ⟨bx, 2, none⟩ = some (.int .u32 k2) ∧ W.cell? ⟨bx, 3, none⟩ = some (.int .i64 k3) ∧ (Instr.lookup 239 (.map (some pm)) (.agg #[.int .i64 k0, .int .u32 k1, .int .u32 k2, .int .i64 k3]) true).run Tryz.prog W = .ok (.tuple #[.pointer (some ⟨xb, 0, none⟩), .bool true]) W) (first | exact KA.out _ ((Below.refl _ _).drew)) (fail)
  have h2 : PortB S w1.drew pb pm k i n g (.agg #[.int .i64 k0, .int .u32 k1, .int .u32 k2, .int .i64 k3]) xb cb wb lm gm := h1.keep (fun _ _ _ => rfl)
  have hC2 := hC.drew
  have hT2 : CU.Tab w1.drew := hT1
  have z2 : w1.drew.heap.size = bx + 1 := z1
  clear h1 hX hC hT1 KA z1
  generalize w1.drew = w2 at h2 hC2 hT2 z2 ⊢
  have p2 := h2.part.cell 2
  simp at p2
  have G := h2.given
  go_wp2_with (at_range; go_loud (refine wpList_gm_range _ rfl _ _ rfl keyed3 Tryz.underlying132 rfl G ?_; intro w3 R hb3 hs3))
  have h3 := h2.keep (KeepM.below hb3)
  have hC3 := hC2.trans (Chg.of_below hb3)
  have hT3 : CU.Tab w3 := Tab_keep hT2 (hb3.block 0 (by omega))
  clear G p2 h2 hC2 hT2
  try go_frame
  have p0 := h3.part.cell 0
  have p1 := h3.part.cell 1
  have d0 := h3.head.cell 0
  simp at p0 p1 d0
  refine wp_loop_once ?_
  go_wp2_with (at_next; go_loud (refine wpList_gm_next (α := Int) (β := Int) _ rfl _ rfl keyed3 (Value.int .i64) (Value.int .i64) (fun key kl hk => by obtain ⟨x, h, _⟩ := Maps.keyOf_int_inv Tryz.underlying3 hk; exact ⟨x, h⟩) rfl R R.lt (fun _ _ h => by cases h) (fun _ h => h) (fun hdone => ?_) (fun x cv kl w3 cnt' hk hl hM => by cases hM)))
  refine (CU.V2.take_c cb wb k (i % k) _ _ hT3 h3.cur).mono ?_
  rintro e w4 (⟨hall, rfl, hc4, ho4⟩ | ⟨q, hq, rfl, hc4, ho4⟩)
  · have hki : i = k := by
      rcases Nat.lt_or_ge i k with q | q
      · have := hall i q; simp at this
      · omega
    have hG : Chg (fun b => b = cb ∨ b = wb) w3 w4 := only_chg ho4
    have h4 : PortB S w4 pb pm k i n g (.agg #[.int .i64 k0, .int .u32 k1, .int .u32 k2, .int .i64 k3]) xb cb wb lm gm := h3.turn hG hc4
    have hC4 := hC3.trans (hG.mono (fun b _ e => by rcases e with rfl | rfl; exact h3.o3; exact h3.o4))
    clear p0 p1 d0
    go_wp2_with fail
    go_ret2
    exact ⟨.inr ⟨hki, rfl, h4⟩, hC4⟩
  · obtain ⟨hqk, hqi, hqn⟩ := hq
    have hqi' : i ≤ q := by simpa using hqi
    have hik' : i < k := by omega
    have him : i % k = i := Nat.mod_eq_of_lt hik'
    have hqe : q = i := by
      rcases hqn with ⟨_, hj⟩ | ⟨hj, _⟩
      · rcases Nat.lt_or_ge i q with r | r
        · have := hj i (by omega) r; simp at this
        · omega
      · omega
    subst hqe
    have hG : Chg (fun b => b = cb ∨ b = wb) w3 w4 := only_chg ho4
    have eU : CU.setU (fun j => decide (j < q)) q true = fun j => decide (j < q + 1) := funext fun j => by
      unfold CU.setU
      by_cases e : j = q
      · simp [e]
      · simp [e]; omega
    rw [eU] at hc4
    have h4 : PortB S w4 pb pm k (q + 1) n g (.agg #[.int .i64 k0, .int .u32 k1, .int .u32 k2, .int .i64 k3]) xb cb wb lm gm := h3.turn' hG hc4 (Nat.le_succ _)
    have hC4 := hC3.trans (hG.mono (fun b _ e => by rcases e with rfl | rfl; exact h3.o3; exact h3.o4))
    obtain ⟨nl, M, hl1, GL⟩ := h3.lent
    have GL4 : GMap Tryz.prog w4 3 lm nl M := GL.of_block (hG.block lm GL.lt (by rintro (e | e); exact GL.neHas h3.cur.head e; obtain ⟨W, c1, _⟩ := h3.cur.words; exact GL.neHas c1 e))
    have p1 := h4.part.cell 1
    have d0 := h4.head.cell 0
    simp at p1 d0
    have H4 := Lib.hid h4
    have hml : nl < maxLen := by unfold maxLen; omega
    clear h3 h4 hqi hqn p0 hc4
    go_wp2_with ((with_reducible refine is_update ?_); go_loud (refine wpList_gm_update _ rfl _ _ _ _ rfl keyed3 Tryz.underlying341 rfl GL4 hml _ _ (.int .i64 _) trivial rfl rfl (key3 q (by omega)) ?_; intro w5 G5 T5; have K5 := Keep.turned (S := fun _ => True) T5; have d5 := ((K5 _ _ _ trivial H4.out.head).cell 0); simp at d5))
    go_ret2
    have hl5 : (if (M (.int .i64 (q : Int))).isSome then nl else nl + 1) ≤ q + 1 := by split <;> omega
    have h5 : PortB S w5 pb pm k (q + 1) n g (.agg #[.int .i64 k0, .int .u32 k1, .int .u32 k2, .int .i64 k3]) xb cb wb lm gm := by
      have h4 := H4.out
      obtain ⟨W, c1, c2⟩ := h4.cur.words
      exact ⟨h4.o1, h4.o2, h4.o3, h4.o4, h4.o5, h4.o6, K5 _ _ _ trivial h4.head, h4.parts.keep1 (turned_block T5 h4.n2.symm), h4.at_, K5 _ _ _ trivial h4.part, ⟨K5 _ _ _ trivial h4.cur.head, ⟨W, K5 _ _ _ trivial c1, c2⟩, h4.cur.lo, h4.cur.hi, h4.cur.hat, h4.cur.top, h4.cur.ne⟩, ⟨_, _, hl5, G5⟩, h4.given.of_block (turned_block T5 h4.n1.symm), h4.n1, h4.n2, h4.n3⟩
    refine ⟨.inl ⟨hik', ?_, h5⟩, hC4.trans (Chg.turned T5 H4.out.o5)⟩
    rfl
end Go.Proofs.YtngdebpaheejlaaGreatDoor
namespace Go.Proofs.YtngdebpaheejlaaGreatDoor
open Go.RowKit Go.Shelf
set_option linter.unusedSimpArgs false
set_option linter.unusedVariables false
open Classical in
noncomputable def setK (g : Value → Option Value) (kv x : Value) : Value → Option Value := fun v => if v = kv then some x else g v
theorem setK_same (g : Value → Option Value) (kv x : Value) : setK g kv x kv = some x := if_pos rfl
theorem setK_ne (g : Value → Option Value) (kv x : Value) {v : Value} (h : v ≠ kv) : setK g kv x v = g v := if_neg h
set_option maxRecDepth 100000 in
set_option maxHeartbeats 3200000 in
theorem ptfirst_t (S : Nat → Prop) (pb pm k n : Nat) (g : Value → Option Value) (k0 k1 k2 k3 : Int) (hkv : (keyOf Tryz.prog 292 (.agg #[.int .i64 k0, .int .u32 k1, .int .u32 k2, .int .i64 k3])).isSome = true) (hk1 : 1 ≤ k) (hk : k ≤ 30) (hn : n < 1000) (w : World) (hT : CU.Tab w) (hS : ∀ b, S b → b < w.heap.size) (h0 : ¬ S 0) (so : S pb)
    (hH : Has w pb 241 #[.int .i64 2000, .int .i64 k, .int .i64 10, .map (some pm)]) (hP : KMap S w 292 pm n g) (hno : g (.agg #[.int .i64 k0, .int .u32 k1, .int .u32 k2, .int .i64 k3]) = none) :
    Calls Tryz.prog 138 #[.pointer (some ⟨pb, 0, none⟩), .agg #[.int .i64 k0, .int .u32 k1, .int .u32 k2, .int .i64 k3], .int .i64 0] w fun e w' => ∃ g' xb cb wb lm gm, g' (.agg #[.int .i64 k0, .int .u32 k1, .int .u32 k2, .int .i64 k3]) = some (.pointer (some ⟨xb, 0, none⟩)) ∧ ∃ i, i = 0 ∧ ((i < k ∧ e = .returned (.tuple #[.int .i64 ((2000 + i : Nat) : Int), .int .i64 0]) ∧ PortB (fun b => S b ∨ w.heap.size ≤ b) w' pb pm k (i + 1) (n + 1) g' (.agg #[.int .i64 k0, .int .u32 k1, .int .u32 k2, .int .i64 k3]) xb cb wb lm gm) ∨ (i = k ∧ e = .returned (.tuple #[.int .i64 0, .int .i64 17]) ∧ PortB (fun b => S b ∨ w.heap.size ≤ b) w' pb pm k i (n + 1) g' (.agg #[.int .i64 k0, .int .u32 k1, .int .u32 k2, .int .i64 k3]) xb cb wb lm gm)) ∧ Chg (fun b => S b ∨ w.heap.size ≤ b) w w' := by
  have hmm := @run_makeMap Tryz.prog
  have hH1 := hH.alloc (.cells #[.int .i64 k0, .int .u32 k1, .int .u32 k2, .int .i64 k3] 292)
  have hP1 := hP.keep (KeepM.alloc _ w (.cells #[.int .i64 k0, .int .u32 k1, .int .u32 k2, .int .i64 k3] 292))
  have hX := Has.new w #[.int .i64 k0, .int .u32 k1, .int .u32 k2, .int .i64 k3] 292
  have hb1 := (Below.refl w.heap.size w).alloc (Nat.le_refl _) (.cells #[.int .i64 k0, .int .u32 k1, .int .u32 k2, .int .i64 k3] 292)
  have w0 : 0 < w.heap.size := by
    have := hT 0 (by decide)
    rcases Nat.eq_zero_or_pos w.heap.size with q | q
    · simp [World.cell?, Array.getElem?_eq_none (show w.heap.size ≤ 0 by omega)] at this
    · exact q
  have HN := Lib.hid (fun W => CU.new_c k hk1 (by omega) W)
  go_enter Tryz.func138, Tryz.ntmps138
  go_wp2_with fail
  obtain ⟨w1, hw⟩ : ∃ W, W = w.alloc (.cells #[.int .i64 k0, .int .u32 k1, .int .u32 k2, .int .i64 k3] 292) := ⟨_, rfl⟩
  have z1 : w1.heap.size = w.heap.size + 1 := by rw [hw]; simp
  rw [← hw] at hH1 hP1 hX hb1 ⊢
  obtain ⟨bx, hbx⟩ : ∃ b, b = w.heap.size := ⟨_, rfl⟩
  have HBX := Lib.hid hbx
  rw [← hbx] at hX z1 w0 ⊢
  clear hw hbx
  have KA : Hid (∀ W, Below w1.heap.size w1 W → W.cell? ⟨pb, 3, none⟩ = some (.map (some pm)) ∧ W.cell? ⟨bx, 0, none⟩ = some (.int .i64 k0) ∧ W.cell? ⟨bx, 1, none⟩ = some (.int .u32 k1) ∧ W.cell? ⟨bx, 2, none⟩ = some (.int .u32 k2) ∧ W.cell? ⟨bx, 3, none⟩ = some (.int .i64 k3) ∧ (Instr.lookup 239 (.map (some pm)) (.agg #[.int .i64 k0, .int .u32 k1, .int .u32 k2, .int .i64 k3]) true).run Tryz.prog W = .ok (.tuple #[.pointer none, .bool false]) W) := fun W hW => by
    have q := hH1.below hW
    have x := hX.below hW
    exact ⟨(q.cell 3).trans rfl, (x.cell 0).trans rfl, (x.cell 1).trans rfl, (x.cell 2).trans rfl, (x.cell 3).trans rfl, (hP1.keep (KeepM.below hW)).look_ok keyed292 Tryz.underlying239 zero336 _ hkv _ _ (by rw [hno]; rfl) (by rw [hno]; rfl)⟩
  go_region_held3 (fun W => W.cell? ⟨pb, 3, none⟩ = some (.map (some pm)) ∧ W.cell? ⟨bx, 0, none⟩ = some (.int .i64 k0) ∧ W.cell? ⟨bx, 1, none⟩ = some (.int .u32 k1) ∧ W.cell? ⟨bx, 2, none⟩ = some (.int .u32 k2) ∧ W.cell? ⟨bx, 3, none⟩ = some (.int .i64 k3) ∧ (Instr.lookup 239 (.map (some pm)) (.agg #[.int .i64 k0, .int .u32 k1, .int .u32 k2, .int .i64 k3]) true).run Tryz.prog W = .ok (.tuple #[.pointer none, .bool false]) W) (first | exact KA.out _ ((Below.refl _ _).drew)) (fail)
  have hH2 := hH1.drew
  have hX2 := hX.drew
  have hP2 : KMap S w1.drew 292 pm n g := hP1.keep1 rfl
  have hb2 := hb1.drew
  have z2 : w1.drew.heap.size = bx + 1 := z1
  clear hH1 hX hP1 hb1 z1 KA
  generalize w1.drew = w2 at hH2 hX2 hP2 hb2 z2 ⊢
  have d1 := hH2.cell 1
  simp at d1
  go_wp2_with fail
  refine (HN.out _).mono ?_
  rintro e w3 ⟨rfl, hc, b3⟩
  obtain ⟨cb, hcb⟩ : ∃ c, c = w2.heap.size + 1 := ⟨_, rfl⟩
  obtain ⟨wb, hwb⟩ : ∃ c, c = w2.heap.size := ⟨_, rfl⟩
  rw [← hcb, ← hwb] at hc
  rw [← hcb]
  have LO : Hid (bx + 1 ≤ wb ∧ bx + 1 ≤ cb ∧ wb < w3.heap.size ∧ cb < w3.heap.size) := by
    obtain ⟨W, c1, _⟩ := hc.words
    exact ⟨by omega, by omega, c1.lt, hc.head.lt⟩
  have b3' : Below w.heap.size w w3 := hb2.trans (b3.mono (by have := HBX.out; omega))
  have hH3 := hH2.below b3
  have hX3 := hX2.below b3
  have hP3 := hP2.keep (KeepM.below b3)
  clear hcb hwb hH2 hX2 hP2 hb2 HN d1 b3 z2
  go_wp2_with fail
  obtain ⟨W, c1, c2⟩ := hc.words
  have hL := GMap.made Tryz.prog w3 3
  have hG : GMap Tryz.prog ((w3.alloc (.map #[] 0)).alloc (.map #[] 0)) 3 (w3.heap.size + 1) 0 (fun _ => none) := by have := GMap.made Tryz.prog (w3.alloc (.map #[] 0)) 3; simpa using this
  have hL2 : GMap Tryz.prog (((w3.alloc (.map #[] 0)).alloc (.map #[] 0)).alloc (.cells #[.pointer (some ⟨cb, 0, none⟩), .map (some w3.heap.size), .map (some (w3.heap.size + 1))] 343)) 3 w3.heap.size 0 (fun _ => none) := hL.of_block ((Below.heap_alloc _ _ _ (by simp; omega)).trans (Below.heap_alloc _ _ _ (by simp)))
  have hG2 : GMap Tryz.prog (((w3.alloc (.map #[] 0)).alloc (.map #[] 0)).alloc (.cells #[.pointer (some ⟨cb, 0, none⟩), .map (some w3.heap.size), .map (some (w3.heap.size + 1))] 343)) 3 (w3.heap.size + 1) 0 (fun _ => none) := hG.of_block (Below.heap_alloc _ _ _ (by simp))
  have hB2 : Has (((w3.alloc (.map #[] 0)).alloc (.map #[] 0)).alloc (.cells #[.pointer (some ⟨cb, 0, none⟩), .map (some w3.heap.size), .map (some (w3.heap.size + 1))] 343)) (w3.heap.size + 1 + 1) 343 #[.pointer (some ⟨cb, 0, none⟩), .map (some w3.heap.size), .map (some (w3.heap.size + 1))] := has_made (by simp)
  have B4 : Below w3.heap.size w3 (((w3.alloc (.map #[] 0)).alloc (.map #[] 0)).alloc (.cells #[.pointer (some ⟨cb, 0, none⟩), .map (some w3.heap.size), .map (some (w3.heap.size + 1))] 343)) := (((Below.refl _ _).alloc (Nat.le_refl _) _).alloc (by simp) _).alloc (by simp; omega) _
  have hH4 := hH3.below B4
  have hX4 := hX3.below B4
  have hP4 := hP3.keep (KeepM.below B4)
  have hc4 : CU.Cur (((w3.alloc (.map #[] 0)).alloc (.map #[] 0)).alloc (.cells #[.pointer (some ⟨cb, 0, none⟩), .map (some w3.heap.size), .map (some (w3.heap.size + 1))] 343)) cb wb k 0 (fun _ => false) := ⟨hc.head.below B4, ⟨W, c1.below B4, c2⟩, hc.lo, hc.hi, hc.hat, hc.top, hc.ne⟩
  have b4 : Below w.heap.size w (((w3.alloc (.map #[] 0)).alloc (.map #[] 0)).alloc (.cells #[.pointer (some ⟨cb, 0, none⟩), .map (some w3.heap.size), .map (some (w3.heap.size + 1))] 343)) := b3'.trans (B4.mono (by have := b3'.size; omega))
  obtain ⟨w4, hw4⟩ : ∃ W, W = (((w3.alloc (.map #[] 0)).alloc (.map #[] 0)).alloc (.cells #[.pointer (some ⟨cb, 0, none⟩), .map (some w3.heap.size), .map (some (w3.heap.size + 1))] 343)) := ⟨_, rfl⟩
  rw [← hw4] at hL2 hG2 hB2 hH4 hX4 hP4 hc4 b4 ⊢
  obtain ⟨lm, hlm⟩ : ∃ c, c = w3.heap.size := ⟨_, rfl⟩
  obtain ⟨gm, hgm⟩ : ∃ c, c = w3.heap.size + 1 := ⟨_, rfl⟩
  obtain ⟨xb, hxb⟩ : ∃ c, c = w3.heap.size + 1 + 1 := ⟨_, rfl⟩
  rw [← hxb, ← hgm, ← hlm] at hB2
  rw [← hgm] at hG2
  rw [← hlm] at hL2
  rw [← hxb, ← hgm, ← hlm]
  have LO2 : Hid (w3.heap.size = lm ∧ gm = lm + 1 ∧ xb = lm + 1 + 1) := ⟨hlm.symm, by omega, by omega⟩
  clear hw4 hlm hgm hxb hL hG B4 hH3 hX3 hP3 b3' hc c1 c2
  obtain ⟨wU, rU, hP5, tU⟩ := (hP4.keep1 (w' := w4.drew) rfl).upd (g' := (setK g (.agg #[.int .i64 k0, .int .u32 k1, .int .u32 k2, .int .i64 k3]) (.pointer (some ⟨xb, 0, none⟩)))) keyed292 Tryz.underlying239 _ hkv (by omega) (.pointer (some ⟨xb, 0, none⟩)) (setK_same _ _ _) (fun v e => setK_ne _ _ _ e)
  have rU : (Instr.mapUpdate 239 (.map (some pm)) (.agg #[.int .i64 k0, .int .u32 k1, .int .u32 k2, .int .i64 k3]) (.pointer (some ⟨xb, 0, none⟩))).run Tryz.prog w4.drew = .ok () wU := rU
  rw [hno] at hP5
  simp at hP5
  have KA : Hid (∀ W, Keep (fun _ => True) w4 W → W.cell? ⟨pb, 3, none⟩ = some (.map (some pm)) ∧ W.cell? ⟨bx, 0, none⟩ = some (.int .i64 k0) ∧ W.cell? ⟨bx, 1, none⟩ = some (.int .u32 k1) ∧ W.cell? ⟨bx, 2, none⟩ = some (.int .u32 k2) ∧ W.cell? ⟨bx, 3, none⟩ = some (.int .i64 k3)) := fun W k => by
    have q := k _ _ _ trivial hH4
    have x := k _ _ _ trivial hX4
    exact ⟨(q.cell 3).trans rfl, (x.cell 0).trans rfl, (x.cell 1).trans rfl, (x.cell 2).trans rfl, (x.cell 3).trans rfl⟩
  have K1 : Keep (fun _ => True) w4 w4.drew := fun _ _ _ _ h => h
  have P1 := Lib.hid K1
  have P2 := Lib.hid (K1.trans (Keep.turned tU))
  have h2 : Hid (PortB (fun b => S b ∨ w.heap.size ≤ b) wU pb pm k 0 (n + 1) (setK g (.agg #[.int .i64 k0, .int .u32 k1, .int .u32 k2, .int .i64 k3]) (.pointer (some ⟨xb, 0, none⟩))) (.agg #[.int .i64 k0, .int .u32 k1, .int .u32 k2, .int .i64 k3]) xb cb wb lm gm) := by
    have k5 := P2.out
    have l := LO.out
    have l2 := LO2.out
    have hb := HBX.out
    have hpm := hS pm hP4.1
    obtain ⟨W, c1, c2⟩ := hc4.words
    refine ⟨.inl so, .inr (by omega), .inr ?_, .inr (by omega), .inr (by omega), .inr (by omega), k5 _ _ _ trivial hH4, hP5.mono (fun b h => .inl h), setK_same _ _ _, k5 _ _ _ trivial hB2, ⟨?_, ⟨W, k5 _ _ _ trivial c1, c2⟩, hc4.lo, hc4.hi, hc4.hat, hc4.top, hc4.ne⟩, ⟨0, _, Nat.le_refl _, hL2.of_block (turned_block tU (by omega))⟩, hG2.of_block (turned_block tU (by omega)), by omega, by omega, by omega⟩
    · omega
    · simpa [CU.cnt, Nat.zero_mod] using k5 _ _ _ trivial hc4.head
  have b5 : Hid (Chg (fun b => S b ∨ w.heap.size ≤ b) w wU) := (Chg.of_below b4).drew.trans (Chg.turned tU (.inl hP4.1))
  go_region_held3 (fun W => W.cell? ⟨pb, 3, none⟩ = some (.map (some pm)) ∧ W.cell? ⟨bx, 0, none⟩ = some (.int .i64 k0) ∧ W.cell? ⟨bx, 1, none⟩ = some (.int .u32 k1) ∧ W.cell? ⟨bx, 2, none⟩ = some (.int .u32 k2) ∧ W.cell? ⟨bx, 3, none⟩ = some (.int .i64 k3)) (first | exact KA.out _ P1.out | exact KA.out _ P2.out) (fail)
  have L0 : Hid (0 < wU.heap.size) := by
    have := hP5.lt
    show 0 < _
    omega
  have hbx := HBX.out
  have hTU : CU.Tab wU := Tab_keep hT (((Chg.of_below (S := fun b => w.heap.size ≤ b ∨ b = pm) b4).drew.trans (Chg.turned tU (.inr rfl))).block 0 (by omega) (fun h => by rcases h with h | h; omega; exact h0 (h ▸ hP4.1)))
  clear hH4 hX4 hP4 hB2 hL2 hG2 hc4 b4 tU hP5 P1 P2 KA rU w0 hbx
  all_goals
    generalize wU = w2 at h2 b5 hTU L0 ⊢
    obtain ⟨i, hi0⟩ : ∃ i, i = 0 := ⟨0, rfl⟩
    have hik : i ≤ k := by omega
    obtain ⟨g2, hg2⟩ : ∃ G, G = (setK g (.agg #[.int .i64 k0, .int .u32 k1, .int .u32 k2, .int .i64 k3]) (.pointer (some ⟨xb, 0, none⟩))) := ⟨_, rfl⟩
    have GS : g2 (.agg #[.int .i64 k0, .int .u32 k1, .int .u32 k2, .int .i64 k3]) = some (.pointer (some ⟨xb, 0, none⟩)) := by rw [hg2]; exact setK_same _ _ _
    rw [← hg2] at h2
    rw [← hi0] at h2
    have hC2 := b5.out
    have hT2 := hTU
    have h2 := h2.out
    have z2 := L0.out
    have HI0 := Lib.hid hi0
    clear hi0 hg2 b5 hTU L0 LO LO2 HBX
    have p2 := h2.part.cell 2
    simp at p2
    have G := h2.given
    go_wp2_with (at_range; go_loud (refine wpList_gm_range _ rfl _ _ rfl keyed3 Tryz.underlying132 rfl G ?_; intro w3 R hb3 hs3))
    have h3 := h2.keep (KeepM.below hb3)
    have hC3 := hC2.trans (Chg.of_below hb3)
    have hT3 : CU.Tab w3 := Tab_keep hT2 (hb3.block 0 (by omega))
    clear G p2 h2 hC2 hT2
    try go_frame
    have p0 := h3.part.cell 0
    have p1 := h3.part.cell 1
    have d0 := h3.head.cell 0
    simp at p0 p1 d0
    refine wp_loop_once ?_
    go_wp2_with (at_next; go_loud (refine wpList_gm_next (α := Int) (β := Int) _ rfl _ rfl keyed3 (Value.int .i64) (Value.int .i64) (fun key kl hk => by obtain ⟨x, h, _⟩ := Maps.keyOf_int_inv Tryz.underlying3 hk; exact ⟨x, h⟩) rfl R R.lt (fun _ _ h => by cases h) (fun _ h => h) (fun hdone => ?_) (fun x cv kl w3 cnt' hk hl hM => by cases hM)))
    refine (CU.V2.take_c cb wb k (i % k) _ _ hT3 h3.cur).mono ?_
    rintro e w4 (⟨hall, rfl, hc4, ho4⟩ | ⟨q, hq, rfl, hc4, ho4⟩)
    · have hki : i = k := by
        rcases Nat.lt_or_ge i k with q | q
        · have := hall i q; simp at this
        · omega
      have hG : Chg (fun b => b = cb ∨ b = wb) w3 w4 := only_chg ho4
      have h4 : PortB (fun b => S b ∨ w.heap.size ≤ b) w4 pb pm k i (n + 1) g2 (.agg #[.int .i64 k0, .int .u32 k1, .int .u32 k2, .int .i64 k3]) xb cb wb lm gm := h3.turn hG hc4
      have hC4 := hC3.trans (hG.mono (fun b _ e => by rcases e with rfl | rfl; exact h3.o3; exact h3.o4))
      clear p0 p1 d0
      go_wp2_with fail
      go_ret2
      exact ⟨g2, xb, cb, wb, lm, gm, GS, i, HI0.out, .inr ⟨hki, rfl, h4⟩, hC4⟩
    · obtain ⟨hqk, hqi, hqn⟩ := hq
      have hqi' : i ≤ q := by simpa using hqi
      have hik' : i < k := by omega
      have him : i % k = i := Nat.mod_eq_of_lt hik'
      have hqe : q = i := by
        rcases hqn with ⟨_, hj⟩ | ⟨hj, _⟩
        · rcases Nat.lt_or_ge i q with r | r
          · have := hj i (by omega) r; simp at this
          · omega
        · omega
      subst hqe
      have hG : Chg (fun b => b = cb ∨ b = wb) w3 w4 := only_chg ho4
      have eU : CU.setU (fun j => decide (j < q)) q true = fun j => decide (j < q + 1) := funext fun j => by
        unfold CU.setU
        by_cases e : j = q
        · simp [e]
        · simp [e]; omega
      rw [eU] at hc4
      have h4 : PortB (fun b => S b ∨ w.heap.size ≤ b) w4 pb pm k (q + 1) (n + 1) g2 (.agg #[.int .i64 k0, .int .u32 k1, .int .u32 k2, .int .i64 k3]) xb cb wb lm gm := h3.turn' hG hc4 (Nat.le_succ _)
      have hC4 := hC3.trans (hG.mono (fun b _ e => by rcases e with rfl | rfl; exact h3.o3; exact h3.o4))
      obtain ⟨nl, M, hl1, GL⟩ := h3.lent
      have GL4 : GMap Tryz.prog w4 3 lm nl M := GL.of_block (hG.block lm GL.lt (by rintro (e | e); exact GL.neHas h3.cur.head e; obtain ⟨W, c1, _⟩ := h3.cur.words; exact GL.neHas c1 e))
      have p1 := h4.part.cell 1
      have d0 := h4.head.cell 0
      simp at p1 d0
      have H4 := Lib.hid h4
      have hml : nl < maxLen := by unfold maxLen; omega
      clear h3 h4 hqi hqn p0 hc4
      go_wp2_with ((with_reducible refine is_update ?_); go_loud (refine wpList_gm_update _ rfl _ _ _ _ rfl keyed3 Tryz.underlying341 rfl GL4 hml _ _ (.int .i64 _) trivial rfl rfl (key3 q (by omega)) ?_; intro w5 G5 T5; have K5 := Keep.turned (S := fun _ => True) T5; have d5 := ((K5 _ _ _ trivial H4.out.head).cell 0); simp at d5))
      go_ret2
      have hl5 : (if (M (.int .i64 (q : Int))).isSome then nl else nl + 1) ≤ q + 1 := by split <;> omega
      have h5 : PortB (fun b => S b ∨ w.heap.size ≤ b) w5 pb pm k (q + 1) (n + 1) g2 (.agg #[.int .i64 k0, .int .u32 k1, .int .u32 k2, .int .i64 k3]) xb cb wb lm gm := by
        have h4 := H4.out
        obtain ⟨W, c1, c2⟩ := h4.cur.words
        exact ⟨h4.o1, h4.o2, h4.o3, h4.o4, h4.o5, h4.o6, K5 _ _ _ trivial h4.head, h4.parts.keep1 (turned_block T5 h4.n2.symm), h4.at_, K5 _ _ _ trivial h4.part, ⟨K5 _ _ _ trivial h4.cur.head, ⟨W, K5 _ _ _ trivial c1, c2⟩, h4.cur.lo, h4.cur.hi, h4.cur.hat, h4.cur.top, h4.cur.ne⟩, ⟨_, _, hl5, G5⟩, h4.given.of_block (turned_block T5 h4.n1.symm), h4.n1, h4.n2, h4.n3⟩
      refine ⟨g2, xb, cb, wb, lm, gm, GS, q, HI0.out, .inl ⟨hik', ?_, h5⟩, hC4.trans (Chg.turned T5 H4.out.o5)⟩
      rfl
end Go.Proofs.YtngdebpaheejlaaGreatDoor
