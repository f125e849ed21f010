/- TwinPlays: what the law's walk stands on. -/
import Derived.Test.YtckbffbjdcnklaaPE
import Derived.Test.YtckbffbjdcnklaaEx
import Derived.Sort.QuietThIn
namespace Go.Proofs.Ytckbffbjdcnklaa
open Go.RowKit Go.Shelf
set_option linter.unusedSimpArgs false
set_option linter.unusedVariables false

section
variable {n l : Nat} {P : Program} {ops : Array Oper} {C : World → Prop}
theorem quiet_in {o : Oper} {a : Act} {K : Act → Prop} (h : o.quiet P a C K) : o.quietIn Fence.wide n P a C K := by
  obtain ⟨v, h1, h2⟩ := h
  refine ⟨v, fun w hw => ?_, h2⟩
  have := h1 w hw
  unfold Oper.quietAt Oper.quietUpon at this
  unfold Oper.quietAtIn Oper.quietUponIn
  revert this
  generalize (execOp a.eval o).run P w = r
  cases r with
  | ok x w' =>
    cases x with
    | enter f args => exact fun h => ⟨h.1, fun q => (by cases q), callsIn_wide.2 h.2⟩
    | _ => exact fun h => h
  | _ => exact fun h => h
theorem wpQuiet_in {Q : Act → Prop} : ∀ (l : List Oper) (a : Act), wpQuiet P ops C Q l a → wpQuietIn Fence.wide n P ops C Q l a
  | [], _, h => h
  | o :: l, a, h => by
    refine ⟨fun _ _ _ _ => trivial, ?_⟩
    unfold wpQuiet at h
    split at h
    · rename_i hw
      rw [if_pos hw]
      obtain ⟨v, h1, h2⟩ := h
      exact quiet_in ⟨v, h1, wpQuiet_in l _ h2⟩
    · rename_i hw
      rw [if_neg hw]
      exact wpQuiet_in l _ h
/-- A region that only reads, in a round of a range over a function. -/
theorem round_quiet {id : Nat} {Q : Exit → Act → World → Prop} {a : Act} {w : World} {l : List Oper} {lp : Nat} (hnd : l.toArray.all noDefer = true) (hm : P.follows .mixedOrders = true) (hB : Region.lexB .any l.toArray = true)
    (h : wpQuiet P l.toArray (fun w' => ∃ n, w' = w.drewN n) (fun a' => ∀ w', (∃ n, w' = w.drewN n) → Q .normal a' w') l a) : (Code.region id l.toArray true).wpIn (Fence.wide.inRound lp) n P Q a w := by
  simp only [Region.lexB, Bool.and_eq_true] at hB
  refine wpIn_region_any hm (any_round hnd _ _ _ _ (wpAnyIn_of_quiet (F := Fence.wide) (C := fun w' => ∃ n, w' = w.drewN n) (Q := fun a' => ∀ w', (∃ n, w' = w.drewN n) → Q .normal a' w') rfl (fun _ w' hw' h => h w' hw') _ _ _ _ ⟨1, rfl⟩ ?_))
  have := wpAnyQIn_lex (F := Fence.wide) (n := n) (C := fun w' => ∃ n, w' = w.drewN n) (md := .any) hB.1 l 0 (Array.replicate l.toArray.size false) a (by simp) (by simpa using hB.2) (wpQuiet_in l a h)
  simpa using this
end
/-- A deed that came in. -/
structure Deed where
  k : Int
  h : Int
  a : ByteArray
  b : Int
  v : ByteArray
def Deed.ok (u : Deed) : Prop := (-9223372036854775808 ≤ u.k ∧ u.k ≤ 9223372036854775807) ∧ P.okA u.a ∧ P.okB u.b
def IsDeeds (w : World) (a : Option Addr) (len : Nat) (D : Nat → Deed) : Prop :=
  len = 0 ∨ ∃ b off, a = some ⟨b, off, none⟩ ∧ b < w.heap.size ∧ len ≤ 9223372036854775807 ∧ ∀ i, i < len → (D i).ok ∧ w.cell? ⟨b, off + i * 5, none⟩ = some (.int .i64 (D i).k) ∧ w.cell? ⟨b, off + i * 5 + 1, none⟩ = some (.int .i64 (D i).h) ∧ w.cell? ⟨b, off + i * 5 + 2, none⟩ = some (.string (D i).a) ∧ w.cell? ⟨b, off + i * 5 + 3, none⟩ = some (.int .i64 (D i).b) ∧ w.cell? ⟨b, off + i * 5 + 4, none⟩ = some (.string (D i).v)
/-- The marks that ranges over functions leave behind. -/
structure MarksOK (N : Nat) (ds : List Nat) (W : World) : Prop where
  nd : ds.Nodup
  at_ : ∀ D, D ∈ ds → N ≤ D ∧ W.heap[D]? = some (.deferred (some []))
theorem MarksOK.set {N : Nat} {ds : List Nat} {W : World} {b i : Nat} {v : Value} (h : MarksOK N ds W) : MarksOK N ds (W.setCell ⟨b, i, none⟩ v) :=
  ⟨h.nd, fun D hD => ⟨(h.at_ D hD).1, by
    have := (h.at_ D hD).2
    by_cases e : D = b
    · subst e
      simp [World.setCell, Array.getElem?_modify, this]
    · exact (Below.heap_setCell W ⟨b, i, none⟩ v D e).trans this⟩⟩
def marks (ds : List Nat) : List Deferred := ds.map fun D => { target := .collected D, args := #[] }
theorem chg_mark (W : World) (D : Nat) (h : W.heap[D]? = some (.deferred (some []))) : Chg (fun b => b = D) W (W.putObj D (.deferred none)) :=
  ⟨rfl, rfl, rfl, by simp, fun k _ hn => World.putObj_heap_other hn⟩
theorem leaves_marks {F : Fence} {n : Nat} {P : Program} {fn : Func} {tmps : Array Value} {R : Ending → World → Prop} {N : Nat} : ∀ (ds : List Nat) (W : World), MarksOK N ds W →
    (∀ W', Chg (fun b => b ∈ ds) W W' → ∃ v, (results fn tmps).run P W' = .ok v W' ∧ R (.returned v) W') → LeavesInM F n P fn tmps R (marks ds) .returning W
  | [], W, _, h => h W (Chg.refl _ _)
  | D :: ds, W, hm, h => by
    have hD := (hm.at_ D (by simp)).2
    have c := chg_mark W D hD
    have nd := List.nodup_cons.1 hm.nd
    refine ⟨by simp, .inl ⟨D, _, rfl, run_takeDeferred hD, leaves_marks (N := N) ds _ ⟨nd.2, fun E hE => ⟨(hm.at_ E (by simp [hE])).1, ?_⟩⟩ fun W' c' => h W' ?_⟩⟩
    · exact (World.putObj_heap_other (fun e => nd.1 (by first | (rw [← e]; exact hE) | (rw [e]; exact hE)))).trans (hm.at_ E (by simp [hE])).2
    · exact (c.mono (fun b _ e => by simp [e])).trans (c'.mono (fun b _ e => by simp [e]))
/-- The law's way out: its result's cell has been laid. -/
theorem out_c {w W : World} {tmps : Array Value} {dd : List Deferred} (ds : List Nat) (hd : dd = marks ds) (h4 : tmps[4]? = some (.pointer (some ⟨w.heap.size, 0, none⟩))) (hr : Has W w.heap.size 4 #[.bool true]) (hm : MarksOK w.heap.size ds W) (hb : Below w.heap.size w W) :
    bodyPostM Fence.wide 5 Try.prog Try.f6 (fun e w' => e = Ending.returned (Value.bool true) ∧ Below w.heap.size w w') Exit.ret { tmps := tmps, defers := dd } W := by
  subst hd
  refine leaves_marks ds W hm fun W' c => ⟨.bool true, ?_, rfl, hb.trans ((c.below (fun b q => (hm.at_ b q).1) hb.size))⟩
  have hn : ¬ w.heap.size ∈ ds := fun q => by
    have := (hm.at_ _ q).2
    rw [hr] at this
    cases this
  have hc := Has.cell ((c.block _ hr.lt hn).trans hr : Has W' w.heap.size 4 #[.bool true]) 0
  simp at hc
  have e4 : tmps[4]?.getD undef = .pointer (some ⟨w.heap.size, 0, none⟩) := by rw [h4]; rfl
  simp [results, Try.results6, go_sem, e4, h4, hc]
/-- What stays: what came in, the result's cell, the box of the document's table, the marks. -/
def KS (N b8 : Nat) (ds : List Nat) : Nat → Prop := fun b => b ≤ N ∨ b = b8 ∨ b ∈ ds
structure LI (w : World) (b8 tb xb room k : Nat) (ds : List Nat) (L : List QR) (W : World) : Prop where
  q : QW (KS w.heap.size b8 ds) W tb xb room k L
  r4 : Has W w.heap.size 4 #[.bool false]
  r8 : Has W b8 62 #[.pointer (some ⟨xb, 0, none⟩)]
  mar : MarksOK w.heap.size ds W
  bel : Below w.heap.size w W
  n8 : w.heap.size < b8
theorem LI.start {w w1 w2 : World} {tb g am bm room : Nat} (hb : Below w.heap.size w w1) (R1 : Has w1 w.heap.size 4 #[.bool false]) (T2 : P.TS ⟨w1, fun b => b < w1.heap.size⟩ w2 tb g 1 am bm room 0 0 (fun _ => none) (fun _ => none) (fun _ => none) (.slice none 0 0)) :
    LI w (w2.heap.size + 1) tb w2.heap.size room 0 [] [] ((w2.alloc (.cells #[.int .i64 (room : Int), .slice none 0 0] 69)).alloc (.cells #[.pointer (some ⟨w2.heap.size, 0, none⟩)] 62)) := by
  have k := T2.bel
  have s1 := k.size
  have l1 := R1.lt
  have tf := (TF.new T2).rebase
  simp at s1
  have c : Chg (fun _ => False) w2 ((w2.alloc (.cells #[.int .i64 (room : Int), .slice none 0 0] 69)).alloc (.cells #[.pointer (some ⟨w2.heap.size, 0, none⟩)] 62)) := ((Chg.refl _ w2).alloc _).alloc _
  have hx : Has ((w2.alloc (.cells #[.int .i64 (room : Int), .slice none 0 0] 69)).alloc (.cells #[.pointer (some ⟨w2.heap.size, 0, none⟩)] 62)) w2.heap.size 69 #[.int .i64 (room : Int), .slice none 0 0] := (Has.new w2 _ _).alloc _
  have h8 : Has ((w2.alloc (.cells #[.int .i64 (room : Int), .slice none 0 0] 69)).alloc (.cells #[.pointer (some ⟨w2.heap.size, 0, none⟩)] 62)) (w2.heap.size + 1) 62 #[.pointer (some ⟨w2.heap.size, 0, none⟩)] := by
    have := Has.new (w2.alloc (.cells #[.int .i64 (room : Int), .slice none 0 0] 69)) #[.pointer (some ⟨w2.heap.size, 0, none⟩)] 62
    simpa using this
  have bl : Below w1.heap.size w1 w2 := k.below (fun b h => h)
  refine ⟨⟨_, _, _, ⟨fun b => b < w1.heap.size ∨ b = w2.heap.size ∨ b = w2.heap.size + 1, _, tf.move c (fun _ h => h.elim) (fun b h => ?_), fun b h => ?_, .inr (.inl rfl), fun h => ?_, hx, .inl ⟨rfl, rfl⟩, fun f e => by cases e⟩, ⟨fun q => ⟨fun h => by simp at h, fun ⟨r, h, _⟩ => by cases h⟩, List.Pairwise.nil⟩⟩, ?_, h8, ⟨List.nodup_nil, fun D h => by simp at h⟩, ?_, by omega⟩
  · simp
    rcases h with h | h | h
    · exact ⟨by omega, .inl h⟩
    · exact ⟨by omega, .inr (by omega)⟩
    · exact ⟨by omega, .inr (by omega)⟩
  · rcases h with h | h | h
    · exact .inl (by omega)
    · exact .inr (.inr h)
    · simp at h
  · rcases h with h | h | h
    · omega
    · omega
    · simp at h
  · exact (Has.alloc ((bl.block _ l1).trans R1 : Has w2 w.heap.size 4 #[.bool false]) _).alloc _
  · exact ((hb.trans (bl.mono (by omega))).alloc (by omega) _).alloc (by simp; omega) _
theorem PW.moveK {K K' S : Nat → Prop} {w w' : World} {tb xb room cnt lim : Nat} {T : Nat → Option P.Row} {fa : ByteArray → Option Nat} {fb : Int → Option Nat} {L : List QR} (h : PW K w tb xb room cnt lim T fa fb L) (c : Chg S w w') (hS : ∀ b, S b → K b) (hK : ∀ b, K' b → b < w'.heap.size ∧ (K b ∨ w.heap.size ≤ b)) : PW K' w' tb xb room cnt lim T fa fb L := by
  obtain ⟨Z, v, h⟩ := h
  have zl := h.tf.keeps.zlt
  have new : ∀ b, b < w.heap.size → ¬ K b → ¬ K' b := fun b hb n q => by
    rcases (hK b q).2 with e | e
    · exact n e
    · omega
  refine ⟨fun b => b < w'.heap.size ∧ (Z b ∨ w.heap.size ≤ b), v, h.tf.move c (fun b q => h.kz b (hS b q)) (fun b q => q), fun b q => ⟨(hK b q).1, ?_⟩, ⟨Nat.lt_of_lt_of_le h.hx.lt c.size, .inl h.zx⟩, new _ h.hx.lt h.kx, (c.block _ h.hx.lt (fun q => h.kx (hS _ q))).trans h.hx, h.hl.of_block (fun f e => c.block f (h.hl.blt f e) (fun q => (h.own f e).2 (hS _ q))), fun f e => ⟨⟨Nat.lt_of_lt_of_le (h.hl.blt f e) c.size, .inl (h.own f e).1⟩, new f (h.hl.blt f e) (h.own f e).2⟩⟩
  rcases (hK b q).2 with e | e
  · exact .inl (h.kz b e)
  · exact .inr e
theorem QW.moveK {K K' S : Nat → Prop} {w w' : World} {tb xb room lim : Nat} {L : List QR} (h : QW K w tb xb room lim L) (c : Chg S w w') (hS : ∀ b, S b → K b) (hK : ∀ b, K' b → b < w'.heap.size ∧ (K b ∨ w.heap.size ≤ b)) : QW K' w' tb xb room lim L := by
  obtain ⟨T, fa, fb, h, r⟩ := h
  exact ⟨T, fa, fb, h.moveK c hS hK, r⟩
theorem QW.klt {K : Nat → Prop} {w : World} {tb xb room lim : Nat} {L : List QR} (h : QW K w tb xb room lim L) (b : Nat) (hb : K b) : b < w.heap.size := by
  obtain ⟨T, fa, fb, ⟨Z, v, h⟩, r⟩ := h
  exact h.tf.keeps.zlt b (h.kz b hb)
section
variable {w W W' : World} {b8 tb xb room k : Nat} {ds : List Nat} {L L' : List QR}
theorem LI.drewN (h : LI w b8 tb xb room k ds L W) (n : Nat) : LI w b8 tb xb room k ds L (W.drewN n) :=
  ⟨h.q.moveK ((Chg.refl (fun _ => False) W).dr n) (fun _ q => q.elim) (fun b q => ⟨h.q.klt b q, .inl q⟩), h.r4, h.r8, ⟨h.mar.nd, h.mar.at_⟩, bel_dr h.bel n, h.n8⟩
theorem LI.step {k' : Nat} (h : LI w b8 tb xb room k ds L W) (q : QW (KS w.heap.size b8 ds) W' tb xb room k' L') (c : Kept (KS w.heap.size b8 ds) W W') : LI w b8 tb xb room k' ds L' W' :=
  ⟨q, (c.block _ h.r4.lt (fun n => n (.inl (Nat.le_refl _)))).trans h.r4, (c.block _ h.r8.lt (fun n => n (.inr (.inl rfl)))).trans h.r8, ⟨h.mar.nd, fun D hD => ⟨(h.mar.at_ D hD).1, (c.block _ (h.q.klt D (.inr (.inr hD))) (fun n => n (.inr (.inr hD)))).trans (h.mar.at_ D hD).2⟩⟩, h.bel.trans (c.below (fun b n => by
    by_cases e : b ≤ w.heap.size
    · exact absurd (.inl e) n
    · omega) h.bel.size), h.n8⟩
/-- What the law reads of both tables. -/
theorem LI.reads (h : LI w b8 tb xb room k ds L W) (hk : k < 60000) : (∃ va vc, W.cell? ⟨xb, 1, none⟩ = some (.slice va L.length vc) ∧ L.length ≤ k ∧ ∀ (i : Nat) (q : QR), L[i]? = some q → ∃ f, va = some ⟨f, 0, none⟩ ∧ W.cell? ⟨f, i * 4, none⟩ = some (.int .i64 (q.h : Int)) ∧ W.cell? ⟨f, i * 4 + 3, none⟩ = some (.string q.v) ∧ f < W.heap.size) ∧ W.cell? ⟨b8, 0, none⟩ = some (.pointer (some ⟨xb, 0, none⟩)) ∧ xb < W.heap.size ∧ b8 < W.heap.size ∧
    (Calls Try.prog 32 #[.pointer (some ⟨tb, 0, none⟩)] W fun e w' => e = .returned (.int .i64 (L.length : Int)) ∧ W = w') := by
  obtain ⟨T, fa, fb, ⟨Z, v, hz⟩, rp⟩ := h.q
  obtain ⟨va, vc, e⟩ := hz.hl.slice
  have c1 := hz.hx.cell 1
  have c8 := h.r8.cell 0
  simp at c1 c8
  rw [e] at c1
  refine ⟨⟨va, vc, c1, hz.tf.cntle, fun i q hi => ?_⟩, c8, hz.hx.lt, h.r8.lt, hz.tf.len⟩
  rcases hz.hl with ⟨e2, e3⟩ | ⟨f, c, cur, e2, g1, g2, g3, g4, g5⟩
  · subst e3; simp at hi
  · rw [e] at e2
    cases e2
    exact ⟨f, rfl, (g1.cell _).trans (g5 i q 0 hi (by omega)), (g1.cell _).trans (g5 i q 3 hi (by omega)), g1.lt⟩
/-- What the iterator needs. -/
theorem LI.iter (h : LI w b8 tb xb room k ds L W) : ∃ T g cap m, P.Mem W tb g cap m T ∧ P.hs T (m + 1) = L.map (·.h) ∧ (∀ (i : Nat) (q : QR), L[i]? = some q → P.fld (T q.h) 2 = .string q.v) ∧ g < W.heap.size ∧ tb < W.heap.size := by
  obtain ⟨T, fa, fb, ⟨Z, v, hz⟩, rp⟩ := h.q
  obtain ⟨g, cap, am, bm, m, fo, n, H, vf, h1, h2, h3⟩ := hz.tf
  refine ⟨T, g, cap, m, h1.mem, rp.hs (fun y r hr => (h1.okR y r hr).2.2.2), fun i q hi => ?_, h1.rows.lt, h1.head.lt⟩
  obtain ⟨r, hr, e⟩ := rp.row hi
  rw [hr, e]
  rfl
theorem LI.round (h : LI w b8 tb xb room k ds L W) (o1 o2 : Obj) {X : World} {D : Nat} (c : Chg (fun b => b = W.heap.size) ((W.alloc o1).alloc o2) X) (hD : W.heap.size + 2 ≤ D) (hK : X.heap[D]? = some (.deferred (some []))) (hb : Below w.heap.size w X) : LI w b8 tb xb room k (D :: ds) L X := by
  obtain ⟨T, fa, fb, q, rp⟩ := h.q
  have lD : D < X.heap.size := (Array.getElem?_eq_some_iff.1 hK).1
  have cs := c.size
  have ks := fun b hb => h.q.klt b hb
  have l8 := h.r8.lt
  have l4 := h.r4.lt
  simp at cs
  have q2 := (q.push o1).moveK (K' := fun b => KS w.heap.size b8 ds b ∨ b = W.heap.size) ((Chg.refl (fun _ => False) (W.alloc o1)).alloc o2) (fun b q => q.elim) (fun b q => ⟨by
    simp
    rcases q with q | q
    · have := ks b q; omega
    · omega, .inl q⟩)
  have e : ∀ b, b < W.heap.size → X.heap[b]? = W.heap[b]? := fun b hb => by
    refine (c.block b (by simp; omega) (by omega)).trans ((Below.heap_alloc _ _ _ (by simp; omega)).trans (Below.heap_alloc _ _ _ hb))
  refine ⟨⟨T, fa, fb, q2.moveK (K' := KS w.heap.size b8 (D :: ds)) c (fun b q => .inr q) (fun b q => ?_), rp⟩, (e _ l4).trans h.r4, (e _ l8).trans h.r8, ⟨List.nodup_cons.2 ⟨fun hd => by have := ks D (.inr (.inr hd)); omega, h.mar.nd⟩, fun E hE => ?_⟩, hb, h.n8⟩
  · rcases q with q | q | q
    · have := ks b (.inl q); exact ⟨by omega, .inl (.inl (.inl q))⟩
    · have := ks b (.inr (.inl q)); exact ⟨by omega, .inl (.inl (.inr (.inl q)))⟩
    · rcases List.mem_cons.1 q with q | q
      · subst q; exact ⟨lD, .inr (by simp; omega)⟩
      · have := ks b (.inr (.inr q)); exact ⟨by omega, .inl (.inl (.inr (.inr q)))⟩
  · rcases List.mem_cons.1 hE with q | q
    · subst q; exact ⟨by omega, hK⟩
    · exact ⟨(h.mar.at_ E q).1, (e _ (ks E (.inr (.inr q)))).trans (h.mar.at_ E q).2⟩
end
end Go.Proofs.Ytckbffbjdcnklaa
