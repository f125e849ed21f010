/- Regions that draw their order, in a round: all that looks at the world stands ahead of the first operation that turns it, and from there on they come in their own order. The anchor of five buckets: Add. The anchor of five buckets: Remove; Working; Bucket. The anchor of five buckets: Working, Bucket. A pool (chapter 13): what stands in memory; New. -/
import Derived.Test.YtngdebpaheejlaaGreatDoorZc
import Derived.Test.YtngdebpaheejlaaGreatDoorAN
namespace Go.Proofs.YtngdebpaheejlaaGreatDoor
open Go.RowKit
set_option linter.unusedSimpArgs false
set_option linter.unusedVariables false
section
variable {n : Nat} {P : Program} {ops : Array Oper} {Q : Exit → Act → World → Prop} {md : Region.Mode}
theorem opIn_of_op (hnd : ops.all noDefer = true) (hQ : ¬ LetsOut Q) {i : Nat} {K : Act → World → Prop} {a : Act} {w : World} (h : wpOp P ops Q i K a w) : wpOpIn Fence.wide n P ops Q i K a w := by
  unfold wpOp at h
  unfold wpOpIn
  cases ho : ops[i]? with
  | none => simp only [ho] at h ⊢; exact h
  | some o =>
    simp only [ho] at h ⊢
    have hd : ∀ c, o.op ≠ .defer c := fun c e => by
      have := Array.all_eq_true.1 hnd i (Array.getElem?_eq_some_iff.1 ho).1
      rw [(Array.getElem?_eq_some_iff.1 ho).2] at this
      unfold noDefer at this
      rw [e] at this
      cases this
    by_cases hw : Region.wanted o (yielded ops a.tmps) = true
    · simp only [hw, if_true] at h ⊢
      rcases h with h | ⟨_, h⟩
      · exact oper_in hd h
      · exact absurd h hQ
    · simp only [hw] at h ⊢
      exact ⟨fun _ _ => trivial, h⟩
theorem anyIn_of_any (hnd : ops.all noDefer = true) (hQ : ¬ LetsOut Q) : ∀ (fuel : Nat) (listed : Array Bool) (a : Act) (w : World), wpAny P md ops Q fuel listed a w → wpAnyIn Fence.wide n P md ops Q fuel listed a w
  | 0, _, _, _, h => h
  | fuel + 1, listed, a, w, h => ⟨h.1, fun i hi => wpOpIn_mono (fun a' w' q => anyIn_of_any hnd hQ fuel _ a' w' q) (opIn_of_op hnd hQ (h.2 i hi))⟩
end
/-- From k on each operation is the only one that may come up. -/
def soleB (ops : Array Oper) : Nat → Nat → Array Bool → Bool
  | 0, _, _ => true
  | f + 1, k, listed => decide (Region.ready .any ops listed = [k]) && soleB ops f (k + 1) (listed.setIfInBounds k true)
def headB2 (ops : Array Oper) (n : Nat) : Nat → Nat → Array Bool → Bool
  | 0, k, listed => decide (k = n) && soleB ops (ops.size - n) n listed
  | f + 1, k, listed => (Region.ready .any ops listed).contains k && Region.free .any ops listed k && decide (k < n) && (((ops[k]?).map blindB).getD false || reachB ops n n k) && headB2 ops n f (k + 1) (listed.setIfInBounds k true)
def tailB (ops : Array Oper) (n : Nat) : Bool := Region.noSelect ops && decide (n < ops.size) && headB2 ops n n 0 (Array.replicate ops.size false)
section
variable {P : Program} {ops : Array Oper} {C : World → Prop} {n : Nat} {R : Exit → Act → World → Prop}
theorem sole_any (l : List Oper) (hl : ops = l.toArray) : ∀ (f k : Nat) (listed : Array Bool) (a : Act) (w : World), f = ops.size - k → (f = 0 → Region.ready .any ops listed = []) → soleB ops f k listed = true → k + f = ops.size →
    wpList P ops R (l.drop k) a w → (∀ listed', (∀ j, j < ops.size → listed'.getD j true = true) → Region.ready .any ops listed' = []) → listed.size = ops.size → (∀ j, j < k → listed.getD j true = true) → wpAny P .any ops R f listed a w
  | 0, k, listed, a, w, hf, h0, _, hk, h, hend, hsz, hj => by
    have e : l.drop k = [] := by rw [List.drop_eq_nil_iff]; rw [hl] at hk; simp at hk; omega
    rw [e] at h
    exact ⟨h0 rfl, h⟩
  | f + 1, k, listed, a, w, hf, h0, hs, hk, h, hend, hsz, hj => by
    simp only [soleB, Bool.and_eq_true, decide_eq_true_eq] at hs
    obtain ⟨hr, hs⟩ := hs
    have hkl : k < l.length := by rw [hl] at hk; simp at hk; omega
    refine ⟨fun e => (by rw [hr] at e; cases e), fun i hi => ?_⟩
    rw [hr] at hi
    obtain rfl : i = k := by simpa using hi
    have ho : ops[i]? = some l[i] := by rw [hl]; simp [hkl]
    rw [List.drop_eq_getElem_cons hkl] at h
    have hset : ∀ j, j < i + 1 → (listed.setIfInBounds i true).getD j true = true := fun j hj' => by
      by_cases e : j = i
      · subst e
        simp [Array.getD, hsz]
      · have := hj j (by omega)
        rw [getD_set_ne true (fun q => e q.symm)]
        exact this
    have go : ∀ a' w', wpList P ops R (l.drop (i + 1)) a' w' → wpAny P .any ops R f (listed.setIfInBounds i true) a' w' := fun a' w' h' =>
      sole_any l hl f (i + 1) _ a' w' (by omega) (fun e => hend _ (fun j hj' => hset j (by omega))) hs (by omega) h' hend (by simpa using hsz) hset
    unfold wpOp
    simp only [ho]
    simp only [wpList] at h
    split at h
    · rename_i hw
      simp only [hw, if_true]
      rcases h with h | h
      · exact .inl (Oper.wp_mono go h)
      · exact .inr h
    · rename_i hw
      simp only [hw]
      exact go _ _ h
theorem ready_all (listed : Array Bool) (h : ∀ j, j < ops.size → listed.getD j true = true) (hs : listed.size = ops.size) : Region.ready .any ops listed = [] := by
  cases hr : Region.ready .any ops listed with
  | nil => rfl
  | cons i r =>
    have hm : i ∈ Region.ready .any ops listed := by rw [hr]; simp
    obtain ⟨h1, o, ho, _⟩ := mem_ready.1 hm
    have := h i (Array.getElem?_eq_some_iff.1 ho).1
    rw [this] at h1
    cases h1
theorem mid_lex2 {T : Act → Prop} (hs : Region.noSelect ops = true) (hR : ∀ c a w, ¬ R (.panic c) a w) (hCi : ∃ w, C w) (hn : n < ops.size)
    (hT : ∀ listed a, soleB ops (ops.size - n) n listed = true → listed.size = ops.size → (∀ j, j < n → listed.getD j true = true) → T a →
      ∀ w, C w → wpOp P ops R n (wpAny P .any ops R (ops.size - n - 1) (listed.setIfInBounds n true)) a w) :
    ∀ (l : List Oper) (k : Nat) (listed : Array Bool) (a : Act), (∀ j, j < l.length → l[j]? = ops[k + j]?) → Clo ops listed → (∀ j, j < k → listed.getD j true = true) →
    headB2 ops n l.length k listed = true → wpQuiet P ops C T l a → wpMid P ops C R n (l.length + 1 + (ops.size - n - 1)) listed a
  | [], k, listed, a, _, hc, hj, hB, h => by
    simp only [List.length_nil, headB2, Bool.and_eq_true, decide_eq_true_eq] at hB
    obtain ⟨rfl, hl⟩ := hB
    have hl' := hl
    rw [show ops.size - k = (ops.size - k - 1) + 1 by omega] at hl'
    simp only [soleB, Bool.and_eq_true, decide_eq_true_eq] at hl'
    have hr := hl'.1
    rw [show ([] : List Oper).length + 1 + (ops.size - k - 1) = (ops.size - k - 1) + 1 by simp; omega]
    refine ⟨by rw [hr]; simp, fun i hi => ?_⟩
    rw [hr] at hi
    have : i = k := by simpa using hi
    subst this
    simp only [if_true]
    exact hT listed a hl hc.size hj h
  | o :: l, k, listed, a, hl, hc, hj, hB, h => by
    have h0 : ops[k]? = some o := by simpa using (hl 0 (by simp)).symm
    simp only [List.length_cons, headB2, Bool.and_eq_true, Bool.or_eq_true, decide_eq_true_eq] at hB
    obtain ⟨⟨⟨⟨hr, hf⟩, hkn⟩, hk⟩, hB'⟩ := hB
    have hr' : k ∈ Region.ready .any ops listed := by simpa using hr
    have hst : qOp P ops C k (wpQuiet P ops C T l) a := by unfold qOp; simp only [h0]; exact h
    obtain ⟨v, hy, hK⟩ := yieldsIn_of_qOp h0 hst
    obtain ⟨w0, hw0⟩ := hCi
    have hk' : Yields P ops o v a ∨ reachB ops n n k = true := by
      refine hk.imp (fun hb => ?_) id
      simp only [h0, Option.map_some, Option.getD_some] at hb
      rcases hy with ⟨hw, hv⟩ | ⟨hw, hv⟩
      · exact .inl ⟨hw, blind_all hb (hv w0 hw0)⟩
      · exact .inr ⟨hw, hv⟩
    have e1 : (o :: l).length + 1 + (ops.size - n - 1) = (l.length + 1 + (ops.size - n - 1)) + 1 := by simp only [List.length_cons]; omega
    rw [e1]
    refine mid_first h0 (by omega) (Region.noSelect_spec hs) hR _ listed a hc (Region.free_spec h0 hf) hr' hy hk'
      (mid_lex2 hs hR ⟨w0, hw0⟩ hn hT l (k + 1) _ _ (fun j hj => by have := hl (j + 1) (by simp; omega); simpa [Nat.add_assoc, Nat.add_comm 1 j] using this) (hc.set hr') (fun j hj' => ?_) hB' hK)
    by_cases e : j = k
    · subst e
      simp [Array.getD, hc.size]
    · rw [getD_set_ne true (fun q => e q.symm)]
      exact hj j (by omega)
end
theorem tail_any {P : Program} {R : Exit → Act → World → Prop} {a : Act} {w : World} {l : List Oper} (C : World → Prop) (n : Nat) (hB : tailB l.toArray n = true) (hC : C w.drew) (hR : ∀ c a w, ¬ R (.panic c) a w)
    (h : wpQuiet P l.toArray C (fun a' => ∀ V, C V → wpList P l.toArray R (l.drop n) a' V) (l.take n) a) :
    wpAny P .any l.toArray R l.toArray.size (Array.replicate l.toArray.size false) a w.drew := by
  simp only [tailB, Bool.and_eq_true, decide_eq_true_eq] at hB
  obtain ⟨⟨hsel, hn⟩, hhead⟩ := hB
  have hn' : n < l.length := by simpa using hn
  have htl : (l.take n).length = n := by simp; omega
  have inv0 : Clo l.toArray (Array.replicate l.toArray.size false) := ⟨by simp, fun j oj _ hl => (by rw [getD_replicate_false] at hl; cases hl)⟩
  have H := mid_lex2 (P := P) (R := R) (n := n) hsel hR ⟨w.drew, hC⟩ hn (T := fun a' => ∀ V, C V → wpList P l.toArray R (l.drop n) a' V)
    (fun listed a' hs hsz hj hT V hV => by
      have := sole_any (P := P) (R := R) l rfl (l.toArray.size - n) n listed a' V rfl (fun e => by omega) hs (by omega) (hT V hV) (fun listed' hl => by
        by_cases e : listed'.size = l.toArray.size
        · exact ready_all listed' hl e
        · cases hr : Region.ready .any l.toArray listed' with
          | nil => rfl
          | cons i r =>
            have hm : i ∈ Region.ready .any l.toArray listed' := by rw [hr]; simp
            obtain ⟨h1, o, ho, _⟩ := mem_ready.1 hm
            have := hl i (Array.getElem?_eq_some_iff.1 ho).1
            rw [this] at h1
            cases h1) hsz hj
      rw [show l.toArray.size - n = (l.toArray.size - n - 1) + 1 by omega] at this hs
      simp only [soleB, Bool.and_eq_true, decide_eq_true_eq] at hs
      exact this.2 n (by rw [hs.1]; simp))
    (l.take n) 0 _ a (fun j hj => by
      have hj' : j < n := by rw [htl] at hj; exact hj
      simp [hj']) inv0 (fun j hj => by omega) (by rw [htl]; exact hhead) h
  have := mid_any (P := P) _ _ _ _ hC H
  rw [htl, show n + 1 + (l.toArray.size - n - 1) = l.toArray.size by simp; omega] at this
  exact this
/-- Outside of a round, over the worlds that grew out of one. -/
theorem wp_region_grows_tail {P : Program} {id : Nat} {Q : Exit → Act → World → Prop} {a : Act} {w : World} {l : List Oper} (n : Nat) (hm : P.follows .mixedOrders = true) (hB : tailB l.toArray n = true)
    (h : wpQuiet P l.toArray (fun w' => ∃ V : Gr w, w' = V.1) (fun a' => ∀ V, (∃ U : Gr w, V = U.1) → wpList P l.toArray (fun e a2 w2 => e = .normal ∧ Q .normal a2 w2) (l.drop n) a' V) (l.take n) a) :
    (Code.region id l.toArray true).wp P Q a w :=
  Code.wp_mono (Q := fun e a w => e = .normal ∧ Q .normal a w) (fun e a w q => by obtain ⟨rfl, q⟩ := q; exact q)
    (wp_region_any hm (tail_any (C := fun w' => ∃ V : Gr w, w' = V.1) n hB ⟨⟨w.drew, (Below.refl _ _).drew⟩, rfl⟩ (fun c a w hp => by cases hp.1) h))
/-- In a round, over the worlds that grew out of one. -/
theorem round_region_tail {P : Program} {id m lp : Nat} {Q : Exit → Act → World → Prop} {a : Act} {w : World} {l : List Oper} (n : Nat) (hm : P.follows .mixedOrders = true) (hB : tailB l.toArray n = true) (hnd : l.toArray.all noDefer = true)
    (h : wpQuiet P l.toArray (fun w' => ∃ V : Gr w, w' = V.1) (fun a' => ∀ V, (∃ U : Gr w, V = U.1) → wpList P l.toArray (fun e a2 w2 => e = .normal ∧ Q .normal a2 w2) (l.drop n) a' V) (l.take n) a) :
    (Code.region id l.toArray true).wpIn (Fence.wide.inRound lp) m P Q a w :=
  wpIn_mono (Q := fun e a w => e = .normal ∧ Q .normal a w) (wpIn_region_any hm (any_round hnd _ _ _ _ (anyIn_of_any hnd (fun ⟨_, _, q⟩ => by cases q.1) _ _ _ _
    (tail_any (C := fun w' => ∃ V : Gr w, w' = V.1) n hB ⟨⟨w.drew, (Below.refl _ _).drew⟩, rfl⟩ (fun c a w hp => by cases hp.1) h)))) (fun e a w q => by obtain ⟨rfl, q⟩ := q; exact q)
end Go.Proofs.YtngdebpaheejlaaGreatDoor
namespace Go.Proofs.YtngdebpaheejlaaGreatDoor
open Go.RowKit Go.Shelf
set_option linter.unusedSimpArgs false
set_option linter.unusedVariables false
set_option maxRecDepth 100000 in
set_option maxHeartbeats 3200000 in
theorem aadd_c (S : Nat → Prop) (a : Nat) (w : World) (h : Anc S w a 1) : Calls Tryz.prog 69 #[.pointer (some ⟨a, 0, none⟩)] w fun e w' => e = .returned (.tuple #[.int .i64 1, .int .i64 0]) ∧ Anc S w' a 2 ∧ Chg S w w' := by
  obtain ⟨L, sv, s1, s2, hA, hL, hR⟩ := h
  have hL' : Has w L 256 #[.int .i64 0, .int .i64 0, .int .i64 0, .int .i64 0, .int .i64 1, .int .i64 1, .int .i64 1, .int .i64 1, .int .i64 2, .int .i64 2, .int .i64 2, .int .i64 2, .int .i64 3, .int .i64 3, .int .i64 3, .int .i64 3, .int .i64 4, .int .i64 4, .int .i64 4, .int .i64 4] := hL
  obtain ⟨⟨e1, e2⟩, hR2⟩ := hR
  rcases e2 with ⟨_, e2⟩ | ⟨g, cap, cur, rfl, _, hg, hcap, hcm, hsz, htk⟩
  · cases e2
  have hg' : Has w g 3 cur := hg
  have sg : S g := hR2 g rfl
  have gL : g ≠ L := hg'.ne hL (by decide)
  have gA : g ≠ a := hg'.ne hA (by decide)
  have aL : a ≠ L := hA.ne hL (by decide)
  have g3 : cur[3]? = some (.int .i64 1) := by
    have := congrArg (fun l => l[3]?) htk
    simpa [stackL, List.getElem?_take] using this
  have sc : w.cell? ⟨g, 3, none⟩ = some (.int .i64 1) := (hg'.cell 3).trans g3
  have a0 := hA.cell 0
  have a1 := hA.cell 1
  have a2 := hA.cell 2
  have fa1 := hA.free 1
  have fa2 := hA.free 2
  have l4 := hL'.cell 4
  have fl4 := hL'.free 4
  have l5 := hL'.cell 5
  have fl5 := hL'.free 5
  have l6 := hL'.cell 6
  have fl6 := hL'.free 6
  have l7 := hL'.cell 7
  have fl7 := hL'.free 7
  simp at a0 a1 a2 l4 l5 l6 l7
  have hc4 : (4 : Int) ≤ (cap : Int) := by omega
  have hc3 : (3 : Int) ≤ (cap : Int) := by omega
  have hc3' : 3 ≤ cap := by omega
  have HS := Lib.hid hsz
  have HT := Lib.hid htk
  clear hg hL e1 hR2 hsz htk
  go_enter Tryz.func69, Tryz.ntmps69
  go_wp2_with fail
  go_quiet (fail)
  go_wp2_with fail
  have hA1 : Has (w.drewN nq) a 254 #[.slice (some ⟨L, 0, none⟩) 5 5, .slice (some ⟨g, 0, none⟩) 4 cap, .int .i64 1] := hA
  have hL1 : Has (w.drewN nq) L 256 #[.int .i64 0, .int .i64 0, .int .i64 0, .int .i64 0, .int .i64 1, .int .i64 1, .int .i64 1, .int .i64 1, .int .i64 2, .int .i64 2, .int .i64 2, .int .i64 2, .int .i64 3, .int .i64 3, .int .i64 3, .int .i64 3, .int .i64 4, .int .i64 4, .int .i64 4, .int .i64 4] := hL'
  have hG1 : Has (w.drewN nq) g 3 cur := hg'
  have hC1 : Chg S w (w.drewN nq) := ⟨rfl, rfl, rfl, Nat.le_refl _, fun _ _ _ => rfl⟩
  obtain ⟨w1, hw1⟩ : ∃ W, W = w.drewN nq := ⟨_, rfl⟩
  rw [← hw1] at hA1 hL1 hG1 hC1 ⊢
  clear hw1 hA hL' hg' a0 a1 a2 fa1 fa2 l4 l5 l6 l7 fl4 fl5 fl6 fl7 sc
  have hA := hA1
  have hL := hL1
  have a0 := hA.cell 0
  have a1 := hA.cell 1
  have a2 := hA.cell 2
  have fa1 := hA.free 1
  have fa2 := hA.free 2
  have l4 := hL.cell 4
  have fl4 := hL.free 4
  have l5 := hL.cell 5
  have fl5 := hL.free 5
  have l6 := hL.cell 6
  have fl6 := hL.free 6
  have l7 := hL.cell 7
  have fl7 := hL.free 7
  simp at a0 a1 a2 l4 l5 l6 l7
  go_region
  have hA2 := ((hA1).set 1 (.slice (some ⟨g, 0, none⟩) 3 cap)).drew
  have hL2 := ((hL1).setOther 1 (Ne.symm aL) (.slice (some ⟨g, 0, none⟩) 3 cap)).drew
  have hG2 := ((hG1).setOther 1 gA (.slice (some ⟨g, 0, none⟩) 3 cap)).drew
  have hC2 := ((hC1).set s1 1 (.slice (some ⟨g, 0, none⟩) 3 cap)).drew
  simp at hA2 hL2
  obtain ⟨w2, hw⟩ : ∃ W, W = ((w1).setCell ⟨a, 1, none⟩ (.slice (some ⟨g, 0, none⟩) 3 cap)).drew := ⟨_, rfl⟩
  rw [← hw] at hA2 hL2 hG2 hC2 ⊢
  clear hw hA hL a0 a1 a2 fa1 fa2 l4 l5 l6 l7 fl4 fl5 fl6 fl7 hA1 hL1 hG1 hC1
  go_wp2_with fail
  have hA := hA2
  have hL := hL2
  have a0 := hA.cell 0
  have a1 := hA.cell 1
  have a2 := hA.cell 2
  have fa1 := hA.free 1
  have fa2 := hA.free 2
  have l4 := hL.cell 4
  have fl4 := hL.free 4
  have l5 := hL.cell 5
  have fl5 := hL.free 5
  have l6 := hL.cell 6
  have fl6 := hL.free 6
  have l7 := hL.cell 7
  have fl7 := hL.free 7
  simp at a0 a1 a2 l4 l5 l6 l7
  go_region
  have hA3 := ((hA2).setOther 6 aL (.int .i64 1)).drew
  have hL3 := ((hL2).set 6 (.int .i64 1)).drew
  have hG3 := ((hG2).setOther 6 gL (.int .i64 1)).drew
  have hC3 := ((hC2).set s2 6 (.int .i64 1)).drew
  simp at hA3 hL3
  obtain ⟨w3, hw⟩ : ∃ W, W = ((w2).setCell ⟨L, 6, none⟩ (.int .i64 1)).drew := ⟨_, rfl⟩
  rw [← hw] at hA3 hL3 hG3 hC3 ⊢
  clear hw hA hL a0 a1 a2 fa1 fa2 l4 l5 l6 l7 fl4 fl5 fl6 fl7 hA2 hL2 hG2 hC2
  go_wp2_with fail
  have hA := hA3
  have hL := hL3
  have a0 := hA.cell 0
  have a1 := hA.cell 1
  have a2 := hA.cell 2
  have fa1 := hA.free 1
  have fa2 := hA.free 2
  have l4 := hL.cell 4
  have fl4 := hL.free 4
  have l5 := hL.cell 5
  have fl5 := hL.free 5
  have l6 := hL.cell 6
  have fl6 := hL.free 6
  have l7 := hL.cell 7
  have fl7 := hL.free 7
  simp at a0 a1 a2 l4 l5 l6 l7
  go_region
  have hA4 := ((hA3).setOther 5 aL (.int .i64 1)).drew
  have hL4 := ((hL3).set 5 (.int .i64 1)).drew
  have hG4 := ((hG3).setOther 5 gL (.int .i64 1)).drew
  have hC4 := ((hC3).set s2 5 (.int .i64 1)).drew
  simp at hA4 hL4
  obtain ⟨w4, hw⟩ : ∃ W, W = ((w3).setCell ⟨L, 5, none⟩ (.int .i64 1)).drew := ⟨_, rfl⟩
  rw [← hw] at hA4 hL4 hG4 hC4 ⊢
  clear hw hA hL a0 a1 a2 fa1 fa2 l4 l5 l6 l7 fl4 fl5 fl6 fl7 hA3 hL3 hG3 hC3
  go_wp2_with fail
  have hA := hA4
  have hL := hL4
  have a0 := hA.cell 0
  have a1 := hA.cell 1
  have a2 := hA.cell 2
  have fa1 := hA.free 1
  have fa2 := hA.free 2
  have l4 := hL.cell 4
  have fl4 := hL.free 4
  have l5 := hL.cell 5
  have fl5 := hL.free 5
  have l6 := hL.cell 6
  have fl6 := hL.free 6
  have l7 := hL.cell 7
  have fl7 := hL.free 7
  simp at a0 a1 a2 l4 l5 l6 l7
  go_region
  have hA5 := (((hA4).setOther 4 aL (.int .i64 0)).setOther 7 aL (.int .i64 1)).drew
  have hL5 := (((hL4).set 4 (.int .i64 0)).set 7 (.int .i64 1)).drew
  have hG5 := (((hG4).setOther 4 gL (.int .i64 0)).setOther 7 gL (.int .i64 1)).drew
  have hC5 := (((hC4).set s2 4 (.int .i64 0)).set s2 7 (.int .i64 1)).drew
  simp at hA5 hL5
  obtain ⟨w5, hw⟩ : ∃ W, W = (((w4).setCell ⟨L, 4, none⟩ (.int .i64 0)).setCell ⟨L, 7, none⟩ (.int .i64 1)).drew := ⟨_, rfl⟩
  rw [← hw] at hA5 hL5 hG5 hC5 ⊢
  clear hw hA hL a0 a1 a2 fa1 fa2 l4 l5 l6 l7 fl4 fl5 fl6 fl7 hA4 hL4 hG4 hC4
  have hA := hA5
  have hL := hL5
  have a0 := hA.cell 0
  have a1 := hA.cell 1
  have a2 := hA.cell 2
  have fa1 := hA.free 1
  have fa2 := hA.free 2
  have l4 := hL.cell 4
  have fl4 := hL.free 4
  have l5 := hL.cell 5
  have fl5 := hL.free 5
  have l6 := hL.cell 6
  have fl6 := hL.free 6
  have l7 := hL.cell 7
  have fl7 := hL.free 7
  simp at a0 a1 a2 l4 l5 l6 l7
  go_wp2_with fail
  have hA6 := (hA5).set 2 (.int .i64 2)
  have hL6 := (hL5).setOther 2 (Ne.symm aL) (.int .i64 2)
  have hG6 := (hG5).setOther 2 gA (.int .i64 2)
  have hC6 := (hC5).set s1 2 (.int .i64 2)
  simp at hA6 hL6
  obtain ⟨w6, hw⟩ : ∃ W, W = (w5).setCell ⟨a, 2, none⟩ (.int .i64 2) := ⟨_, rfl⟩
  rw [← hw] at hA6 hL6 hG6 hC6 ⊢
  clear hw hA hL a0 a1 a2 fa1 fa2 l4 l5 l6 l7 fl4 fl5 fl6 fl7 hA5 hL5 hG5 hC5
  go_wp2_with fail
  have ht3 : cur.toList.take (3 * 1) = stackL 2 := by
    have := congrArg (List.take 3) HT.out
    simpa [List.take_take, stackL] using this
  go_ret2
  exact ⟨rfl, ⟨L, _, s1, s2, hA6, hL6, ⟨by simp [stackL], .inr ⟨g, cap, cur, rfl, Nat.zero_le _, hG6, by omega, hcm, HS.out, ht3⟩⟩, fun b e => by cases e; exact sg⟩, hC6⟩
end Go.Proofs.YtngdebpaheejlaaGreatDoor
namespace Go.Proofs.YtngdebpaheejlaaGreatDoor
open Go.RowKit Go.Shelf
set_option linter.unusedSimpArgs false
set_option linter.unusedVariables false
theorem Row.setOther {S : Nat → Prop} {w : World} {t : TypeId} {size n : Nat} {v : Value} {xs : List Value} (h : Row S w t size v n xs) {b : Nat} (hb : v.ownBlock ≠ some b) (i : Nat) (u : Value) : Row S (w.setCell ⟨b, i, none⟩ u) t size v n xs := by
  refine ⟨⟨h.1.1, h.1.2.imp id ?_⟩, h.2⟩
  rintro ⟨g, cap, cur, rfl, q0, q1, q2⟩
  exact ⟨g, cap, cur, rfl, q0, (Below.heap_setCell _ _ _ _ (fun e => hb (by rw [show g = b from e]; rfl))).trans q1, q2⟩
theorem Row.drew {S : Nat → Prop} {w : World} {t : TypeId} {size n : Nat} {v : Value} {xs : List Value} (h : Row S w t size v n xs) : Row S w.drew t size v n xs := h
/-- What an append leaves: the new row, and what else there was. -/
theorem Row.app {S : Nat → Prop} {w w' : World} {t : TypeId} {size n m g cap : Nat} {v : Value} {xs news : List Value} {o : Obj} (h : Row S w t size v n xs) (own : w'.ownsRow 0 t size (.slice (some ⟨g, 0, none⟩) m cap) m news) (G : (w.alloc o).grownBy w' v.ownBlock) (hat : v.ownBlock = some g ∨ g = w.heap.size + 1) :
    Row (fun b => S b ∨ w.heap.size ≤ b) w' t size (.slice (some ⟨g, 0, none⟩) m cap) m news ∧ Chg S w w' ∧ w.heap.size + 1 ≤ w'.heap.size ∧ (∀ k, k < w.heap.size → v.ownBlock ≠ some k → w'.heap[k]? = w.heap[k]?) := by
  have gl := G.size
  simp at gl
  have up : ∀ k, k < w.heap.size → v.ownBlock ≠ some k → w'.heap[k]? = w.heap[k]? := fun k hk hn => (G.block k (by simp; omega) (fun e => hn e.symm)).trans (Below.heap_alloc w _ k hk)
  refine ⟨⟨own, fun b e => ?_⟩, ⟨G.os, G.tape, G.output, by omega, fun k hk hn => up k hk (fun e => hn (h.2 k e))⟩, gl, up⟩
  cases e
  rcases hat with q | q
  · exact .inl (h.2 _ q)
  · exact .inr (by show w.heap.size ≤ g; omega)
set_option maxRecDepth 100000 in
set_option maxHeartbeats 3200000 in
theorem aremove_c (S : Nat → Prop) (a : Nat) (w : World) (h : Anc S w a 2) : Calls Tryz.prog 73 #[.pointer (some ⟨a, 0, none⟩), .int .i64 1] w fun e w' => e = .returned (.int .i64 0) ∧ Anc (fun b => S b ∨ w.heap.size ≤ b) w' a 1 ∧ Chg S w w' := by
  obtain ⟨L, sv, s1, s2, hA, hL0, hR⟩ := h
  have hL : Has w L 256 #[.int .i64 0, .int .i64 0, .int .i64 0, .int .i64 0, .int .i64 0, .int .i64 1, .int .i64 1, .int .i64 1, .int .i64 2, .int .i64 2, .int .i64 2, .int .i64 2, .int .i64 3, .int .i64 3, .int .i64 3, .int .i64 3, .int .i64 4, .int .i64 4, .int .i64 4, .int .i64 4] := hL0
  have aL : a ≠ L := hA.ne hL (by decide)
  obtain ⟨i0, hi0, hz0, hs0, hb0⟩ := info_parts info3
  have a0 := hA.cell 0
  have a1 := hA.cell 1
  have a2 := hA.cell 2
  have fa1 := hA.free 1
  have fa2 := hA.free 2
  have l4 := hL.cell 4
  have fl4 := hL.free 4
  have l5 := hL.cell 5
  have fl5 := hL.free 5
  have l6 := hL.cell 6
  have fl6 := hL.free 6
  have l7 := hL.cell 7
  have fl7 := hL.free 7
  simp at a0 a1 a2 l4 l5 l6 l7
  clear hL0
  have hA1 : Has (w.setCell ⟨a, 2, none⟩ (.int .i64 1)) a 254 #[.slice (some ⟨L, 0, none⟩) 5 5, sv, .int .i64 1] := by have := hA.set 2 (.int .i64 1); simpa using this
  have hL1 := hL.setOther 2 (Ne.symm aL) (.int .i64 1)
  have hR1 : Row S (w.setCell ⟨a, 2, none⟩ (.int .i64 1)) 3 1 sv 3 (stackL 2) := hR.setOther (hR.ne hA (by decide)) 2 _
  have hC1 := (Chg.refl S w).set s1 2 (.int .i64 1)
  obtain ⟨w1, hw⟩ : ∃ W, W = w.setCell ⟨a, 2, none⟩ (.int .i64 1) := ⟨_, rfl⟩
  have z1 : w1.heap.size = w.heap.size := by rw [hw]; simp
  rw [← hw] at hA1 hL1 hR1 hC1
  have HW := Lib.hid hw
  have HA1 := Lib.hid hA1
  have HL1 := Lib.hid hL1
  have HR1 := Lib.hid hR1
  have HC1 := Lib.hid hC1
  have al := hA1.lt
  have ll := hL1.lt
  have OWN := hR1.1
  rw [hw] at OWN
  have hmx : (3 : Nat) + 1 ≤ maxLen := by unfold maxLen; omega
  have hsl : ∃ base n c, sv = .slice base n c := by
    rcases hR.1.2 with ⟨rfl, _⟩ | ⟨g, cap, cur, rfl, _⟩
    · exact ⟨_, _, _, rfl⟩
    · exact ⟨_, _, _, rfl⟩
  obtain ⟨base, sn, sc, rfl⟩ := hsl
  have HCN : Hid (∀ (j : Nat) (u : Value), [Value.int .i64 1][j]? = some u → ((w.setCell ⟨a, 2, none⟩ (.int .i64 1)).alloc (.cells #[.int .i64 1] 3)).cell? ((⟨w.heap.size, 0, none⟩ : Addr).add j) = some u) := by
    have := cell_one_new (w.setCell ⟨a, 2, none⟩ (.int .i64 1)) (.int .i64 1) 3
    rw [show (w.setCell ⟨a, 2, none⟩ (.int .i64 1)).heap.size = w.heap.size by simp] at this
    exact this
  clear hw hA hL hR hA1 hL1 hR1 hC1
  go_enter Tryz.func73, Tryz.ntmps73
  go_wp2_with (at_builtin; go_loud (refine wpList_append_lies _ rfl _ _ 114 rfl 0 3 i0 _ 1 8 Tryz.underlying114 hi0 hz0 hs0 hb0 rfl (by decide) _ 3 _ rfl (OWN.alloc _) ⟨w.heap.size, 0, none⟩ 1 1 [.int .i64 1] rfl rfl HCN.out (by simp [Value.oneCell']) (by omega) hmx (by omega) (by simp) (w.heap.size + 1) (by simp) ?_))
  intro g cap w2 own G hat hlt
  rw [← HW.out] at G
  have hat' : (Value.slice base sn sc).ownBlock = some g ∨ g = w1.heap.size + 1 := by rw [z1]; exact hat
  obtain ⟨hR2, hC2, hz2, up⟩ := HR1.out.app own G hat'
  have hA2 : Has w2 a 254 #[.slice (some ⟨L, 0, none⟩) 5 5, .slice base sn sc, .int .i64 1] := (up _ HA1.out.lt (HR1.out.ne HA1.out (by decide))).trans HA1.out
  have hL2 : Has w2 L 256 #[.int .i64 0, .int .i64 0, .int .i64 0, .int .i64 0, .int .i64 0, .int .i64 1, .int .i64 1, .int .i64 1, .int .i64 2, .int .i64 2, .int .i64 2, .int .i64 2, .int .i64 3, .int .i64 3, .int .i64 3, .int .i64 3, .int .i64 4, .int .i64 4, .int .i64 4, .int .i64 4] := (up _ HL1.out.lt (HR1.out.ne HL1.out (by decide))).trans HL1.out
  have hC2 : Chg S w w2 := HC1.out.trans hC2
  clear hat hat' up G own HA1 HL1 HR1 HC1 HCN OWN al ll a0 a1 a2 fa1 fa2 l4 l5 l6 l7 fl4 fl5 fl6 fl7
  have hA := hA2
  have hL := hL2
  have a0 := hA.cell 0
  have a1 := hA.cell 1
  have a2 := hA.cell 2
  have fa1 := hA.free 1
  have fa2 := hA.free 2
  have l4 := hL.cell 4
  have fl4 := hL.free 4
  have l5 := hL.cell 5
  have fl5 := hL.free 5
  have l6 := hL.cell 6
  have fl6 := hL.free 6
  have l7 := hL.cell 7
  have fl7 := hL.free 7
  simp at a0 a1 a2 l4 l5 l6 l7
  go_wp2_with fail
  have hA3 := (hA2).set 1 (.slice (some ⟨g, 0, none⟩) (3 + 1) cap)
  have hL3 := (hL2).setOther 1 (Ne.symm aL) (.slice (some ⟨g, 0, none⟩) (3 + 1) cap)
  have hR3 := (hR2).setOther (hR2.ne hA2 (by decide)) 1 (.slice (some ⟨g, 0, none⟩) (3 + 1) cap)
  have hC3 := (hC2).set s1 1 (.slice (some ⟨g, 0, none⟩) (3 + 1) cap)
  simp at hA3 hL3
  obtain ⟨w3, hw⟩ : ∃ W, W = (w2).setCell ⟨a, 1, none⟩ (.slice (some ⟨g, 0, none⟩) (3 + 1) cap) := ⟨_, rfl⟩
  have z3 : w3.heap.size = w2.heap.size := by rw [hw]; simp
  rw [← hw] at hA3 hL3 hR3 hC3 ⊢
  clear hw hA hL a0 a1 a2 fa1 fa2 l4 l5 l6 l7 fl4 fl5 fl6 fl7 hA2 hL2 hR2 hC2
  have a0 := hA3.cell 0
  have a1 := hA3.cell 1
  have a2 := hA3.cell 2
  have fa1 := hA3.free 1
  have fa2 := hA3.free 2
  have l4 := hL3.cell 4
  have fl4 := hL3.free 4
  have l5 := hL3.cell 5
  have fl5 := hL3.free 5
  have l6 := hL3.cell 6
  have fl6 := hL3.free 6
  have l7 := hL3.cell 7
  have fl7 := hL3.free 7
  simp at a0 a1 a2 l4 l5 l6 l7
  go_wp2_with fail
  go_quiet (fail)
  go_wp2_with fail
  clear a0 a1 a2 fa1 fa2 l4 l5 l6 l7 fl4 fl5 fl6 fl7
  have hA9 : Has (w3.drewN nq) a 254 #[.slice (some ⟨L, 0, none⟩) 5 5, .slice (some ⟨g, 0, none⟩) 4 cap, .int .i64 1] := hA3
  have hL9 : Has (w3.drewN nq) L 256 #[.int .i64 0, .int .i64 0, .int .i64 0, .int .i64 0, .int .i64 0, .int .i64 1, .int .i64 1, .int .i64 1, .int .i64 2, .int .i64 2, .int .i64 2, .int .i64 2, .int .i64 3, .int .i64 3, .int .i64 3, .int .i64 3, .int .i64 4, .int .i64 4, .int .i64 4, .int .i64 4] := hL3
  have hR9 : Row (fun b => S b ∨ w1.heap.size ≤ b) (w3.drewN nq) 3 1 (.slice (some ⟨g, 0, none⟩) (3 + 1) cap) (3 + 1) (stackL 2 ++ [.int .i64 1]) := hR3
  have hC9 : Chg S w (w3.drewN nq) := ⟨hC3.os, hC3.tape, hC3.output, hC3.size, hC3.block⟩
  have z9 : (w3.drewN nq).heap.size = w2.heap.size := z3
  obtain ⟨w9, hw9⟩ : ∃ W, W = w3.drewN nq := ⟨_, rfl⟩
  rw [← hw9] at hA9 hL9 hR9 hC9 z9 ⊢
  clear hw9 hA3 hL3 hR3 hC3 z3
  have hA3 := hA9
  have hL3 := hL9
  have hR3 := hR9
  have hC3 := hC9
  have z3 := z9
  clear hA9 hL9 hR9 hC9 z9
  have hA := hA3
  have hL := hL3
  have a0 := hA.cell 0
  have a1 := hA.cell 1
  have a2 := hA.cell 2
  have fa1 := hA.free 1
  have fa2 := hA.free 2
  have l4 := hL.cell 4
  have fl4 := hL.free 4
  have l5 := hL.cell 5
  have fl5 := hL.free 5
  have l6 := hL.cell 6
  have fl6 := hL.free 6
  have l7 := hL.cell 7
  have fl7 := hL.free 7
  simp at a0 a1 a2 l4 l5 l6 l7
  go_region
  have hA4 := (((hA3).setOther 4 aL (.int .i64 1)).setOther 7 aL (.int .i64 1)).drew
  have hL4 := (((hL3).set 4 (.int .i64 1)).set 7 (.int .i64 1)).drew
  have hR4 := (((hR3).setOther (hR3.ne hL3 (by decide)) 4 (.int .i64 1)).setOther (hR3.ne hL3 (by decide)) 7 (.int .i64 1)).drew
  have hC4 := (((hC3).set s2 4 (.int .i64 1)).set s2 7 (.int .i64 1)).drew
  simp at hA4 hL4
  obtain ⟨w4, hw⟩ : ∃ W, W = (((w9).setCell ⟨L, 4, none⟩ (.int .i64 1)).setCell ⟨L, 7, none⟩ (.int .i64 1)).drew := ⟨_, rfl⟩
  have z4 : w4.heap.size = w9.heap.size := by rw [hw]; simp
  rw [← hw] at hA4 hL4 hR4 hC4 ⊢
  clear hw hA hL a0 a1 a2 fa1 fa2 l4 l5 l6 l7 fl4 fl5 fl6 fl7 hA3 hL3 hR3 hC3
  go_wp2_with fail
  have hA := hA4
  have hL := hL4
  have a0 := hA.cell 0
  have a1 := hA.cell 1
  have a2 := hA.cell 2
  have fa1 := hA.free 1
  have fa2 := hA.free 2
  have l4 := hL.cell 4
  have fl4 := hL.free 4
  have l5 := hL.cell 5
  have fl5 := hL.free 5
  have l6 := hL.cell 6
  have fl6 := hL.free 6
  have l7 := hL.cell 7
  have fl7 := hL.free 7
  simp at a0 a1 a2 l4 l5 l6 l7
  go_region
  have hA5 := ((hA4).setOther 5 aL (.int .i64 1)).drew
  have hL5 := ((hL4).set 5 (.int .i64 1)).drew
  have hR5 := ((hR4).setOther (hR4.ne hL4 (by decide)) 5 (.int .i64 1)).drew
  have hC5 := ((hC4).set s2 5 (.int .i64 1)).drew
  simp at hA5 hL5
  obtain ⟨w5, hw⟩ : ∃ W, W = ((w4).setCell ⟨L, 5, none⟩ (.int .i64 1)).drew := ⟨_, rfl⟩
  have z5 : w5.heap.size = w4.heap.size := by rw [hw]; simp
  rw [← hw] at hA5 hL5 hR5 hC5 ⊢
  clear hw hA hL a0 a1 a2 fa1 fa2 l4 l5 l6 l7 fl4 fl5 fl6 fl7 hA4 hL4 hR4 hC4
  go_wp2_with fail
  have hA := hA5
  have hL := hL5
  have a0 := hA.cell 0
  have a1 := hA.cell 1
  have a2 := hA.cell 2
  have fa1 := hA.free 1
  have fa2 := hA.free 2
  have l4 := hL.cell 4
  have fl4 := hL.free 4
  have l5 := hL.cell 5
  have fl5 := hL.free 5
  have l6 := hL.cell 6
  have fl6 := hL.free 6
  have l7 := hL.cell 7
  have fl7 := hL.free 7
  simp at a0 a1 a2 l4 l5 l6 l7
  go_region
  have hA6 := ((hA5).setOther 6 aL (.int .i64 1)).drew
  have hL6 := ((hL5).set 6 (.int .i64 1)).drew
  have hR6 := ((hR5).setOther (hR5.ne hL5 (by decide)) 6 (.int .i64 1)).drew
  have hC6 := ((hC5).set s2 6 (.int .i64 1)).drew
  simp at hA6 hL6
  obtain ⟨w6, hw⟩ : ∃ W, W = ((w5).setCell ⟨L, 6, none⟩ (.int .i64 1)).drew := ⟨_, rfl⟩
  have z6 : w6.heap.size = w5.heap.size := by rw [hw]; simp
  rw [← hw] at hA6 hL6 hR6 hC6 ⊢
  clear hw hA hL a0 a1 a2 fa1 fa2 l4 l5 l6 l7 fl4 fl5 fl6 fl7 hA5 hL5 hR5 hC5
  go_wp2_with fail
  go_ret
  exact ⟨rfl, ⟨L, _, .inl s1, .inl s2, hA6, hL6, hR6.mono (fun b h => by rw [← z1]; exact h)⟩, hC6⟩
end Go.Proofs.YtngdebpaheejlaaGreatDoor
namespace Go.Proofs.YtngdebpaheejlaaGreatDoor
open Go.RowKit Go.Shelf
set_option linter.unusedSimpArgs false
set_option linter.unusedVariables false
attribute [local go_sem] Oper.semAt_some
theorem working_c (a : Nat) (w : World) : Calls Tryz.prog 68 #[.pointer (some ⟨a, 0, none⟩)] w fun e w' => e = .returned (.func (.func 106) #[] #[.pointer (some ⟨w.heap.size, 0, none⟩)]) ∧ w' = w.alloc (.cells #[.pointer (some ⟨a, 0, none⟩)] 130) := by
  go_enter Tryz.func68, Tryz.ntmps68
  go_wp2
  go_ret
  exact ⟨rfl, rfl⟩
set_option maxRecDepth 100000 in
set_option maxHeartbeats 2000000 in
theorem working_seq {w : World} (Z : Nat → Prop) (bx a L : Nat) (sv : Value) (hbx : Has w bx 130 #[.pointer (some ⟨a, 0, none⟩)]) (hA : Has w a 254 #[.slice (some ⟨L, 0, none⟩) 5 5, sv, .int .i64 1]) (hL : Has w L 256 (ancL 1)) (z1 : Z bx) (z2 : Z a) (z3 : Z L) :
    SeqL Tryz.prog 106 #[.pointer (some ⟨bx, 0, none⟩)] (fun x : Int => #[Value.int .i64 x]) Z [0] w := by
  intro n y B J Jx W hW hB hJ hJx hY h0
  have k0 : KZ Z w W := .of_below hW
  have X0 : Hid (Has W bx 130 #[.pointer (some ⟨a, 0, none⟩)]) := (k0.block _ hbx.lt z1).trans hbx
  have A0 : Hid (Has W a 254 #[.slice (some ⟨L, 0, none⟩) 5 5, sv, .int .i64 1]) := (k0.block _ hA.lt z2).trans hA
  have L0 : Hid (Has W L 256 #[.int .i64 0, .int .i64 0, .int .i64 0, .int .i64 0, .int .i64 1, .int .i64 1, .int .i64 1, .int .i64 1, .int .i64 2, .int .i64 2, .int .i64 2, .int .i64 2, .int .i64 3, .int .i64 3, .int .i64 3, .int .i64 3, .int .i64 4, .int .i64 4, .int .i64 4, .int .i64 4]) := (k0.block _ hL.lt z3).trans hL
  have c0 := Has.cell X0.out 0
  have c1 := Has.cell A0.out 0
  simp at c0 c1
  clear hW hJx hbx hA hL k0
  refine callsIn_wide.2 (callsIn_wide (n := 5) |>.1 ?_)
  refine callsIn_of_wp Tryz.func106 rfl trivial ?_ rfl
  simp only [Tryz.ntmps106, List.size_toArray, List.length_cons, List.length_nil, Nat.reduceAdd, Nat.reduceSub, Array.replicate_succ, Array.replicate_zero, List.push_toArray, List.append_toArray, List.nil_append, List.cons_append]
  gi_wp2
  gi_loopw [3, 4, 10] (fun _ _ p wr => ∃ (k : Nat), p = .int .i64 k ∧ k ≤ 5 ∧ J ([0].take k) wr ∧ KZ Z W wr) (fun _ _ p _ => 5 - (intOf p).toNat)
  case atStart => exact ⟨0, rfl, by omega, h0, KZ.refl _ _⟩
  case round =>
    clear c0 c1 h0
    obtain ⟨k, rfl, hk, hJ1, hK⟩ := hrel
    have L1 : Has wr L 256 #[.int .i64 0, .int .i64 0, .int .i64 0, .int .i64 0, .int .i64 1, .int .i64 1, .int .i64 1, .int .i64 1, .int .i64 2, .int .i64 2, .int .i64 2, .int .i64 2, .int .i64 3, .int .i64 3, .int .i64 3, .int .i64 3, .int .i64 4, .int .i64 4, .int .i64 4, .int .i64 4] := (hK.block _ L0.out.lt z3).trans L0.out
    have up : ∀ xs t, KZ Z W (wr.alloc (.cells xs t)) := fun xs t => hK.grow ((Below.refl _ wr).alloc (Nat.le_refl _) _)
    obtain rfl | rfl | rfl | rfl | rfl | rfl : k = 0 ∨ k = 1 ∨ k = 2 ∨ k = 3 ∨ k = 4 ∨ k = 5 := by omega
    · clear hk
      have l0 := L1.cell 0
      have l1 := L1.cell 1
      have l2 := L1.cell 2
      have l3 := L1.cell 3
      simp at l0 l1 l2 l3
      have J2 : J [] (wr.alloc (.cells #[.int .i64 0, .int .i64 0, .int .i64 0, .int .i64 0] 256)) := hJ.alloc _ hJ1
      obtain ⟨fn, tmps, assign, body, hy, hR⟩ := hY 4 [] 0 _ J2 (by decide)
      clear L1 hY
      gi_wp2
      refine hR.mono ?_
      rintro e W3 ⟨hk3, (⟨rfl, hJ3⟩ | ⟨rfl, hJx3⟩)⟩
      · gi_wp2
        go_roundw
        case rel => exact ⟨0 + 1, rfl, by omega, hJ3, (up _ _).trans hk3.kz⟩
        case measure => simp [intOf]
      · gi_wp2
        refine bodyPost_ret (results_none rfl _ _ _) rfl ?_
        exact ⟨⟨_, rfl⟩, .inr ⟨_, by decide, hJx3⟩⟩
    · clear hk
      have l0 := L1.cell 4
      have l1 := L1.cell 5
      have l2 := L1.cell 6
      have l3 := L1.cell 7
      simp at l0 l1 l2 l3
      clear L1 hY
      gi_wp2
      refine ⟨fun f h => (by cases h), ?_⟩
      gi_wp2
      go_roundw
      case rel => exact ⟨1 + 1, rfl, by omega, hJ.alloc _ hJ1, up _ _⟩
      case measure => simp [intOf]
    · clear hk
      have l0 := L1.cell 8
      have l1 := L1.cell 9
      have l2 := L1.cell 10
      have l3 := L1.cell 11
      simp at l0 l1 l2 l3
      clear L1 hY
      gi_wp2
      refine ⟨fun f h => (by cases h), ?_⟩
      gi_wp2
      go_roundw
      case rel => exact ⟨2 + 1, rfl, by omega, hJ.alloc _ hJ1, up _ _⟩
      case measure => simp [intOf]
    · clear hk
      have l0 := L1.cell 12
      have l1 := L1.cell 13
      have l2 := L1.cell 14
      have l3 := L1.cell 15
      simp at l0 l1 l2 l3
      clear L1 hY
      gi_wp2
      refine ⟨fun f h => (by cases h), ?_⟩
      gi_wp2
      go_roundw
      case rel => exact ⟨3 + 1, rfl, by omega, hJ.alloc _ hJ1, up _ _⟩
      case measure => simp [intOf]
    · clear hk
      have l0 := L1.cell 16
      have l1 := L1.cell 17
      have l2 := L1.cell 18
      have l3 := L1.cell 19
      simp at l0 l1 l2 l3
      clear L1 hY
      gi_wp2
      refine ⟨fun f h => (by cases h), ?_⟩
      gi_wp2
      go_roundw
      case rel => exact ⟨4 + 1, rfl, by omega, hJ.alloc _ hJ1, up _ _⟩
      case measure => simp [intOf]
    · have h5 : ¬ ((5 : Nat) : Int) < 5 := by decide
      clear hk
      gi_wp2
      go_end0
      exact ⟨⟨_, rfl⟩, .inl hJ1⟩
theorem ancL_gone (k b : Nat) (hk : k = 1 ∨ k = 2) (hb : b < 5) : (ancL k)[b * 4]? = some (.int .i64 ((if b < k then 0 else b : Nat) : Int)) := by
  obtain rfl | rfl | rfl | rfl | rfl : b = 0 ∨ b = 1 ∨ b = 2 ∨ b = 3 ∨ b = 4 := by omega
  all_goals (rcases hk with rfl | rfl <;> rfl)
theorem drewN_drewN (w : World) (a b : Nat) : (w.drewN a).drewN b = w.drewN (a + b) := by
  simp [World.drewN, Nat.add_assoc]
open Classical in
/-- What anchor.draw answers. -/
noncomputable def drawN (x : Int) (b m : Nat) : Nat := if h : b < 65536 ∧ m < 65536 ∧ 0 < m then Classical.choose (draw_c x b m h.1 h.2.1 h.2.2) else 0
theorem drawN_spec (x : Int) (b m : Nat) (hb : b < 65536) (hm : m < 65536) (h0 : 0 < m) : drawN x b m < m ∧ ∀ w, Calls Tryz.prog 185 #[.int .u64 x, .int .i64 b, .int .i64 m] w fun e w' => e = .returned (.int .i64 (drawN x b m : Nat)) ∧ w = w' := by
  unfold drawN
  rw [dif_pos ⟨hb, hm, h0⟩]
  exact Classical.choose_spec (draw_c x b m hb hm h0)
/-- The bucket that is come to from b on, of those below k. -/
noncomputable def bkN (k : Nat) (x : Int) : Nat → Nat → Nat
  | 0, b => b
  | f + 1, b => if b < k then b else bkN k x f (drawN x b b)
theorem bkN_lt (k : Nat) (hk : 0 < k) (x : Int) : ∀ f b, b < f → b < 65536 → bkN k x f b < k
  | 0, b, h, _ => by omega
  | f + 1, b, h, hb => by
    unfold bkN
    split
    · assumption
    · have := (drawN_spec x b b hb hb (by omega)).1
      exact bkN_lt k hk x f _ (by omega) (by omega)
noncomputable def bucketN (k : Nat) (x : Int) : Nat := bkN k x 5 (drawN x 5 5)
theorem bucketN_lt (k : Nat) (hk : 0 < k) (x : Int) : bucketN k x < k := bkN_lt k hk x 5 _ (drawN_spec x 5 5 (by decide) (by decide) (by decide)).1 (by have := (drawN_spec x 5 5 (by decide) (by decide) (by decide)).1; omega)
set_option maxRecDepth 100000 in
set_option maxHeartbeats 2000000 in
theorem bucket_c (S : Nat → Prop) (a k : Nat) (hk : k = 1 ∨ k = 2) (x : Int) (w : World) (h : Anc S w a k) : Calls Tryz.prog 136 #[.pointer (some ⟨a, 0, none⟩), .int .u64 x] w fun e w' => e = .returned (.int .i64 (bucketN k x : Nat)) ∧ Below w.heap.size w w' := by
  obtain ⟨L, sv, s1, s2, hA, hL, hR⟩ := h
  have HLL : Hid (∀ n b, b < 5 → (w.drewN n).cell? ⟨L, b * 4, none⟩ = some (.int .i64 ((if b < k then 0 else b : Nat) : Int))) := fun n b hb => (Has.cell (w := w.drewN n) (show Has (w.drewN n) L 256 (ancL k) from hL) (b * 4)).trans (ancL_gone k b hk hb)
  have a0 := hA.cell 0
  simp at a0
  obtain ⟨hz0, hd0⟩ := drawN_spec x 5 5 (by decide) (by decide) (by decide)
  have HZ : Hid (bkN k x 5 (drawN x 5 5) = bucketN k x) := rfl
  obtain ⟨Z, hZ⟩ : ∃ Z, bucketN k x = Z := ⟨_, rfl⟩
  rw [hZ] at HZ ⊢
  clear hZ
  obtain ⟨z0, hz⟩ : ∃ z, drawN x 5 5 = z := ⟨_, rfl⟩
  rw [hz] at HZ hz0 hd0
  clear hz
  have HD := Lib.hid hd0
  have HDR := Lib.hid (fun b m hb hm h0 => drawN_spec x b m hb hm h0)
  have A0 := Lib.hid hA
  clear hd0 hA hL hR
  go_enter Tryz.func136, Tryz.ntmps136
  go_wp2_with fail
  go_quiet ((go_at_call 185; exact Calls.quiet_of_same ((HD.out _).mono (fun _ _ q => And.intro q.1 q.2.symm))))
  go_wp2_with fail
  go_loopw [5, 6, 7] (fun v _ _ wr => ∃ (b n f : Nat), b < 5 ∧ b < f ∧ Hid (bkN k x f b = Z) ∧ v = .int .i64 b ∧ wr = w.drewN n) (fun v _ _ _ => (intOf v).toNat)
  case atStart => exact ⟨z0, _, 5, hz0, hz0, HZ, rfl, rfl⟩
  case round =>
    clear hz0 HD a0 HZ
    obtain ⟨b, n, f, hb, hbf, HQ, rfl, rfl⟩ := hrel
    have a0 : (w.drewN n).cell? ⟨a, 0, none⟩ = some (.slice (some ⟨L, 0, none⟩) 5 5) := by have := Has.cell A0.out 0; simp at this; exact this
    have lb := HLL.out n b hb
    obtain ⟨f, rfl⟩ : ∃ g, f = g + 1 := ⟨f - 1, by omega⟩
    by_cases hbk : b < k
    · rw [if_pos hbk] at lb
      have HB : Hid (b = Z) := by
        show b = Z
        have := HQ.out
        unfold bkN at this
        rwa [if_pos hbk] at this
      go_wp2_with fail
      go_ret
      rw [HB.out]
      exact ⟨rfl, Below.drN (Below.refl _ _) n⟩
    · rw [if_neg hbk] at lb
      have HB : Hid (bkN k x f (drawN x b b) = Z) := by
        show _ = Z
        have := HQ.out
        unfold bkN at this
        rwa [if_neg hbk] at this
      have hb0 : 0 < b := by omega
      have hbz : ¬ b = 0 := by omega
      have hbz' : ¬ (b : Int) = 0 := by omega
      obtain ⟨hz, hd⟩ := HDR.out b b (by omega) (by omega) hb0
      obtain ⟨z, hzz⟩ : ∃ z, drawN x b b = z := ⟨_, rfl⟩
      rw [hzz] at hz hd HB
      have HD2 := Lib.hid hd
      clear hd hzz HQ
      obtain ⟨g, hg, hgz⟩ : ∃ g : Nat, (w.drewN n).cell? ⟨L, z * 4, none⟩ = some (.int .i64 (g : Int)) ∧ g < b := ⟨_, HLL.out n z (by omega), by split <;> omega⟩
      have hgi : ¬ (b : Int) ≤ (g : Int) := by omega
      go_wp2_with fail
      refine (HD2.out _).mono ?_
      rintro e w9 ⟨rfl, rfl⟩
      go_wp2_with fail
      refine wp_loop_once ?_
      go_wp2_with fail
      go_roundw
      case rel => exact ⟨z, n, f, by omega, by omega, HB.out, rfl, rfl⟩
      case measure => simp [intOf]; omega
end Go.Proofs.YtngdebpaheejlaaGreatDoor
namespace Go.Proofs.YtngdebpaheejlaaGreatDoor
open Go.RowKit Go.Shelf
set_option linter.unusedSimpArgs false
set_option linter.unusedVariables false
theorem keyed3 : Maps.Keyed Tryz.prog 3 := Maps.int_keyed Tryz.underlying3
theorem zero3w (w : World) : (zeroValue 3).run Tryz.prog w = .ok (.int .i64 0) w := by kernel_rfl
theorem wf_small (x : Nat) (hx : x < 65536) : (Lit.int .i64 (x : Int)).wf = true := by
  have hmin : IntKind.i64.min = -9223372036854775808 := rfl
  have hmax : IntKind.i64.max = 9223372036854775807 := rfl
  simp only [Lit.wf, Bool.and_eq_true, decide_eq_true_eq]
  omega
theorem key3 (x : Nat) (hx : x < 65536) : keyOf Tryz.prog 3 (.int .i64 x) = some (.int .i64 x) := Maps.keyOf_int_mk Tryz.underlying3 (wf_small x hx)
/-- Some maps and rows of cells are kept. -/
def KeepM (S : Nat → Prop) (w w' : World) : Prop := ∀ b, b < w.heap.size → S b → w'.heap[b]? = w.heap[b]?
theorem KeepM.keep {S : Nat → Prop} {w w' : World} (h : KeepM S w w') : Keep S w w' := fun b t xs hs hb => (h b hb.lt hs).trans hb
theorem KeepM.chg {S T : Nat → Prop} {w w' : World} (h : Chg T w w') (hd : ∀ b, S b → ¬ T b) : KeepM S w w' := fun b hb hs => h.block b hb (hd b hs)
theorem KeepM.below {S : Nat → Prop} {w w' : World} (h : Below w.heap.size w w') : KeepM S w w' := fun b hb _ => h.block b hb
theorem Anc.lt {S : Nat → Prop} {w : World} {a k : Nat} (h : Anc S w a k) : a < w.heap.size := by
  obtain ⟨L, sv, s1, s2, h1, h2, h3⟩ := h
  exact h1.lt
theorem GMap.neHas {P : Program} {w : World} {K : TypeId} {b n : Nat} {M : Lit → Option Value} (h : GMap P w K b n M) {c : Nat} {t : TypeId} {xs : Array Value} (hc : Has w c t xs) : b ≠ c := by
  rintro rfl
  obtain ⟨D, ⟨es, clock, hb, r⟩, q⟩ := h
  unfold Has at hc
  rw [hb] at hc
  cases hc
def memV (i a st bk : Int) : Value := .agg #[.int .i64 i, .int .u32 a, .int .i64 8080, .int .i64 st, .int .i64 bk]
/-- The backends of a pool: t = 0: none; 1: the first; 2: both; 3: both, the second one drains. -/
def poolM : Nat → Nat → Option Value
  | 1, 1 => some (memV 1 51 1 0)
  | 2, 1 => some (memV 1 51 1 0)
  | 3, 1 => some (memV 1 51 1 0)
  | 2, 2 => some (memV 2 52 1 1)
  | 3, 2 => some (memV 2 52 2 1)
  | _, _ => none
def poolO : Nat → Nat → Option Value
  | 1, 0 => some (.int .i64 1)
  | 2, 0 => some (.int .i64 1)
  | 3, 0 => some (.int .i64 1)
  | 2, 1 => some (.int .i64 2)
  | _, _ => none
def poolK : Nat → Nat
  | 2 => 2
  | _ => 1
def poolN : Nat → Nat
  | 0 => 0
  | 2 => 2
  | _ => 1
/-- A map by its entries at 0, 1, 2. -/
def MapAt (S : Nat → Prop) (w : World) (b N : Nat) (f : Nat → Option Value) : Prop := S b ∧ ∃ n M, n ≤ N ∧ GMap Tryz.prog w 3 b n M ∧ ∀ x : Nat, x < 3 → M (.int .i64 (x : Int)) = f x
theorem MapAt.keep {S : Nat → Prop} {w w' : World} {b N : Nat} {f : Nat → Option Value} (h : MapAt S w b N f) (hk : KeepM S w w') : MapAt S w' b N f := by
  obtain ⟨s, n, M, h1, h2, h3⟩ := h
  exact ⟨s, n, M, h1, h2.of_block (hk b h2.lt s), h3⟩
theorem MapAt.mono {S T : Nat → Prop} {w : World} {b N : Nat} {f : Nat → Option Value} (h : MapAt S w b N f) (hS : ∀ b, S b → T b) : MapAt T w b N f := ⟨hS _ h.1, h.2⟩
theorem MapAt.lt {S : Nat → Prop} {w : World} {b N : Nat} {f : Nat → Option Value} (h : MapAt S w b N f) : b < w.heap.size := by
  obtain ⟨s, n, M, h1, h2, h3⟩ := h
  exact h2.lt
theorem MapAt.ne {S : Nat → Prop} {w : World} {b N : Nat} {f : Nat → Option Value} (h : MapAt S w b N f) {c : Nat} {t : TypeId} {xs : Array Value} (hc : Has w c t xs) : b ≠ c := by
  obtain ⟨s, n, M, h1, h2, h3⟩ := h
  exact h2.neHas hc
structure PoolS (S : Nat → Prop) (w : World) (pb t : Nat) (key : ByteArray) (ab am om : Nat) : Prop where
  own : S pb
  head : Has w pb 134 #[.string key, .int .i64 5, .pointer (some ⟨ab, 0, none⟩), .map (some am), .map (some om), .int .i64 (poolN t)]
  anc : Anc S w ab (poolK t)
  all : MapAt S w am t (poolM t)
  owner : MapAt S w om t (poolO t)
  ne : am ≠ om
theorem PoolS.keep {S : Nat → Prop} {w w' : World} {pb t ab am om : Nat} {key : ByteArray} (h : PoolS S w pb t key ab am om) (hk : KeepM S w w') : PoolS S w' pb t key ab am om :=
  ⟨h.own, hk.keep _ _ _ h.own h.head, h.anc.keepH hk.keep, h.all.keep hk, h.owner.keep hk, h.ne⟩
theorem PoolS.mono {S T : Nat → Prop} {w : World} {pb t ab am om : Nat} {key : ByteArray} (h : PoolS S w pb t key ab am om) (hS : ∀ b, S b → T b) : PoolS T w pb t key ab am om :=
  ⟨hS _ h.own, h.head, h.anc.mono hS, h.all.mono hS, h.owner.mono hS, h.ne⟩
theorem GMap.alloc {P : Program} {w : World} {K : TypeId} {b n : Nat} {M : Lit → Option Value} (h : GMap P w K b n M) (o : Obj) : GMap P (w.alloc o) K b n M := h.of_block (Below.heap_alloc _ _ _ h.lt)
theorem MapAt.made (S : Nat → Prop) (w : World) (h : S w.heap.size) : MapAt S (w.alloc (.map #[] 0)) w.heap.size 0 (fun _ => none) := ⟨h, 0, _, by omega, GMap.made Tryz.prog w 3, fun _ _ => rfl⟩
theorem KeepM.alloc (S : Nat → Prop) (w : World) (o : Obj) : KeepM S w (w.alloc o) := fun b hb _ => Below.heap_alloc _ _ _ hb
theorem KeepM.trans {S : Nat → Prop} {a b c : World} (h : KeepM S a b) (k : KeepM S b c) (hs : a.heap.size ≤ b.heap.size) : KeepM S a c := fun x hx hs' => (k x (by omega) hs').trans (h x hx hs')
set_option maxRecDepth 100000 in
set_option maxHeartbeats 1600000 in
theorem pnew_c (key : ByteArray) (hk : key.size = 16) (w : World) : Calls Tryz.prog 29 #[.int .i64 5, .string key] w fun e w' => ∃ pb ab am om, e = .returned (.tuple #[.pointer (some ⟨pb, 0, none⟩), .int .i64 0]) ∧ PoolS (fun b => w.heap.size ≤ b) w' pb 0 key ab am om ∧ Below w.heap.size w w' := by
  have hmm := @run_makeMap Tryz.prog
  have HA := Lib.hid anew_c
  go_enter Tryz.func29, Tryz.ntmps29
  go_wp2_with fail
  refine (HA.out _).mono ?_
  rintro e w1 ⟨a, rfl, hA, b1⟩
  have al := hA.lt
  go_wp2_with fail
  go_ret2
  have bz := b1.size
  have m1 := ((MapAt.made (fun b => w.heap.size ≤ b) w1 bz).keep (KeepM.alloc _ _ (.map #[] 0))).keep (KeepM.alloc _ _ (.cells #[.string key, .int .i64 5, .pointer (some ⟨a, 0, none⟩), .map (some w1.heap.size), .map (some (w1.heap.size + 1)), .int .i64 0] 134))
  have m2 := (MapAt.made (fun b => w.heap.size ≤ b) (w1.alloc (.map #[] 0)) (by simp; omega)).keep (KeepM.alloc _ _ (.cells #[.string key, .int .i64 5, .pointer (some ⟨a, 0, none⟩), .map (some w1.heap.size), .map (some (w1.heap.size + 1)), .int .i64 0] 134))
  simp only [World.size_alloc] at m2
  have m2' : MapAt _ _ (w1.heap.size + 1) 0 (poolO 0) := m2
  refine ⟨w1.heap.size + 1 + 1, a, w1.heap.size, w1.heap.size + 1, rfl, ⟨by omega, has_made (by simp), ?_, m1, m2', by omega⟩, ?_⟩
  · exact ((hA.keepH (KeepM.alloc _ _ _).keep).keepH (KeepM.alloc _ _ _).keep).keepH (KeepM.alloc _ _ _).keep
  · exact b1.trans (((((Below.refl w1.heap.size w1).alloc (Nat.le_refl _) _).alloc (by simp) _).alloc (by simp; omega) _).mono bz)
end Go.Proofs.YtngdebpaheejlaaGreatDoor
