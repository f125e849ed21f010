/- Both ports beside one another: what one does leaves the other as it was; a deed at both. -/
import Derived.Test.YthkadlmdjgdliaaDoorRE
namespace Go.Proofs.YthkadlmdjgdliaaDoor
open Go.RowKit
set_option linter.unusedSimpArgs false
set_option linter.unusedVariables false
open V2 (Only)

section
variable {w0 : Base} {w w' : World} {pb pm rb low n rest t tr : Nat} {B : Lit → Option PB} {S : Lit → PA} {R : K4 → PA} {k : K4} {kl : Lit}
theorem Sys.foreign (h : Sys w0 w pb pm low n rest t B S) {w1 : Base} (hw : w1.w = w') (e : ∀ b, b < w.heap.size → ¬ w0.Z b ∨ b = 0 → w'.heap[b]? = w.heap[b]?) (hs : w.heap.size ≤ w'.heap.size) (hz : ∀ b, w1.Z b → b < w'.heap.size) (hz2 : ∀ b, b < w.heap.size → w1.Z b → w0.Z b) (hp : w1.Z 0) : Sys w1 w' pb pm low n rest t B S := by
  have hk : Keeps w1 w' := by subst hw; exact Keeps.refl _
  obtain ⟨np, h1, g⟩ := h.map
  have l0 : 0 < w.heap.size := Nat.lt_of_lt_of_le (h.zlt 0 h.pos) h.bel.size
  refine ⟨(e pb h.head.lt (.inl h.b1)).trans h.head, ⟨np, h1, g.of_block (e pm h.mlt (.inl h.b2))⟩, fun kl p hp' => ?_, h.new, h.disj, h.tab.of0 (e 0 l0 (.inr rfl)), hk, fun b hb => by rw [hw]; exact hz b hb, hp, fun q => h.b1 (hz2 pb h.head.lt q), fun q => h.b2 (hz2 pm h.mlt q), h.ne, h.lo1, h.lo2, h.hi1, h.hi2⟩
  obtain ⟨q1, q2, q3, q4⟩ := h.part kl p hp'
  exact ⟨q1.of_blocks (fun b hb b1 b2 => e b hb (.inl (q2 b b1 b2))), fun b b1 b2 q => q2 b b1 b2 (hz2 b (by omega) q), Nat.le_trans q3 hs, q4⟩
theorem PS.top (h : PS w0 w pb pm low n rest t S) (kl : Lit) (x : Nat) (hx : (S kl).U x = true) : x < n := by
  obtain ⟨B, h⟩ := h
  cases hB : B kl with
  | none => rw [h.new kl hB] at hx; simp [PA.U, PA.new] at hx
  | some p => exact (h.part kl p hB).1.cur.top x hx
theorem PS.hat (h : PS w0 w pb pm low n rest t S) (kl : Lit) : (S kl).at1 < n := by
  obtain ⟨B, h⟩ := h
  cases hB : B kl with
  | none => rw [h.new kl hB]; exact h.lo1
  | some p => exact (h.part kl p hB).1.cur.hat
theorem least_false (P : Nat → Bool) : ∀ m, (∀ l, l < m → P l = true) ∨ ∃ l, l < m ∧ P l = false ∧ ∀ i, i < l → P i = true
  | 0 => .inl fun l hl => by omega
  | m + 1 => by
    rcases least_false P m with h | ⟨l, h1, h2⟩
    · cases hm : P m with
      | true =>
        refine .inl fun l hl => ?_
        by_cases e : l = m
        · subst e; exact hm
        · exact h l (by omega)
      | false => exact .inr ⟨m, by omega, hm, h⟩
    · exact .inr ⟨l, by omega, h2⟩
theorem next_ex {U : Nat → Bool} {n at1 : Nat} (hat : at1 < n) (hf : ¬ ∀ x, x < n → U x = true) : ∃ x, V2.Next U n at1 x := by
  rcases least_false (fun l => U ((at1 + l) % n)) n with h | ⟨l, h1, h2, h3⟩
  · exact absurd (full_of hat h) hf
  · exact ⟨_, next_of hat h1 rfl h2 h3⟩
/-- Both, each in its own blocks; X's blocks are nobody's. -/
def JJ (X : Nat → Prop) (w : World) (pb pm rb low n rest t tr : Nat) (S : Lit → PA) (R : K4 → PA) : Prop :=
  ∃ Zp Zr, PS ⟨w, Zp⟩ w pb pm low n rest t S ∧ RP ⟨w, Zr⟩ w rb low n rest tr R ∧ (∀ b, b < w.heap.size → Zp b ∨ Zr b) ∧ (∀ b, X b → Zp b ∧ Zr b) ∧ X 0
theorem JJ.left {X : Nat → Prop} (h : JJ X w pb pm rb low n rest t tr S R) {Q : Value → Prop} {v : Value} {t' : Nat} {S' : Lit → PA} {f : FuncId} {args : Array Value} (c : ∀ w0 : Base, PS w0 w pb pm low n rest t S → Calls Tryd.prog f args w fun e w' => e = .returned v ∧ PS w0 w' pb pm low n rest t' S') :
    Calls Tryd.prog f args w fun e w' => e = .returned v ∧ JJ X w' pb pm rb low n rest t' tr S' R ∧ Chg (fun b => ¬ X b) w w' := by
  obtain ⟨Zp, Zr, hp, hr, hc, hx, h0⟩ := h
  refine (c _ hp).mono ?_
  rintro e w' ⟨rfl, B, hs⟩
  have K := hs.bel
  refine ⟨rfl, ⟨Zp, fun b => Zr b ∨ (w.heap.size ≤ b ∧ b < w'.heap.size), ⟨B, hs.rebase Zp (fun b hb => Nat.lt_of_lt_of_le (hs.zlt b hb) K.size) hs.pos hs.b1 hs.b2 (fun kl p hk => (hs.part kl p hk).2.1)⟩, ?_, fun b hb => ?_, fun b hb => ⟨(hx b hb).1, .inl (hx b hb).2⟩, h0⟩, ⟨K.os, K.tape, K.output, K.size, fun b hb hn => K.block b (hx b (by simpa using hn)).1⟩⟩
  · obtain ⟨L, B', hr, ht⟩ := hr
    refine ⟨L, B', hr.foreign rfl (fun b hb hn => K.block b ((hc b hb).resolve_right hn)) K.size (fun b hb => ?_) (fun b hb hz => ?_), ht⟩
    · rcases hb with q | q
      · exact Nat.lt_of_lt_of_le (hr.zlt b q) K.size
      · exact q.2
    · rcases hz with q | q
      · exact q
      · omega
  · rcases Nat.lt_or_ge b w.heap.size with q | q
    · exact (hc b q).imp id .inl
    · exact .inr (.inr ⟨q, hb⟩)
theorem JJ.right {X : Nat → Prop} (h : JJ X w pb pm rb low n rest t tr S R) {v : Value} {t' : Nat} {R' : K4 → PA} {f : FuncId} {args : Array Value} (c : ∀ w0 : Base, RP w0 w rb low n rest tr R → Calls Tryd.prog f args w fun e w' => e = .returned v ∧ RP w0 w' rb low n rest t' R') :
    Calls Tryd.prog f args w fun e w' => e = .returned v ∧ JJ X w' pb pm rb low n rest t t' S R' ∧ Chg (fun b => ¬ X b) w w' := by
  obtain ⟨Zp, Zr, ⟨B, hp⟩, hr, hc, hx, h0⟩ := h
  refine (c _ hr).mono ?_
  rintro e w' ⟨rfl, hs⟩
  have K := hs.keeps
  have zl := hs.zlt
  refine ⟨rfl, ⟨fun b => Zp b ∨ (w.heap.size ≤ b ∧ b < w'.heap.size), Zr, ⟨B, hp.foreign rfl (fun b hb hn => K.block b ?_) K.size (fun b hb => ?_) (fun b hb hz => ?_) (.inl hp.pos)⟩, ?_, fun b hb => ?_, fun b hb => ⟨.inl (hx b hb).1, (hx b hb).2⟩, h0⟩, ⟨K.os, K.tape, K.output, K.size, fun b hb hn => K.block b (hx b (by simpa using hn)).2⟩⟩
  · rcases hn with q | q
    · exact (hc b hb).resolve_left q
    · subst q; exact (hx 0 h0).2
  · rcases hb with q | q
    · exact Nat.lt_of_lt_of_le (hp.zlt b q) K.size
    · exact q.2
  · rcases hz with q | q
    · exact q
    · omega
  · obtain ⟨L, B', hs, ht⟩ := hs
    exact ⟨L, B', hs.foreign rfl (fun b hb hn => rfl) (Nat.le_refl _) (fun b hb => Nat.lt_of_lt_of_le (hs.zlt b hb) hs.bel.size) (fun b hb hz => hz), ht⟩
  · rcases Nat.lt_or_ge b w.heap.size with q | q
    · exact (hc b q).imp .inl id
    · exact .inl (.inr ⟨q, hb⟩)
/-- The law's own boxes are nobody's. -/
theorem JJ.box {X : Nat → Prop} (h : JJ X w pb pm rb low n rest t tr S R) (o : Obj) : JJ (fun b => X b ∨ b = w.heap.size) (w.alloc o) pb pm rb low n rest t tr S R := by
  obtain ⟨Zp, Zr, ⟨B, hp⟩, ⟨L, B', hr, ht⟩, hc, hx, h0⟩ := h
  refine ⟨fun b => Zp b ∨ b = w.heap.size, fun b => Zr b ∨ b = w.heap.size, ⟨B, hp.foreign rfl (fun b hb _ => Below.heap_alloc _ _ _ hb) (by simp) (fun b hb => ?_) (fun b hb hz => ?_) (.inl hp.pos)⟩, ⟨L, B', hr.foreign rfl (fun b hb _ => Below.heap_alloc _ _ _ hb) (by simp) (fun b hb => ?_) (fun b hb hz => ?_), ht⟩, fun b hb => ?_, fun b hb => ?_, .inl h0⟩
  · rcases hb with q | q
    · have := hp.zlt b q; simp at this ⊢; omega
    · simp; omega
  · rcases hz with q | q
    · exact q
    · omega
  · rcases hb with q | q
    · have := hr.zlt b q; simp at this ⊢; omega
    · simp; omega
  · rcases hz with q | q
    · exact q
    · omega
  · simp at hb
    by_cases e : b = w.heap.size
    · exact .inl (.inr e)
    · exact (hc b (by omega)).imp .inl .inl
  · rcases hb with q | q
    · exact ⟨.inl (hx b q).1, .inl (hx b q).2⟩
    · exact ⟨.inr q, .inr q⟩
theorem JJ.forget {X Y : Nat → Prop} (h : JJ X w pb pm rb low n rest t tr S R) (hY : ∀ b, Y b → X b) (h0 : Y 0) : JJ Y w pb pm rb low n rest t tr S R := by
  obtain ⟨Zp, Zr, hp, hr, hc, hx, _⟩ := h
  exact ⟨Zp, Zr, hp, hr, hc, fun b hb => hx b (hY b hb), h0⟩
theorem JJ.drN {X : Nat → Prop} (h : JJ X w pb pm rb low n rest t tr S R) (m : Nat) : JJ X (w.drewN m) pb pm rb low n rest t tr S R := by
  obtain ⟨Zp, Zr, ⟨B, hp⟩, ⟨L, B', hr, ht⟩, hc, hx, h0⟩ := h
  exact ⟨Zp, Zr, ⟨B, hp.foreign rfl (fun b hb _ => rfl) (Nat.le_refl _) (fun b hb => hp.zlt b hb) (fun b hb hz => hz) hp.pos⟩, ⟨L, B', hr.foreign rfl (fun b hb _ => rfl) (Nat.le_refl _) (fun b hb => hr.zlt b hb) (fun b hb hz => hz), ht⟩, hc, hx, h0⟩
theorem JJ.dr {X : Nat → Prop} (h : JJ X w pb pm rb low n rest t tr S R) : JJ X w.drew pb pm rb low n rest t tr S R := by
  obtain ⟨Zp, Zr, ⟨B, hp⟩, ⟨L, B', hr, ht⟩, hc, hx, h0⟩ := h
  exact ⟨Zp, Zr, ⟨B, hp.foreign rfl (fun b hb _ => rfl) (Nat.le_refl _) (fun b hb => hp.zlt b hb) (fun b hb hz => hz) hp.pos⟩, ⟨L, B', hr.foreign rfl (fun b hb _ => rfl) (Nat.le_refl _) (fun b hb => hr.zlt b hb) (fun b hb hz => hz), ht⟩, hc, hx, h0⟩
theorem JJ.more {X : Nat → Prop} (h : JJ X w pb pm rb low n rest t tr S R) {t' tr' : Nat} (h1 : t ≤ t') (h2 : tr ≤ tr') : JJ X w pb pm rb low n rest t' tr' S R := by
  obtain ⟨Zp, Zr, hp, hr, h⟩ := h
  exact ⟨Zp, Zr, hp.more h1, hr.more h2, h⟩
theorem JJ.top {X : Nat → Prop} (h : JJ X w pb pm rb low n rest t tr S R) (kl : Lit) (x : Nat) (hx : (S kl).U x = true) : x < n := by
  obtain ⟨Zp, Zr, hp, _⟩ := h
  exact hp.top kl x hx

/-- Both say the same of each key. -/
def Agr (S : Lit → PA) (R : K4 → PA) : Prop := ∀ (k : K4) (kl : Lit), keyOf Tryd.prog 24 (kv k.1 k.2.1 k.2.2.1 k.2.2.2) = some kl → S kl = R k
theorem Agr.upd {S : Lit → PA} {R : K4 → PA} (h : Agr S R) {k : K4} {kl : Lit} (hk : keyOf Tryd.prog 24 (kv k.1 k.2.1 k.2.2.1 k.2.2.2) = some kl) (A : PA) : Agr (upd S kl A) (updK R k A) := by
  intro k' kl' hk'
  by_cases e : k' = k
  · subst e
    obtain rfl := Option.some.inj (hk.symm.trans hk')
    rw [upd_same, updK_same]
  · have e2 : kl' ≠ kl := fun q => by
      subst q
      have := keyed24.inj hk' hk
      apply e
      obtain ⟨a, b, c, d⟩ := k
      obtain ⟨a', b', c', d'⟩ := k'
      unfold kv at this
      simp at this
      obtain ⟨q1, q2, q3, q4⟩ := this
      subst q1 q2 q3 q4
      rfl
    rw [upd_other _ _ e2, updK_other _ _ e, h k' kl' hk']
/-- A deed at both, in either order. -/
structure Deed2 (X : Nat → Prop) (w : World) (pb pm rb low n rest t : Nat) (fL : FuncId) (aL : Array Value) (fR : FuncId) (aR : Array Value) (v : Value) (Q : Bool → Bool → World → Prop) : Prop where
  start : Q false false w
  left : ∀ q W, Q false q W → Calls Tryd.prog fL aL W fun e W' => e = .returned v ∧ Q true q W'
  right : ∀ p W, Q p false W → Calls Tryd.prog fR aR W fun e W' => e = .returned v ∧ Q p true W'
  chg : ∀ p q W, Q p q W → Chg (fun b => ¬ X b) w W
  dr : ∀ p q W, Q p q W → Q p q W.drew
  fin : ∀ W, Q true true W → ∃ S' R', Agr S' R' ∧ JJ X W pb pm rb low n rest (t + 2) (t + 2) S' R'
theorem both {X : Nat → Prop} (h : JJ X w pb pm rb low n rest t t S R) {fL fR : FuncId} {aL aR : Array Value} (v : Value) {S' : Lit → PA} {R' : K4 → PA} (hA : Agr S' R')
    (hL : ∀ (w0 : Base) (W : World), PS w0 W pb pm low n rest t S → Calls Tryd.prog fL aL W fun e w' => e = .returned v ∧ PS w0 w' pb pm low n rest (t + 2) S')
    (hR : ∀ (w0 : Base) (W : World), RP w0 W rb low n rest t R → Calls Tryd.prog fR aR W fun e w' => e = .returned v ∧ RP w0 w' rb low n rest (t + 2) R') :
    ∃ Q, Deed2 X w pb pm rb low n rest t fL aL fR aR v Q := by
  refine ⟨fun p q W => JJ X W pb pm rb low n rest (if p then t + 2 else t) (if q then t + 2 else t) (if p then S' else S) (if q then R' else R) ∧ Chg (fun b => ¬ X b) w W, ⟨h, Chg.refl _ _⟩, ?_, ?_, fun p q W hQ => hQ.2, fun p q W hQ => ⟨hQ.1.dr, hQ.2.drew⟩, fun W hQ => ⟨S', R', hA, hQ.1⟩⟩
  · rintro q W ⟨hj, hc⟩
    exact (hj.left (Q := fun _ => True) (fun w0 hp => hL w0 W hp)).mono fun e W' ⟨he, hj', hc'⟩ => ⟨he, hj', hc.trans hc'⟩
  · rintro p W ⟨hj, hc⟩
    exact (hj.right (fun w0 hp => hR w0 W hp)).mono fun e W' ⟨he, hj', hc'⟩ => ⟨he, hj', hc.trans hc'⟩
section
variable {X : Nat → Prop} (k0 k1 k2 k3 : Int) (hk : keyOf Tryd.prog 24 (kv k0 k1 k2 k3) = some kl) (h : JJ X w pb pm rb low n rest t t S R) (hA : Agr S R) (ht : t < 40000) (port now : Int) (hp1 : -9223372036854775808 ≤ port) (hp2 : port ≤ 9223372036854775807)
include hk h hA ht
theorem lent_both (hp1 : -9223372036854775808 ≤ port) (hp2 : port ≤ 9223372036854775807) : ∃ b Q, Deed2 X w pb pm rb low n rest t 11 #[.pointer (some ⟨pb, 0, none⟩), kv k0 k1 k2 k3, .int .i64 port] 14 #[.pointer (some ⟨rb, 0, none⟩), kv k0 k1 k2 k3, .int .i64 port] (.bool b) Q := by
  have e := hA (k0, k1, k2, k3) kl hk
  have top := h.top kl
  rw [e] at top
  refine ⟨_, both h (.bool (lentB low (S kl) port)) hA (fun w0 W hp => (lentP hk port hp1 hp2 hp _ rfl).mono fun e w' ⟨he, hq⟩ => ⟨he, hq.more (by omega)⟩) (fun w0 W hp => (rlent k0 k1 k2 k3 port hp1 hp2 hp (by omega) top).mono fun e' w' ⟨he, hq⟩ => ⟨by rw [he, e], hq.more (by omega)⟩)⟩
theorem rests_both (hp1 : -9223372036854775808 ≤ port) (hp2 : port ≤ 9223372036854775807) : ∃ b Q, Deed2 X w pb pm rb low n rest t 15 #[.pointer (some ⟨pb, 0, none⟩), kv k0 k1 k2 k3, .int .i64 port, .int .i64 now] 16 #[.pointer (some ⟨rb, 0, none⟩), kv k0 k1 k2 k3, .int .i64 port, .int .i64 now] (.bool b) Q := by
  have e := hA (k0, k1, k2, k3) kl hk
  have top := h.top kl
  rw [e] at top
  refine ⟨_, both h (.bool (restB low (S kl) port now)) hA (fun w0 W hp => (restsP hk port now hp1 hp2 hp _ rfl).mono fun e w' ⟨he, hq⟩ => ⟨he, hq.more (by omega)⟩) (fun w0 W hp => (rrests k0 k1 k2 k3 port now hp1 hp2 hp (by omega) top).mono fun e' w' ⟨he, hq⟩ => ⟨by rw [he, e], hq.more (by omega)⟩)⟩
theorem give_both (hp1 : -9223372036854775808 ≤ port) (hp2 : port ≤ 9223372036854775807) : ∃ b Q, Deed2 X w pb pm rb low n rest t 10 #[.pointer (some ⟨pb, 0, none⟩), kv k0 k1 k2 k3, .int .i64 port, .int .i64 now] 13 #[.pointer (some ⟨rb, 0, none⟩), kv k0 k1 k2 k3, .int .i64 port, .int .i64 now] (.bool b) Q := by
  have e := hA (k0, k1, k2, k3) kl hk
  have top := h.top kl
  rw [e] at top
  cases hl : lentB low (S kl) port with
  | false =>
    refine ⟨_, both h (.bool false) hA (fun w0 W hp => (giveNo hk port now hp1 hp2 hp hl).mono fun e w' ⟨he, hq⟩ => ⟨he, hq.more (by omega)⟩) (fun w0 W hp => (rgive_no k0 k1 k2 k3 port now hp1 hp2 hp (by omega) top (by rw [← e]; exact hl)).mono fun e' w' ⟨he, hq⟩ => ⟨he, hq.more (by omega)⟩)⟩
  | true =>
    have hl2 : (low : Int) ≤ port ∧ (S kl).L (port - low).toNat = true := by
      unfold lentB at hl
      rw [Bool.and_eq_true] at hl
      exact ⟨of_decide_eq_true hl.1, hl.2⟩
    obtain ⟨x, hxe⟩ : ∃ x : Nat, (port - (low : Int)).toNat = x := ⟨_, rfl⟩
    rw [hxe] at hl2
    have hx : (S kl).L x = true := hl2.2
    obtain rfl : port = (low : Int) + x := by omega
    refine ⟨_, both h (.bool true) (hA.upd (k := (k0, k1, k2, k3)) hk ((S kl).give x (clk now + rest))) (fun w0 W hp => (giveYes hk x now hp (by omega) hx).mono fun e w' ⟨he, hq⟩ => ⟨he, hq.more (by omega)⟩) (fun w0 W hp => (rgive_yes k0 k1 k2 k3 x now hp (by omega) top (by rw [← e]; exact hx)).mono fun e' w' ⟨he, hq⟩ => ⟨he, ?_⟩)⟩
    rw [e]; exact hq
theorem take_both : ∃ (a f : Int) (Q : _), Deed2 X w pb pm rb low n rest t 9 #[.pointer (some ⟨pb, 0, none⟩), kv k0 k1 k2 k3, .int .i64 now] 17 #[.pointer (some ⟨rb, 0, none⟩), kv k0 k1 k2 k3, .int .i64 now] (.tuple #[.int .i64 a, .int .i64 f]) Q := by
  have e := hA (k0, k1, k2, k3) kl hk
  have top := h.top kl
  rw [e] at top
  by_cases hf : ∀ x, x < n → ((S kl).exp (clk now)).U x = true
  · refine ⟨0, 17, both h _ (hA.upd (k := (k0, k1, k2, k3)) hk ((S kl).exp (clk now))) (fun w0 W hp => (takeFull hk now hp (by omega) hf)) (fun w0 W hp => (rtake_p k0 k1 k2 k3 now hp (by omega) top).mono fun e' w' H => ?_)⟩
    rw [← e] at H
    rcases H with ⟨_, he, hq⟩ | ⟨x, hx, _⟩
    · exact ⟨he, hq.more (by omega)⟩
    · have := hf x hx.1; rw [hx.2.1] at this; cases this
  · obtain ⟨x, hx⟩ : ∃ x, V2.Next ((S kl).exp (clk now)).U n (S kl).at1 x := by
      obtain ⟨Zp, Zr, hp, _⟩ := h
      exact next_ex (hp.hat kl) hf
    refine ⟨(low : Int) + x, 0, both h _ (hA.upd (k := (k0, k1, k2, k3)) hk (((S kl).exp (clk now)).take n x)) (fun w0 W hp => (takeNext hk now hp (by omega) x hx)) (fun w0 W hp => (rtake_p k0 k1 k2 k3 now hp (by omega) top).mono fun e' w' H => ?_)⟩
    rw [← e] at H
    rcases H with ⟨ha, _⟩ | ⟨y, hy, he, hq⟩
    · have := ha x hx.1; rw [hx.2.1] at this; cases this
    · obtain rfl := Next2.unique hx hy
      exact ⟨he, hq.more (by omega)⟩
end
end
end Go.Proofs.YthkadlmdjgdliaaDoor
