/- The walk of Take. -/
import Derived.Test.YthkadlmdjgdliaaDoorJ
namespace Go.Proofs.YthkadlmdjgdliaaDoor
open Go.RowKit
set_option linter.unusedSimpArgs false
set_option linter.unusedVariables false
open V2 (Only)

theorem same_no {x j : Nat} (h : x ≠ j) : (Lit.int .i64 (x : Int)).sameKey (.int .i64 (j : Int)) = false := by simp [Lit.sameKey]; omega
theorem same_yes (j : Nat) : (Lit.int .i64 (j : Int)).sameKey (.int .i64 (j : Int)) = true := by simp [Lit.sameKey]
theorem Mid.keep {A A' : PA} {L : Lit → Bool} {c j u : Nat} (h : Mid A A' L c) (hg : A'.G j = some u) (hl : L (.int .i64 j) = true) (hc : ¬ u ≤ c) : Mid A A' (fun z => L z && !z.sameKey (.int .i64 j)) c := by
  refine ⟨h.1, h.2.1, fun x => ⟨fun hx => (h.2.2 x).1 (by simp at hx; exact hx.1), fun hx => ?_⟩⟩
  by_cases e : x = j
  · subst e
    rw [← (h.2.2 x).1 hl, hg]
    simp [expG, hc]
  · simp only [same_no e, Bool.not_false, Bool.and_true] at hx
    exact (h.2.2 x).2 hx
theorem Mid.drop {A A' : PA} {L : Lit → Bool} {c j u : Nat} (h : Mid A A' L c) (hg : A'.G j = some u) (hl : L (.int .i64 j) = true) (hc : u ≤ c) : Mid A ⟨A'.at1, A'.L, setG A'.G j none⟩ (fun z => L z && !z.sameKey (.int .i64 j)) c := by
  refine ⟨h.1, h.2.1, fun x => ⟨fun hx => ?_, fun hx => ?_⟩⟩
  · by_cases e : x = j
    · subst e; simp [same_yes] at hx
    · simp only [same_no e, Bool.not_false, Bool.and_true] at hx
      rw [← (h.2.2 x).1 hx]; simp [setG, e]
  · by_cases e : x = j
    · subst e
      rw [← (h.2.2 x).1 hl, hg]
      simp [expG, hc, setG]
    · simp only [same_no e, Bool.not_false, Bool.and_true] at hx
      rw [← (h.2.2 x).2 hx]; simp [setG, e]
theorem has_drop {A' : PA} {L : Lit → Bool} {j : Nat} (h : ∀ kl, L kl = true → (givenM A'.G kl).isSome = true) : ∀ kl, (L kl && !kl.sameKey (.int .i64 (j : Int))) = true → (givenM (setG A'.G j none) kl).isSome = true := by
  intro kl hk
  simp at hk
  have : kl ≠ .int .i64 (j : Int) := fun e => by subst e; rw [same_yes] at hk; exact absurd hk.2 (by simp)
  rw [← givenM_set A'.G j none none rfl, putM_other _ _ this]
  exact h kl hk.1

section
variable {w0 : Base} {w w' : World} {pb pm low n rest t : Nat} {B : Lit → Option PB} {S : Lit → PA}
def TookQ (B : Lit → Option PB) (kl : Lit) (b : Bool) (v : Value) : Prop := (b = false ∧ B kl = none ∧ v = .pointer none) ∨ ∃ p, b = true ∧ B kl = some p ∧ v = .pointer (some ⟨p.xb, 0, none⟩)
set_option maxRecDepth 100000 in
set_option maxHeartbeats 3200000 in
theorem take_p (k0 k1 k2 k3 : Int) {kl : Lit} (hk : keyOf Tryd.prog 24 (kv k0 k1 k2 k3) = some kl) (now : Int) (h : Sys w0 w pb pm low n rest t B S) (ht : t < 60000) :
    Calls Tryd.prog 9 #[.pointer (some ⟨pb, 0, none⟩), kv k0 k1 k2 k3, .int .i64 now] w (TakeE w0 pb pm low n rest (t + 2) S kl ((S kl).exp (clk now))) := by
  have H2 := h.grow ((Below.refl _ _).alloc (Nat.le_refl _) (.cells #[.int .i64 k0, .int .u32 k1, .int .u32 k2, .int .i64 k3] 24))
  have hmm := @run_makeMap Tryd.prog
  have b4 := Lib.hid (box4 w (.int .i64 k0) (.int .u32 k1) (.int .u32 k2) (.int .i64 k3) 24)
  have hh1 := h.hi1
  have hh2 := h.lo1
  have hh3 := h.lo2
  have c3 := H2.head.cell 3
  have c1 := H2.head.cell 1
  unfold kv at *
  simp at c3 c1
  have HK := Lib.hid hk
  have hml := h.mlt
  have hpl := h.head.lt
  clear h hk
  go_enter Tryd.func9, Tryd.ntmps9
  go_wp2_with fail
  go_cut [8, 9] (fun s8 s9 wx => ∃ b : Bool, s9 = .bool b ∧ TookQ B kl b s8 ∧ wx = (w.alloc (.cells #[.int .i64 k0, .int .u32 k1, .int .u32 k2, .int .i64 k3] 24)).drew)
  case first =>
    cases hB : B kl with
    | some p =>
      have lk := Lib.hid (H2.look_yes HK.out hB)
      have HB := Lib.hid hB
      clear H2 hB
      go_wp2_with fail
      go_region_held3 (fun W => W.cell? ⟨pb, 3, none⟩ = some (.map (some pm)) ∧ (Instr.lookup 49 (.map (some pm)) (.agg #[.int .i64 k0, .int .u32 k1, .int .u32 k2, .int .i64 k3]) true).run Tryd.prog W = .ok (.tuple #[.pointer (some ⟨p.xb, 0, none⟩), .bool true]) W ∧ W.cell? ⟨w.heap.size, 0, none⟩ = some (.int .i64 k0) ∧ W.cell? ⟨w.heap.size, 1, none⟩ = some (.int .u32 k1) ∧ W.cell? ⟨w.heap.size, 2, none⟩ = some (.int .u32 k2) ∧ W.cell? ⟨w.heap.size, 3, none⟩ = some (.int .i64 k3)) (first | exact ⟨c3, lk.out _ rfl, b4.out⟩) (first | fail)
      all_goals
        go_wp2_with fail
        go_meet
        case rel => exact ⟨_, rfl, .inr ⟨_, rfl, HB.out, rfl⟩, rfl⟩
    | none =>
      have lk := Lib.hid (H2.look_no HK.out hB)
      have HB := Lib.hid hB
      clear H2 hB
      go_wp2_with fail
      go_region_held3 (fun W => W.cell? ⟨pb, 3, none⟩ = some (.map (some pm)) ∧ (Instr.lookup 49 (.map (some pm)) (.agg #[.int .i64 k0, .int .u32 k1, .int .u32 k2, .int .i64 k3]) true).run Tryd.prog W = .ok (.tuple #[.pointer none, .bool false]) W ∧ W.cell? ⟨w.heap.size, 0, none⟩ = some (.int .i64 k0) ∧ W.cell? ⟨w.heap.size, 1, none⟩ = some (.int .u32 k1) ∧ W.cell? ⟨w.heap.size, 2, none⟩ = some (.int .u32 k2) ∧ W.cell? ⟨w.heap.size, 3, none⟩ = some (.int .i64 k3)) (first | exact ⟨c3, lk.out _ rfl, b4.out⟩) (first | fail)
      all_goals
        go_wp2_with fail
        go_meet
        case rel => exact ⟨_, rfl, .inl ⟨rfl, HB.out, rfl⟩, rfl⟩
  case rest =>
  obtain ⟨b, rfl, hQ, rfl⟩ := hcut
  have HQ := Lib.hid hQ
  clear hQ
  go_upto_if 26 with fail
  go_cut [8] (fun s8 wx => ∃ B' p, s8 = .pointer (some ⟨p.xb, 0, none⟩) ∧ Hid (B' kl = some p ∧ Sys w0 wx pb pm low n rest (t + 1) B' S))
  case first =>
    rcases HQ.out with ⟨rfl, hB, rfl⟩ | ⟨p, rfl, hB, rfl⟩
    · have HB := Lib.hid hB
      clear hB HQ
      have HS := Lib.hid H2
      clear H2
      go_wp2_with fail
      refine (new_x n (by omega) (by omega) _).mono ?_
      rintro e w2 ⟨cb, wb, rfl, C2, hb2, l1, l2⟩
      have hl2 := C2.head.lt
      have hl3 := C2.wlt
      have P := made_part ⟨w2.heap.size + 1 + 1, cb, wb, w2.heap.size, w2.heap.size + 1, (w.alloc (.cells #[.int .i64 k0, .int .u32 k1, .int .u32 k2, .int .i64 k3] 24)).drew.heap.size, w2.heap.size + 1 + 1 + 1⟩ w2 n t C2 rfl rfl rfl l2 l1 rfl
      simp only at P
      have hbA : Below (w.alloc (.cells #[.int .i64 k0, .int .u32 k1, .int .u32 k2, .int .i64 k3] 24)).heap.size (w.alloc (.cells #[.int .i64 k0, .int .u32 k1, .int .u32 k2, .int .i64 k3] 24)) (((w2.alloc (.map #[] 0)).alloc (.map #[] 0)).alloc (.cells #[.pointer (some ⟨cb, 0, none⟩), .map (some w2.heap.size), .map (some (w2.heap.size + 1))] 60)).drew := by
        have hz := hb2.size
        have q : Below (w.alloc (.cells #[.int .i64 k0, .int .u32 k1, .int .u32 k2, .int .i64 k3] 24)).heap.size (w.alloc (.cells #[.int .i64 k0, .int .u32 k1, .int .u32 k2, .int .i64 k3] 24)) w2 := ((Below.refl _ _).drew).trans hb2
        have hz2 := q.size
        exact ((((q.alloc hz2 _).alloc (by simp at hz2 ⊢; omega) _).alloc (by simp at hz2 ⊢; omega) _).drew)
      obtain ⟨w4, hs4, t4, S4⟩ := HS.out.create (by omega) HK.out HB.out hbA P (by exact Nat.le_refl _) (by simp)
      have KA := Lib.hid (fun (W : World) (e1 : W.heap[pb]? = (w.alloc (.cells #[.int .i64 k0, .int .u32 k1, .int .u32 k2, .int .i64 k3] 24)).heap[pb]?) (e2 : W.heap[w.heap.size]? = (w.alloc (.cells #[.int .i64 k0, .int .u32 k1, .int .u32 k2, .int .i64 k3] 24)).heap[w.heap.size]?) => And.intro (Has.cell (e1.trans HS.out.head : Has W pb 51 _) 3) (And.intro (Has.cell (e2.trans (Has.new w _ _) : Has W w.heap.size 24 #[.int .i64 k0, .int .u32 k1, .int .u32 k2, .int .i64 k3]) 0) (And.intro (Has.cell (e2.trans (Has.new w _ _) : Has W w.heap.size 24 #[.int .i64 k0, .int .u32 k1, .int .u32 k2, .int .i64 k3]) 1) (And.intro (Has.cell (e2.trans (Has.new w _ _) : Has W w.heap.size 24 #[.int .i64 k0, .int .u32 k1, .int .u32 k2, .int .i64 k3]) 2) (Has.cell (e2.trans (Has.new w _ _) : Has W w.heap.size 24 #[.int .i64 k0, .int .u32 k1, .int .u32 k2, .int .i64 k3]) 3)))))
      have Z1 := Lib.hid (KA.out _ (hbA.block pb (by simp; omega)) (hbA.block w.heap.size (by simp)))
      have Z2 := Lib.hid (KA.out _ ((turned_block t4 (by have := S4.ne; omega)).trans (hbA.block pb (by simp; omega))) ((turned_block t4 (by omega)).trans (hbA.block w.heap.size (by simp))))
      have FIN : Hid (upd B kl (some ⟨w2.heap.size + 1 + 1, cb, wb, w2.heap.size, w2.heap.size + 1, (w.alloc (.cells #[.int .i64 k0, .int .u32 k1, .int .u32 k2, .int .i64 k3] 24)).drew.heap.size, w2.heap.size + 1 + 1 + 1⟩) kl = some ⟨w2.heap.size + 1 + 1, cb, wb, w2.heap.size, w2.heap.size + 1, (w.alloc (.cells #[.int .i64 k0, .int .u32 k1, .int .u32 k2, .int .i64 k3] 24)).drew.heap.size, w2.heap.size + 1 + 1 + 1⟩ ∧ Sys w0 w4 pb pm low n rest (t + 1) _ S) := And.intro (upd_same _ _ _) S4
      clear P hbA S4 t4
      go_wp2_with fail
      go_region_held3 (fun W => W.cell? ⟨pb, 3, none⟩ = some (.map (some pm)) ∧ W.cell? ⟨w.heap.size, 0, none⟩ = some (.int .i64 k0) ∧ W.cell? ⟨w.heap.size, 1, none⟩ = some (.int .u32 k1) ∧ W.cell? ⟨w.heap.size, 2, none⟩ = some (.int .u32 k2) ∧ W.cell? ⟨w.heap.size, 3, none⟩ = some (.int .i64 k3)) (first | exact Z1.out | exact Z2.out) (first | fail)
      all_goals
        go_wp2_with fail
        go_meet
        case rel => exact ⟨_, _, rfl, FIN.out⟩
    · have FIN := Lib.hid (And.intro hB ((H2.grow (Below.refl _ _).drew).more (show t ≤ t + 1 by omega)))
      clear hB HQ
      go_wp2_with fail
      go_meet
      case rel => exact ⟨_, _, rfl, FIN.out⟩
  case rest =>
  clear HQ H2 c3 c1 b4
  obtain ⟨B', p, rfl, HX⟩ := hcut
  obtain ⟨P, q2, q3, q4, q5⟩ := HX.out.2.part kl p HX.out.1
  have x2 := P.head.cell 2
  simp at x2
  obtain ⟨ng, hng, gG⟩ := P.given
  have RB : Hid ((∀ kl p, B' kl = some p → p.hi ≤ wc.heap.size) ∧ pb < wc.heap.size ∧ pm < wc.heap.size ∧ w0.w.heap.size ≤ wc.heap.size) := ⟨fun kl p hp => (HX.out.2.part kl p hp).2.2.1, HX.out.2.head.lt, HX.out.2.mlt, HX.out.2.bel.size⟩
  have pne := P.ne
  have pi1 := P.i1
  have pi2 := P.i2
  have pi3 := P.i3
  have pi4 := P.i4
  have pi5 := P.i5
  have hcl := clk_le now
  clear P
  go_wp2_with (at_range; go_loud (refine wpList_grn_range _ rfl _ _ rfl keyed3 Tryd.underlying58 rfl gG ?_; intro w2 R hb2 hs2))
  clear gG x2
  obtain ⟨r, hr⟩ : ∃ r, r = wc.heap.size := ⟨_, rfl⟩
  rw [← hr] at R RB ⊢
  have hpr : p.hi ≤ r := RB.out.1 kl p HX.out.1
  have HR := Lib.hid hr
  clear hr
  go_frame
  go_loopw [12] (fun _ wr => ∃ A' L cnt, GRangeN Tryd.prog wr 3 p.gm r ng (givenM A'.G) L cnt ∧ Sys w0 wr pb pm low n rest (t + 1) B' (upd S kl A') ∧ Hid (Mid (S kl) A' L (clk now) ∧ ∀ kl, L kl = true → (givenM A'.G kl).isSome = true)) (fun _ wr => wr.rangeLeft p.gm r)
  case atStart =>
    refine ⟨S kl, _, _, R, by rw [upd_self]; exact HX.out.2.grow hb2, ⟨rfl, rfl, fun x => ⟨fun _ => rfl, fun hx => ?_⟩⟩, fun _ h => h⟩
    unfold givenM at hx
    cases hg : (S kl).G x with
    | none => rfl
    | some u => simp [hg] at hx
  case round =>
    clear R
    obtain ⟨A', L, cn, R2, S2, HM⟩ := hrel
    obtain ⟨P2, _⟩ := S2.part kl p HX.out.1
    rw [upd_same] at P2
    have P2H := Lib.hid P2
    clear P2
    go_wp2_with (at_next; go_loud (refine wpList_grn_next (α := Int) (β := Int) _ rfl _ rfl keyed3 (Value.int .i64) (Value.int .i64) (fun key kl hk => by obtain ⟨x, h, _⟩ := Maps.keyOf_int_inv Tryd.underlying3 hk; exact ⟨x, h⟩) rfl R2 given_val HM.out.2 ?_ ?_))
    · intro hdone
      obtain rfl := HM.out.1.done hdone
      have x0 := P2H.out.head.cell 0
      have x1 := P2H.out.head.cell 1
      have d0 := S2.head.cell 0
      simp at x0 x1 d0
      clear R2
      go_wp2_with fail
      refine (V2.take_c p.cb p.wb n _ _ wr S2.tab P2H.out.cur).mono ?_
      rintro e w3 (⟨ha, rfl, C3, O3⟩ | ⟨k, hkn, rfl, C3, O3⟩)
      · have FIN : Hid (Sys w0 w3 pb pm low n rest (t + 2) B' (upd S kl ((S kl).exp (clk now)))) := by
          have := S2.turn HX.out.1 (Chg.only O3 pi2 pi3) (show t + 1 ≤ t + 2 by omega) (A := (S kl).exp (clk now)) ?_
          · rwa [upd_upd] at this
          · obtain ⟨m1, l1, g1⟩ := P2H.out.lent
            obtain ⟨m2, l2, g2⟩ := P2H.out.given
            exact ⟨(O3.2.2 _ pne.1 pne.2.1).trans P2H.out.head, C3, ⟨m1, by omega, g1.of_block (O3.2.2 _ (Ne.symm pne.2.2.2.2.1) (Ne.symm pne.2.2.2.2.2.2.1))⟩, ⟨m2, by omega, g2.of_block (O3.2.2 _ (Ne.symm pne.2.2.2.2.2.1) (Ne.symm pne.2.2.2.2.2.2.2.1))⟩, P2H.out.apart, P2H.out.bound, pi1, pi2, pi3, pi4, pi5, pne⟩
        have HA := Lib.hid ha
        clear ha C3 O3 S2
        go_wp2
        go_ret2
        exact .inl ⟨_, HA.out, rfl, FIN.out⟩
      · obtain ⟨m1, l1, g1⟩ := P2H.out.lent
        obtain ⟨m2, l2, g2⟩ := P2H.out.given
        have hk1 := hkn.1
        obtain ⟨w7, hs7, t7, m3, l3, g3⟩ := PartOK.putLent (p := p) (g1.of_block (O3.2.2 _ (Ne.symm pne.2.2.2.2.1) (Ne.symm pne.2.2.2.2.2.2.1))) (by omega) (x := k) (by omega)
        have FIN : Hid (Sys w0 w7 pb pm low n rest (t + 2) B' (upd S kl (((S kl).exp (clk now)).take n k))) := by
          have := S2.turn HX.out.1 ((Chg.only O3 pi2 pi3).trans (Chg.turned t7 pi4)) (show t + 1 ≤ t + 2 by omega) (A := ((S kl).exp (clk now)).take n k) ?_
          · rwa [upd_upd] at this
          · refine ⟨(turned_block t7 pne.2.2.1).trans ((O3.2.2 _ pne.1 pne.2.1).trans P2H.out.head), (C3.of_blocks (turned_block t7 pne.2.2.2.2.1) (turned_block t7 pne.2.2.2.2.2.2.1)).congr rfl fun y => ?_, ⟨m3, by omega, g3⟩, ⟨m2, by omega, g2.of_block ((turned_block t7 (Ne.symm pne.2.2.2.2.2.2.2.2)).trans (O3.2.2 _ (Ne.symm pne.2.2.2.2.2.1) (Ne.symm pne.2.2.2.2.2.2.2.1)))⟩, fun y hy => ?_, P2H.out.bound, pi1, pi2, pi3, pi4, pi5, pne⟩
            · unfold PA.take PA.U setU
              by_cases e : y = k <;> simp [e]
            · have hu := hkn.2.1
              unfold PA.take setU at hy
              by_cases e : y = k
              · subst e
                unfold PA.U at hu
                simp at hu
                exact hu.2
              · simp [e] at hy
                exact P2H.out.apart y hy
        have x1b : w3.cell? ⟨p.xb, 1, none⟩ = _ := Has.cell ((O3.2.2 _ pne.1 pne.2.1).trans P2H.out.head : Has w3 p.xb 60 _) 1
        have d0b : w7.cell? ⟨pb, 0, none⟩ = _ := Has.cell ((turned_block t7 (by omega)).trans ((O3.2.2 _ (by omega) (by omega)).trans S2.head) : Has w7 pb 51 _) 0
        simp at x1b d0b
        have HKN := Lib.hid hkn
        clear hkn g1 g2 g3 t7 C3 O3 S2
        go_wp2
        go_ret2
        exact .inr ⟨_, k, HKN.out, rfl, FIN.out⟩
    · intro x cv kl' w3 cnt' hk' hlk hM2 R3 hlt hbB hs3 hek hen
      obtain ⟨jx, ux, ex, ec, hpk⟩ := given_inv hk' hM2
      subst ex ec
      obtain ⟨rfl, hGj⟩ := hpk.out
      have S3 := S2.iter RB.out.1 RB.out.2.1 RB.out.2.2.1 RB.out.2.2.2 hbB hek hs3
      have P3 := (S3.part kl p HX.out.1).1
      rw [upd_same] at P3
      have x0 := P3.head.cell 0
      have x2 := P3.head.cell 2
      simp at x0 x2
      have hub := P3.bound jx ux hGj
      by_cases hc : ux ≤ clk now
      · have hci : (ux : Int) ≤ (clk now : Int) := by omega
        go_wp2_with fail
        refine (clock_c now _).mono ?_
        rintro e w' ⟨rfl, rfl⟩
        go_wp2_with (at_delete; go_loud (refine wpList_grn_delete _ rfl _ _ _ rfl keyed3 Tryd.underlying58 rfl R3 _ _ rfl hk' ?_))
        intro w4 cnt4 R4 hle4 t4
        have x0b : w4.cell? ⟨p.xb, 0, none⟩ = _ := Has.cell ((turned_block t4 pne.2.2.2.1).trans P3.head : Has w4 p.xb 60 _) 0
        simp at x0b
        have hU : A'.U jx = true := by unfold PA.U; rw [hGj]; simp
        have hjn := P3.cur.top jx hU
        have R4H := Lib.hid R4
        have P3H := Lib.hid P3
        clear R4 P3
        go_wp2_with fail
        refine (V2.free_yes p.cb p.wb n A'.at1 A'.U jx w4 (P3H.out.cur.of_blocks (turned_block t4 pne.2.2.2.2.2.1) (turned_block t4 pne.2.2.2.2.2.2.2.1)) hjn hU).mono ?_
        rintro e w5 ⟨rfl, C5, O5⟩
        have S5 : Hid (Sys w0 w5 pb pm low n rest (t + 1) B' (upd S kl ⟨A'.at1, A'.L, setG A'.G jx none⟩)) := by
          have := S3.turn HX.out.1 ((Chg.turned t4 pi5).trans (Chg.only O5 pi2 pi3)) (Nat.le_refl _) (A := ⟨A'.at1, A'.L, setG A'.G jx none⟩) ?_
          · rwa [upd_upd] at this
          · obtain ⟨m1, l1, g1⟩ := P3H.out.lent
            obtain ⟨m2, l2, g2⟩ := R4H.out.map
            refine ⟨(O5.2.2 _ pne.1 pne.2.1).trans ((turned_block t4 pne.2.2.2.1).trans P3H.out.head), C5.congr rfl fun y => ?_, ⟨m1, by omega, g1.of_block ((O5.2.2 _ (Ne.symm pne.2.2.2.2.1) (Ne.symm pne.2.2.2.2.2.2.1)).trans (turned_block t4 pne.2.2.2.2.2.2.2.2))⟩, ⟨m2, by omega, (g2.of_block (O5.2.2 _ (Ne.symm pne.2.2.2.2.2.1) (Ne.symm pne.2.2.2.2.2.2.2.1))).congr (givenM_set A'.G jx none none rfl)⟩, fun y hy => ?_, fun y u hu => ?_, pi1, pi2, pi3, pi4, pi5, pne⟩
            · unfold PA.U setU setG
              by_cases e : y = jx
              · subst e
                have : A'.L y = false := by
                  cases hl : A'.L y with
                  | false => rfl
                  | true => have := P3H.out.apart y hl; rw [hGj] at this; cases this
                simp [this]
              · simp [e]
            · have := P3H.out.apart y hy
              show setG A'.G jx none y = none
              unfold setG
              split
              · rfl
              · exact this
            · have hu : setG A'.G jx none y = some u := hu
              unfold setG at hu
              by_cases e : y = jx
              · simp [e] at hu
              · simp [e] at hu; exact P3H.out.bound y u hu
        have R5 := Lib.hid ((R4H.out.of_blocks (O5.2.2 _ (Ne.symm pne.2.2.2.2.2.1) (Ne.symm pne.2.2.2.2.2.2.2.1)) (O5.2.2 r (by omega) (by omega))).congr (givenM_set A'.G jx none none rfl))
        clear C5 O5 t4 S3
        go_wp2
        go_roundw
        case rel => exact ⟨_, _, _, R5.out, S5.out, HM.out.1.drop hGj hlk hc, has_drop HM.out.2⟩
        case measure => rw [R5.out.left_eq, R2.left_eq]; omega
      · have hci : ¬ (ux : Int) ≤ (clk now : Int) := by omega
        go_wp2_with fail
        refine (clock_c now _).mono ?_
        rintro e w' ⟨rfl, rfl⟩
        go_wp2_with fail
        go_roundw
        case rel => exact ⟨_, _, _, R3, S3, HM.out.1.keep hGj hlk hc, fun kl h => HM.out.2 kl (by simp at h; exact h.1)⟩
        case measure => rw [R3.left_eq, R2.left_eq]; exact hlt
end
end Go.Proofs.YthkadlmdjgdliaaDoor
