/- The document's ports: the walks of Give and Take. -/
import Derived.Test.YthkadlmdjgdliaaDoorRC
namespace Go.Proofs.YthkadlmdjgdliaaDoor
open Go.RowKit
set_option linter.unusedSimpArgs false
set_option linter.unusedVariables false
open V2 (Only)

theorem updK_updK {α : Type} (f : K4 → α) (k : K4) (a b : α) : updK (updK f k a) k b = updK f k b := by
  funext x
  by_cases e : x = k
  · subst e; rw [updK_same, updK_same]
  · rw [updK_other _ _ e, updK_other _ _ e, updK_other _ _ e]
theorem updK_self {α : Type} (f : K4 → α) (k : K4) : updK f k (f k) = f := by
  funext x
  by_cases e : x = k
  · subst e; rw [updK_same]
  · rw [updK_other _ _ e]
def PA.expTo (A : PA) (c j : Nat) : PA := ⟨A.at1, A.L, fun x => if x < j then expG c (A.G x) else A.G x⟩
theorem expTo_zero (A : PA) (c : Nat) : A.expTo c 0 = A := by cases A; simp [PA.expTo]
theorem expTo_all {A : PA} {n : Nat} (c : Nat) (h : ∀ x, A.U x = true → x < n) : A.expTo c n = A.exp c := by
  unfold PA.expTo PA.exp
  congr 1
  funext x
  by_cases hx : x < n
  · simp [hx]
  · have : A.G x = none := by
      cases hb : A.G x with
      | none => rfl
      | some v => exact absurd (h x (by unfold PA.U; rw [hb]; simp)) hx
    simp [hx, this, expG]
theorem expTo_same {A : PA} {c j : Nat} (h : expG c (A.G j) = A.G j) : A.expTo c (j + 1) = A.expTo c j := by
  unfold PA.expTo
  congr 1
  funext x
  by_cases hx : x < j
  · simp [hx, Nat.lt_succ_of_lt hx]
  · by_cases e : x = j
    · subst e; simp [h]
    · simp [hx, show ¬ x < j + 1 by omega]
theorem expTo_at (A : PA) (c j : Nat) : (A.expTo c j).G j = A.G j := by simp [PA.expTo]
theorem expTo_G {A : PA} {c j : Nat} (h : expG c (A.G j) = none) : (A.expTo c (j + 1)).G = setG (A.expTo c j).G j none := by
  funext x
  unfold PA.expTo setG
  by_cases e : x = j
  · subst e; simp [h]
  · by_cases hx : x < j
    · simp [hx, e, show x < j + 1 by omega]
    · simp [hx, e, show ¬ x < j + 1 by omega]
theorem RPart.put {w w2 : World} {p : RB} {k : K4} {n j : Nat} {A A2 : PA} {v : Int} (h : RPart w p k n A) (e1 : w2.heap[p.xb]? = w.heap[p.xb]?) (e2 : w2.heap[p.nb]? = w.heap[p.nb]?) (e3 : w2.heap[p.sb]? = (w.setCell ⟨p.sb, j, none⟩ (.int .i64 v)).heap[p.sb]?) (hc : Rc w2 p.cb p.ub n A2.at1 A2.U) (h1 : ∀ x, x < n → code A2 x = if x = j then v else code A x) (h2 : ∀ x u, A2.G x = some u → A.G x = some u) (h3 : ∀ x, A2.L x = true → A2.G x = none) : RPart w2 p k n A2 := by
  obtain ⟨f, f1, f2⟩ := h.st
  obtain ⟨g, g1, g2⟩ := h.un
  refine ⟨e1.trans h.head, hc, ⟨setF f j v, ?_, fun i hi => ?_⟩, ⟨g, e2.trans g1, fun i hi u hu => g2 i hi u (h2 i u hu)⟩, h3, h.i1, h.i2, h.i3, h.i4, h.i5, h.ne⟩
  · rw [← intsA_set]
    exact e3.trans (f1.set j _)
  · rw [h1 i hi]
    unfold setF
    split
    · rfl
    · exact f2 i hi
theorem RPart.give {w w2 : World} {p : RB} {k : K4} {n x u : Nat} {A : PA} (h : RPart w p k n A) (hx : A.L x = true) (e1 : w2.heap[p.xb]? = w.heap[p.xb]?) (e2 : w2.heap[p.nb]? = (w.setCell ⟨p.nb, x, none⟩ (.int .i64 (u : Int))).heap[p.nb]?) (e3 : w2.heap[p.sb]? = (w.setCell ⟨p.sb, x, none⟩ (.int .i64 2)).heap[p.sb]?) (e4 : w2.heap[p.cb]? = w.heap[p.cb]?) (e5 : w2.heap[p.ub]? = w.heap[p.ub]?) : RPart w2 p k n (A.give x u) := by
  obtain ⟨f, f1, f2⟩ := h.st
  obtain ⟨g, g1, g2⟩ := h.un
  have hU : (A.give x u).U = A.U := by
    funext y
    unfold PA.U PA.give setU setG
    by_cases e : y = x
    · subst e; simp [hx]
    · simp [e]
  refine ⟨e1.trans h.head, ?_, ⟨setF f x 2, ?_, fun i hi => ?_⟩, ⟨setF g x u, ?_, fun i hi v hv => ?_⟩, fun y hy => ?_, h.i1, h.i2, h.i3, h.i4, h.i5, h.ne⟩
  · rw [hU]; exact h.cur.of_blocks e4 e5
  · rw [← intsA_set]
    exact e3.trans (f1.set x _)
  · unfold setF code PA.give setU setG
    by_cases e : i = x
    · subst e; simp
    · simp [e]; exact f2 i hi
  · rw [← intsA_set]
    exact e2.trans (g1.set x _)
  · have hv : setG A.G x (some u) i = some v := hv
    unfold setG at hv
    unfold setF
    by_cases e : i = x
    · simp [e] at hv ⊢; exact congrArg _ hv
    · simp [e] at hv ⊢; exact g2 i hi v hv
  · have hy : setU A.L x false y = true := hy
    show setG A.G x (some u) y = none
    unfold setU at hy
    unfold setG
    by_cases e : y = x
    · simp [e] at hy
    · simp [e] at hy ⊢; exact h.apart y hy
section
variable {w0 : Base} {w w' : World} {rb low n rest t : Nat} {S : K4 → PA} {k : K4} {p : RB}
theorem RP.box (h : RP w0 w rb low n rest t S) (o : Obj) : RP ⟨w.alloc o, fun b => w0.Z b ∨ b = w.heap.size⟩ (w.alloc o) rb low n rest t S := by
  obtain ⟨L, B, h, ht⟩ := h
  refine ⟨L, B, h.foreign rfl (fun b hb _ => Below.heap_alloc _ _ _ hb) (by simp) (fun b hb => ?_) (fun b hb hz => ?_), ht⟩
  · rcases hb with q | q
    · have := h.zlt b q; have := h.bel.size; simp; omega
    · simp; omega
  · rcases hz with q | q
    · exact q
    · omega
theorem RP.back {w1 : Base} (h : RP w1 w' rb low n rest t S) (hk : Keeps w0 w1.w) (hz : ∀ b, w0.Z b → w1.Z b) (zlt : ∀ b, w0.Z b → b < w0.w.heap.size) : RP w0 w' rb low n rest t S := by
  obtain ⟨L, B, h, ht⟩ := h
  obtain ⟨v, h1, h2, h3⟩ := h.head
  refine ⟨L, B, ⟨⟨v, h1, h2, fun b hb => ⟨fun q => (h3 b hb).1 (hz b q), (h3 b hb).2⟩⟩, fun k hk => ?_, h.new, h.disj, ⟨h.bel.os.trans hk.os, h.bel.tape.trans hk.tape, h.bel.output.trans hk.output, Nat.le_trans hk.size h.bel.size, fun b q => (h.bel.block b (hz b q)).trans (hk.block b q)⟩, zlt, fun q => h.b1 (hz _ q), h.lo1, h.lo2, h.hi1, h.hi2⟩, ht⟩
  obtain ⟨q1, q2, q3⟩ := h.part k hk
  exact ⟨q1, fun b b1 b2 q => q2 b b1 b2 (hz b q), q3⟩
theorem RP.zlt (h : RP w0 w rb low n rest t S) : ∀ b, w0.Z b → b < w0.w.heap.size := by obtain ⟨L, B, h, _⟩ := h; exact h.zlt
theorem rgive_no (k0 k1 k2 k3 : Int) (port now : Int) (hp1 : -9223372036854775808 ≤ port) (hp2 : port ≤ 9223372036854775807) (h : RP w0 w rb low n rest t S) (ht : t < 60000) (htop : ∀ x, (S (k0, k1, k2, k3)).U x = true → x < n) (hl : lentB low (S (k0, k1, k2, k3)) port = false) :
    Calls Tryd.prog 13 #[.pointer (some ⟨rb, 0, none⟩), kv k0 k1 k2 k3, .int .i64 port, .int .i64 now] w fun e w' => e = .returned (.bool false) ∧ RP w0 w' rb low n rest (t + 1) S := by
  have H2 := h.grow ((Below.refl _ _).alloc (Nat.le_refl _) (.cells #[.int .i64 k0, .int .u32 k1, .int .u32 k2, .int .i64 k3] 40))
  have HL := Lib.hid (rlent k0 k1 k2 k3 port hp1 hp2 H2 ht htop)
  rw [hl] at HL
  unfold kv at *
  clear h hl H2
  go_enter Tryd.func13, Tryd.ntmps13
  go_wp2_with fail
  refine (HL.out).mono ?_
  rintro e w1 ⟨rfl, hb⟩
  go_wp2
  go_ret
  exact ⟨rfl, hb⟩
set_option maxRecDepth 100000 in
set_option maxHeartbeats 1600000 in
theorem rgive_yes (k0 k1 k2 k3 : Int) (x : Nat) (now : Int) (h : RP w0 w rb low n rest t S) (ht : t < 50000) (htop : ∀ x, (S (k0, k1, k2, k3)).U x = true → x < n) (hl : (S (k0, k1, k2, k3)).L x = true) :
    Calls Tryd.prog 13 #[.pointer (some ⟨rb, 0, none⟩), kv k0 k1 k2 k3, .int .i64 ((low : Int) + x), .int .i64 now] w fun e w' => e = .returned (.bool true) ∧ RP w0 w' rb low n rest (t + 2) (updK S (k0, k1, k2, k3) ((S (k0, k1, k2, k3)).give x (clk now + rest))) := by
  have hxn : x < n := htop x (by simp [PA.U, hl])
  obtain ⟨n1, n2, n3, n4⟩ := h.bounds
  have H2 := h.box (.cells #[.int .i64 k0, .int .u32 k1, .int .u32 k2, .int .i64 k3] 40)
  have HLa := rlent k0 k1 k2 k3 ((low : Int) + x) (by omega) (by omega) H2 (by omega) htop
  rw [show lentB low (S (k0, k1, k2, k3)) ((low : Int) + x) = true from by unfold lentB; simp [show ((low : Int) + x - low).toNat = x by omega, hl]; omega] at HLa
  have HL := Lib.hid HLa
  clear HLa
  have HLX := Lib.hid hl
  have b4 := Lib.hid (box4 w (.int .i64 k0) (.int .u32 k1) (.int .u32 k2) (.int .i64 k3) 40)
  have HB := Lib.hid (Has.new w #[.int .i64 k0, .int .u32 k1, .int .u32 k2, .int .i64 k3] 40)
  unfold kv at *
  have hcl := clk_le now
  clear hl H2 htop
  go_enter Tryd.func13, Tryd.ntmps13
  go_wp2_with fail
  refine (HL.out).mono ?_
  rintro e w1 ⟨rfl, R1⟩
  have KZ := Lib.hid (show Keeps w0 (w.alloc (.cells #[.int .i64 k0, .int .u32 k1, .int .u32 k2, .int .i64 k3] 40)) from (h.grow ((Below.refl _ _).alloc (Nat.le_refl _) _)).keeps)
  have HZ := Lib.hid h.zlt
  have B1 : Has w1 w.heap.size 40 #[.int .i64 k0, .int .u32 k1, .int .u32 k2, .int .i64 k3] := (R1.keeps.block w.heap.size (.inr rfl)).trans HB.out
  have b0 := B1.cell 0
  have b1 := B1.cell 1
  have b2 := B1.cell 2
  have b3 := B1.cell 3
  simp at b0 b1 b2 b3
  clear h HB HL b4
  go_wp2_with fail
  refine (rpart k0 k1 k2 k3 R1 (by omega)).mono ?_
  rintro e w2 ⟨p, rfl, Q⟩
  clear R1 b0 b1 b2 b3 B1
  obtain ⟨d5, ds, fs⟩ := Q.st hxn
  obtain ⟨d6, ⟨u, du, hu⟩, fu⟩ := Q.un hxn
  obtain ⟨c0, c1, c2⟩ := Q.rp.cells
  have hw1 : IntKind.i64.wrap ((low : Int) + x - low) = x := by rw [show (low : Int) + x - low = x by omega]; exact IntWalk.i64_in _ (by omega)
  have hw2 : IntKind.i64.wrap ((clk now : Int) + rest) = (clk now : Int) + rest := IntWalk.i64_in _ (by omega)
  have HQ := Lib.hid Q
  have ne := Q.part.ne
  have hrb : rb ≠ p.sb ∧ rb ≠ p.nb := by
    obtain ⟨L, B, hs, _, hk, rfl⟩ := Q
    have q := (hs.part _ hk).2.2.2
    have i4 := (hs.part _ hk).1.i4
    have i5 := (hs.part _ hk).1.i5
    constructor <;> omega
  have lrb := Q.rp.lt
  have KA : Hid (∀ W : World, W.heap[rb]? = w2.heap[rb]? → W.heap[p.xb]? = w2.heap[p.xb]? → W.cell? ⟨rb, 0, none⟩ = some (.int .i64 low) ∧ W.cell? ⟨rb, 2, none⟩ = some (.int .i64 rest) ∧ W.cell? ⟨p.xb, 6, none⟩ = some (.slice (some ⟨p.nb, 0, none⟩) n n)) := fun W e1 e2 => by
    obtain ⟨c0, c1, c2⟩ := Q.rp.cells
    exact ⟨(World.cell?_of_block (w := w2) (a := ⟨rb, 0, none⟩) e1).trans c0, (World.cell?_of_block (w := w2) (a := ⟨rb, 2, none⟩) e1).trans c2, (World.cell?_of_block (w := w2) (a := ⟨p.xb, 6, none⟩) e2).trans d6⟩
  have E3 : Hid (∀ v v2, ((w2.setCell ⟨p.sb, x, none⟩ v).setCell ⟨p.nb, x, none⟩ v2).heap[rb]? = w2.heap[rb]?) := fun v v2 => (Below.heap_setCell _ ⟨p.nb, x, none⟩ _ rb hrb.2).trans (Below.heap_setCell _ ⟨p.sb, x, none⟩ _ rb hrb.1)
  have E4 : Hid (∀ v v2, ((w2.setCell ⟨p.sb, x, none⟩ v).setCell ⟨p.nb, x, none⟩ v2).heap[p.xb]? = w2.heap[p.xb]?) := fun v v2 => (Below.heap_setCell _ ⟨p.nb, x, none⟩ _ p.xb ne.2.2.2.1).trans (Below.heap_setCell _ ⟨p.sb, x, none⟩ _ p.xb ne.2.2.1)
  have E1 := Lib.hid (KA.out (w2.setCell ⟨p.sb, x, none⟩ (.int .i64 2)) (Below.heap_setCell _ ⟨p.sb, x, none⟩ _ rb hrb.1) (Below.heap_setCell _ ⟨p.sb, x, none⟩ _ p.xb ne.2.2.1))
  have E5 := Lib.hid ((World.cell?_of_block (w := w2) (w' := w2.setCell ⟨p.sb, x, none⟩ (.int .i64 2)) (a := ⟨p.nb, x, none⟩) (Below.heap_setCell _ ⟨p.sb, x, none⟩ _ p.nb (Ne.symm ne.2.2.2.2.2.2.2.2))).trans du)
  have E6 := Lib.hid ((World.frozen?_of_block (w := w2) (w' := w2.setCell ⟨p.sb, x, none⟩ (.int .i64 2)) (a := ⟨p.nb, x, none⟩) (Below.heap_setCell _ ⟨p.sb, x, none⟩ _ p.nb (Ne.symm ne.2.2.2.2.2.2.2.2))).trans fu)
  have FIN : Hid (RP w0 ((w2.setCell ⟨p.sb, x, none⟩ (.int .i64 2)).setCell ⟨p.nb, x, none⟩ (.int .i64 ((clk now : Int) + rest))) rb low n rest (t + 1 + 1) (updK S (k0, k1, k2, k3) ((S (k0, k1, k2, k3)).give x (clk now + rest)))) := by
    refine ((Q.turn ?_ (Q.part.give (w2 := (w2.setCell ⟨p.sb, x, none⟩ (.int .i64 2)).setCell ⟨p.nb, x, none⟩ (.int .i64 ((clk now : Int) + rest))) HLX.out (E4.out _ _) ?_ ?_ ?_ ?_)).rp).back KZ.out (fun b hb => .inl hb) HZ.out
    · exact ((Chg.refl _ _).set Q.part.i4 _ _).set Q.part.i5 _ _
    · have l5 : Has w2 p.nb 3 _ := (Q.part.un).choose_spec.1
      have a := (l5.setOther (c := p.sb) x (Ne.symm ne.2.2.2.2.2.2.2.2) (.int .i64 2)).set x (.int .i64 ((clk now : Int) + rest))
      have b := l5.set x (.int .i64 ((clk now : Int) + rest))
      have e : (((clk now + rest : Nat)) : Int) = (clk now : Int) + rest := by omega
      rw [e]
      exact a.trans b.symm
    · exact Below.heap_setCell _ ⟨p.nb, x, none⟩ _ p.sb ne.2.2.2.2.2.2.2.2
    · exact (Below.heap_setCell _ ⟨p.nb, x, none⟩ _ p.cb ne.2.2.2.2.2.1).trans (Below.heap_setCell _ ⟨p.sb, x, none⟩ _ p.cb ne.2.2.2.2.1)
    · exact (Below.heap_setCell _ ⟨p.nb, x, none⟩ _ p.ub ne.2.2.2.2.2.2.2.1).trans (Below.heap_setCell _ ⟨p.sb, x, none⟩ _ p.ub ne.2.2.2.2.2.2.1)
  clear Q hu
  go_wp2_with fail
  go_region
  clear c0 c1 c2 ds fs d5 d6 du fu
  have du : ((w2.setCell ⟨p.sb, x, none⟩ (.int .i64 2)).drew).cell? ⟨p.nb, x, none⟩ = _ := E5.out
  have fu : ((w2.setCell ⟨p.sb, x, none⟩ (.int .i64 2)).drew).frozen? ⟨p.nb, x, none⟩ = false := E6.out
  obtain ⟨w3, hw3⟩ : ∃ w3, w3 = (w2.setCell ⟨p.sb, x, none⟩ (.int .i64 2)).drew := ⟨_, rfl⟩
  have K3 : Hid (w3.cell? ⟨rb, 0, none⟩ = some (.int .i64 low) ∧ w3.cell? ⟨rb, 2, none⟩ = some (.int .i64 rest) ∧ w3.cell? ⟨p.xb, 6, none⟩ = some (.slice (some ⟨p.nb, 0, none⟩) n n)) := by rw [hw3]; exact E1.out
  have K4' : Hid (∀ v2, (w3.setCell ⟨p.nb, x, none⟩ v2).cell? ⟨rb, 0, none⟩ = some (.int .i64 low) ∧ (w3.setCell ⟨p.nb, x, none⟩ v2).cell? ⟨rb, 2, none⟩ = some (.int .i64 rest) ∧ (w3.setCell ⟨p.nb, x, none⟩ v2).cell? ⟨p.xb, 6, none⟩ = some (.slice (some ⟨p.nb, 0, none⟩) n n)) := fun v2 => by
    rw [hw3]; exact KA.out _ (E3.out _ _) (E4.out _ _)
  have FIN3 : Hid (RP w0 (w3.setCell ⟨p.nb, x, none⟩ (.int .i64 ((clk now : Int) + rest))) rb low n rest (t + 1 + 1) (updK S (k0, k1, k2, k3) ((S (k0, k1, k2, k3)).give x (clk now + rest)))) := by
    have := FIN.out.grow (Below.refl _ _).drew
    rw [hw3]; exact this
  rw [← hw3] at du fu ⊢
  clear hw3 E1 E5 E6 KA E3 E4 FIN
  go_wp2_with fail
  go_region_held3 (fun W => W.cell? ⟨rb, 0, none⟩ = some (.int .i64 low) ∧ W.cell? ⟨rb, 2, none⟩ = some (.int .i64 rest) ∧ W.cell? ⟨p.xb, 6, none⟩ = some (.slice (some ⟨p.nb, 0, none⟩) n n)) (first | exact K3.out | exact K4'.out _) (first | (go_at_call 23; refine (rclock_c now _).mono ?_; rintro e w' ⟨rfl, rfl⟩))
  all_goals
    go_wp2
    go_ret
    exact ⟨rfl, FIN3.out.grow (Below.refl _ _).drew⟩
end
end Go.Proofs.YthkadlmdjgdliaaDoor
