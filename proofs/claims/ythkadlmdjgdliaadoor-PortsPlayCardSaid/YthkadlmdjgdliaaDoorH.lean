/- The walks of Give and New. -/
import Derived.Test.YthkadlmdjgdliaaDoorG
namespace Go.Proofs.YthkadlmdjgdliaaDoor
open Go.RowKit
set_option linter.unusedSimpArgs false
set_option linter.unusedVariables false
open V2 (Only)

def setG (G : Nat → Option Nat) (x : Nat) (v : Option Nat) : Nat → Option Nat := fun y => if y = x then v else G y
def PA.give (A : PA) (x u : Nat) : PA := ⟨A.at1, setU A.L x false, setG A.G x (some u)⟩
theorem lentM_set (L : Nat → Bool) (x : Nat) (b : Bool) (v : Option Value) (hv : v = if b then some (.agg #[]) else none) (kl : Lit) : putM (lentM L) (.int .i64 x) v kl = lentM (setU L x b) kl := by
  by_cases e : kl = .int .i64 x
  · subst e
    rw [putM_same, hv]
    unfold lentM setU
    cases b <;> simp
  · rw [putM_other _ _ e]
    unfold lentM
    cases kl with
    | int k y =>
      cases k <;> simp
      by_cases h0 : 0 ≤ y
      · have : y.toNat ≠ x := fun q => e (by rw [← q]; congr 1; omega)
        simp [setU, this]
      · simp [h0]
    | _ => rfl
theorem givenM_set (G : Nat → Option Nat) (x : Nat) (u : Option Nat) (v : Option Value) (hv : v = u.map fun (y : Nat) => .int .i64 (y : Int)) (kl : Lit) : putM (givenM G) (.int .i64 x) v kl = givenM (setG G x u) kl := by
  by_cases e : kl = .int .i64 x
  · subst e
    rw [putM_same, hv]
    unfold givenM setG
    simp
  · rw [putM_other _ _ e]
    unfold givenM
    cases kl with
    | int k y =>
      cases k <;> simp
      by_cases h0 : 0 ≤ y
      · have : y.toNat ≠ x := fun q => e (by rw [← q]; congr 1; omega)
        simp [setG, this]
      · simp [h0]
    | _ => rfl
section
variable {w0 : Base} {w w' : World} {pb pm low n rest t : Nat} {B : Lit → Option PB} {S : Lit → PA}
/-- A number that was lent is struck from the lent ones and set among the given ones. -/
theorem PartOK.dropLent {p : PB} {A : PA} (h : PartOK w p n t A) {x : Nat} (hx : x < 65536) (ty : TypeId) :
    ∃ w', (Builtin.delete_ #[57, 3] ty #[.map (some p.lm), .int .i64 x]).run Tryd.prog w = .ok (.tuple #[]) w' ∧ w.mapTurned w' p.lm ∧ ∃ nm, nm ≤ t ∧ GMap Tryd.prog w' 3 p.lm nm (lentM (setU A.L x false)) := by
  obtain ⟨nm, hn, g⟩ := h.lent
  obtain ⟨w', hrun, g', ht⟩ := g.drop keyed3 Tryd.underlying57 (key := .int .i64 x) (kl := .int .i64 x) (Maps.keyOf_int_mk Tryd.underlying3 (wf_nat x hx)) ty
  exact ⟨w', hrun, ht, _, by split <;> omega, g'.congr (lentM_set A.L x false none rfl)⟩
theorem PartOK.putGiven {p : PB} {G : Nat → Option Nat} {nm : Nat} (g : GMap Tryd.prog w 3 p.gm nm (givenM G)) (hn : nm < 65536) {x : Nat} (hx : x < 65536) (u : Nat) :
    ∃ w', (Instr.mapUpdate 58 (.map (some p.gm)) (.int .i64 x) (.int .i64 (u : Int))).run Tryd.prog w = .ok () w' ∧ w.mapTurned w' p.gm ∧ ∃ nm', nm' ≤ nm + 1 ∧ GMap Tryd.prog w' 3 p.gm nm' (givenM (setG G x (some u))) := by
  obtain ⟨w', hrun, g', ht⟩ := g.store keyed3 Tryd.underlying58 (by unfold maxLen; omega) (key := .int .i64 x) (kl := .int .i64 x) (val := .int .i64 (u : Int)) trivial (Maps.keyOf_int_mk Tryd.underlying3 (wf_nat x hx))
  exact ⟨w', hrun, ht, _, by split <;> omega, g'.congr (givenM_set G x (some u) _ rfl)⟩
set_option maxRecDepth 100000 in
set_option maxHeartbeats 1600000 in
theorem give_no (k0 k1 k2 k3 : Int) {kl : Lit} (hk : keyOf Tryd.prog 24 (kv k0 k1 k2 k3) = some kl) (port now : Int) (hp1 : -9223372036854775808 ≤ port) (hp2 : port ≤ 9223372036854775807) (h : Sys w0 w pb pm low n rest t B S) (hl : lentB low (S kl) port = false) :
    Calls Tryd.prog 10 #[.pointer (some ⟨pb, 0, none⟩), kv k0 k1 k2 k3, .int .i64 port, .int .i64 now] w fun e w' => e = .returned (.bool false) ∧ Below w.heap.size w w' := by
  have H2 := h.grow ((Below.refl _ _).alloc (Nat.le_refl _) (.cells #[.int .i64 k0, .int .u32 k1, .int .u32 k2, .int .i64 k3] 24))
  have HL := Lib.hid (lent_s k0 k1 k2 k3 hk port hp1 hp2 H2)
  rw [hl] at HL
  unfold kv at *
  clear h hl H2
  go_enter Tryd.func10, Tryd.ntmps10
  go_wp2_with fail
  refine (HL.out).mono ?_
  rintro e w1 ⟨rfl, hb⟩
  go_wp2
  go_ret
  exact ⟨rfl, ((Below.refl _ _).alloc (Nat.le_refl _) _).trans (hb.mono (by simp))⟩
set_option maxRecDepth 100000 in
set_option maxHeartbeats 1600000 in
theorem give_yes (k0 k1 k2 k3 : Int) {kl : Lit} (hk : keyOf Tryd.prog 24 (kv k0 k1 k2 k3) = some kl) (x : Nat) (now : Int) (h : Sys w0 w pb pm low n rest t B S) (ht : t < 65536) (hl : (S kl).L x = true) :
    Calls Tryd.prog 10 #[.pointer (some ⟨pb, 0, none⟩), kv k0 k1 k2 k3, .int .i64 ((low : Int) + x), .int .i64 now] w fun e w' => e = .returned (.bool true) ∧ Sys w0 w' pb pm low n rest (t + 1) B (upd S kl ((S kl).give x (clk now + rest))) := by
  obtain ⟨p, hB⟩ : ∃ p, B kl = some p := by
    cases hB : B kl with
    | none => rw [h.new kl hB] at hl; cases hl
    | some p => exact ⟨p, rfl⟩
  have H2 := h.grow ((Below.refl _ _).alloc (Nat.le_refl _) (.cells #[.int .i64 k0, .int .u32 k1, .int .u32 k2, .int .i64 k3] 24))
  have P0 := (h.part kl p hB).1
  have hxn : x < n := P0.cur.top x (by simp [PA.U, hl])
  have hh1 := h.hi1
  have hh2 := h.lo2
  have HL := lent_s k0 k1 k2 k3 hk ((low : Int) + x) (by omega) (by omega) H2
  rw [show lentB low (S kl) ((low : Int) + x) = true from by unfold lentB; simp [show ((low : Int) + x - low).toNat = x by omega, hl]; omega] at HL
  have HL := Lib.hid HL
  have b4 := Lib.hid (box4 w (.int .i64 k0) (.int .u32 k1) (.int .u32 k2) (.int .i64 k3) 24)
  unfold kv at *
  go_enter Tryd.func10, Tryd.ntmps10
  go_wp2_with fail
  refine (HL.out).mono ?_
  rintro e w1 ⟨rfl, hb⟩
  have H3 := H2.grow hb
  have c0 := H3.head.cell 0
  have c2 := H3.head.cell 2
  have c3 := H3.head.cell 3
  have lk := Lib.hid (H3.look1 hk hB)
  obtain ⟨P3, q2, q3, q4, q5⟩ := H3.part kl p hB
  have x1 := P3.head.cell 1
  have x2 := P3.head.cell 2
  simp at c0 c2 c3 x1 x2
  have hw1 : IntKind.i64.wrap ((low : Int) + x - low) = x := by rw [show (low : Int) + x - low = x by omega]; exact IntWalk.i64_in _ (by omega)
  obtain ⟨w5, hs5, t5, hl5⟩ := (P3.of_blocks (w' := w1.drew.drew) (fun _ _ _ _ => rfl)).dropLent (x := x) (by omega) 0
  have i4 := P3.i4
  have i5 := P3.i5
  have i1 := P3.i1
  have ne := P3.ne
  obtain ⟨ng, hng, gg⟩ := P3.given
  have k1' : Has w5 pb 51 #[.int .i64 low, .int .i64 n, .int .i64 rest, .map (some pm)] := (turned_block t5 (by omega)).trans H3.head
  have k2' : Has w5 p.xb 60 #[.pointer (some ⟨p.cb, 0, none⟩), .map (some p.lm), .map (some p.gm)] := (turned_block t5 ne.2.2.1).trans P3.head
  have d0 := k1'.cell 0
  have d2 := k1'.cell 2
  have y1 := k2'.cell 1
  have y2 := k2'.cell 2
  simp at d0 d2 y1 y2
  have g5 : GMap Tryd.prog w5.drew 3 p.gm ng (givenM (S kl).G) := gg.of_block (turned_block t5 (Ne.symm ne.2.2.2.2.2.2.2.2))
  obtain ⟨w6, hs6, t6, ng', hng', g6⟩ := PartOK.putGiven g5 (by omega) (x := x) (by omega) (clk now + rest)
  have v0 : w6.cell? ⟨pb, 0, none⟩ = _ := Has.cell ((turned_block t6 (by omega)).trans k1' : Has w6 pb 51 _) 0
  have v2 : w6.cell? ⟨pb, 2, none⟩ = _ := Has.cell ((turned_block t6 (by omega)).trans k1' : Has w6 pb 51 _) 2
  have z2 : w6.cell? ⟨p.xb, 2, none⟩ = _ := Has.cell ((turned_block t6 ne.2.2.2.1).trans k2' : Has w6 p.xb 60 _) 2
  simp at v0 v2 z2
  have V := Lib.hid (And.intro v0 (And.intro v2 z2))
  clear v0 v2 z2
  have hcl := clk_le now
  have hr := H3.hi2
  rw [show (((clk now + rest : Nat)) : Int) = (clk now : Int) + rest by omega] at hs6
  have HW := Lib.hid hw1
  have b5 : Hid _ := ((hb.cell (p := ⟨w.heap.size, 0, none⟩) (by simp)).trans b4.out.1)
  have FIN : Hid (Sys w0 w6 pb pm low n rest (t + 1) B (upd S kl ((S kl).give x (clk now + rest)))) := by
    refine H3.turn hB (((((Chg.refl _ w1).drew.drew).trans (Chg.turned t5 (by omega))).drew).trans (Chg.turned t6 (by omega))) (by omega) ?_
    have E : ∀ b, b ≠ p.lm → b ≠ p.gm → w6.heap[b]? = w1.heap[b]? := fun b n1 n2 => (turned_block t6 n2).trans (turned_block t5 n1)
    obtain ⟨nl, hnl, gl⟩ := hl5
    refine ⟨(E _ ne.2.2.1 ne.2.2.2.1).trans P3.head, (P3.cur.of_blocks (E _ ne.2.2.2.2.1 ne.2.2.2.2.2.1) (E _ ne.2.2.2.2.2.2.1 ne.2.2.2.2.2.2.2.1)).congr rfl fun y => ?_, ⟨nl, by omega, gl.of_block (turned_block t6 ne.2.2.2.2.2.2.2.2)⟩, ⟨ng', by omega, g6⟩, fun y hy => ?_, fun y u hu => ?_, P3.i1, P3.i2, P3.i3, P3.i4, P3.i5, P3.ne⟩
    · unfold PA.U PA.give setU setG
      by_cases e : y = x
      · subst e; simp [hl]
      · simp [e]
    · unfold PA.give setU at hy
      unfold PA.give setG
      by_cases e : y = x
      · subst e; simp at hy
      · simp [e] at hy ⊢; exact P3.apart y hy
    · unfold PA.give setG at hu
      by_cases e : y = x
      · subst e; simp at hu; omega
      · simp [e] at hu; exact P3.bound y u hu
  clear hw1 HL hl P0 k1' k2' g5 g6 hl5 t5 t6 gg
  go_wp2_with fail
  go_region_held3 (fun W => W.cell? ⟨pb, 3, none⟩ = some (.map (some pm)) ∧ (Instr.lookup 49 (.map (some pm)) (.agg #[.int .i64 k0, .int .u32 k1, .int .u32 k2, .int .i64 k3]) false).run Tryd.prog W = .ok (.pointer (some ⟨p.xb, 0, none⟩)) W ∧ W.cell? ⟨w.heap.size, 0, none⟩ = some (.int .i64 k0) ∧ W.cell? ⟨w.heap.size, 1, none⟩ = some (.int .u32 k1) ∧ W.cell? ⟨w.heap.size, 2, none⟩ = some (.int .u32 k2) ∧ W.cell? ⟨w.heap.size, 3, none⟩ = some (.int .i64 k3)) (first | exact ⟨c3, lk.out _ rfl, b5.out, (hb.cell (p := ⟨w.heap.size, 1, none⟩) (by simp)).trans b4.out.2.1, (hb.cell (p := ⟨w.heap.size, 2, none⟩) (by simp)).trans b4.out.2.2.1, (hb.cell (p := ⟨w.heap.size, 3, none⟩) (by simp)).trans b4.out.2.2.2⟩) (first | fail)
  all_goals
    go_wp2_with fail
    have hw1 := HW.out
    go_region_held3 (fun W => W.cell? ⟨pb, 0, none⟩ = some (.int .i64 low) ∧ W.cell? ⟨p.xb, 1, none⟩ = some (.map (some p.lm))) (first | exact ⟨c0, x1⟩ | exact ⟨d0, y1⟩) (first | fail)
    all_goals
      clear hw1
      go_wp2_with fail
      have hw1 := HW.out
      have hw2 : IntKind.i64.wrap ((clk now : Int) + rest) = (clk now : Int) + rest := IntWalk.i64_in _ (by omega)
      go_region_held3 (fun W => W.cell? ⟨pb, 0, none⟩ = some (.int .i64 low) ∧ W.cell? ⟨pb, 2, none⟩ = some (.int .i64 rest) ∧ W.cell? ⟨p.xb, 2, none⟩ = some (.map (some p.gm))) (first | exact ⟨d0, d2, y2⟩ | exact V.out) (first | (go_at_call 19; refine (clock_c now _).mono ?_; rintro e w' ⟨rfl, rfl⟩))
      all_goals
        go_wp2
        go_ret
        exact ⟨rfl, FIN.out⟩
end
end Go.Proofs.YthkadlmdjgdliaaDoor
