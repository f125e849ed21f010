/- The walks of clock, New, Lent, Rests. -/
import Derived.Test.YthkadlmdjgdliaaDoorF
import Derived.Deep.QuietTactic
import Derived.BigQuiet
import Derived.Deep.RegionHeld3
import Derived.Outline
import Derived.IntWalk
namespace Go.Proofs.YthkadlmdjgdliaaDoor
open Go.RowKit
set_option linter.unusedSimpArgs false
set_option linter.unusedVariables false
open V2 (Only)

def clk (now : Int) : Nat := if now < 0 then 0 else if 1099511627776 < now then 1099511627776 else now.toNat
theorem clk_le (now : Int) : clk now ≤ 1099511627776 := by unfold clk; split <;> (try split) <;> omega
theorem clock_c (now : Int) (w : World) : Calls Tryd.prog 19 #[.int .i64 now] w fun e w' => e = .returned (.int .i64 (clk now)) ∧ w = w' := by
  by_cases h1 : now < 0
  · have h2 : ((clk now : Nat) : Int) = 0 := by unfold clk; rw [if_pos h1]; rfl
    rw [h2]
    go_enter Tryd.func19, Tryd.ntmps19
    go_wp2
    go_ret
    exact ⟨rfl, rfl⟩
  by_cases h3 : 1099511627776 < now
  · have h2 : ((clk now : Nat) : Int) = 1099511627776 := by unfold clk; rw [if_neg h1, if_pos h3]; rfl
    rw [h2]
    go_enter Tryd.func19, Tryd.ntmps19
    go_wp2
    go_ret
    exact ⟨rfl, rfl⟩
  · have h2 : ((clk now : Nat) : Int) = now := by unfold clk; rw [if_neg h1, if_neg h3]; omega
    rw [h2]
    have h4 : 0 ≤ now := by omega
    have h5 : now ≤ 1099511627776 := by omega
    clear h1 h3 h2
    go_enter Tryd.func19, Tryd.ntmps19
    go_wp2
    go_ret
    exact ⟨rfl, rfl⟩
/-- The key, as a value. -/
def kv (k0 k1 k2 k3 : Int) : Value := .agg #[.int .i64 k0, .int .u32 k1, .int .u32 k2, .int .i64 k3]
def lentB (low : Nat) (A : PA) (port : Int) : Bool := decide ((low : Int) ≤ port) && A.L (port - low).toNat
section
variable {w0 : Base} {w w' : World} {pb pm low n rest t : Nat} {B : Lit → Option PB} {S : Lit → PA}
theorem Sys.look_no (h : Sys w0 w pb pm low n rest t B S) {key : Value} {kl : Lit} (hk : keyOf Tryd.prog 24 key = some kl) (hB : B kl = none) :
    ∀ W : World, W.heap[pm]? = w.heap[pm]? → (Instr.lookup 49 (.map (some pm)) key true).run Tryd.prog W = .ok (.tuple #[.pointer none, .bool false]) W := by
  intro W e
  obtain ⟨np, _, g⟩ := h.map
  have := (g.of_block e).look_ok keyed24 Tryd.underlying49 zero52 hk
  simpa [hB] using this
theorem Sys.look_yes (h : Sys w0 w pb pm low n rest t B S) {key : Value} {kl : Lit} (hk : keyOf Tryd.prog 24 key = some kl) {p : PB} (hB : B kl = some p) :
    ∀ W : World, W.heap[pm]? = w.heap[pm]? → (Instr.lookup 49 (.map (some pm)) key true).run Tryd.prog W = .ok (.tuple #[.pointer (some ⟨p.xb, 0, none⟩), .bool true]) W := by
  intro W e
  obtain ⟨np, _, g⟩ := h.map
  have := (g.of_block e).look_ok keyed24 Tryd.underlying49 zero52 hk
  simpa [hB] using this
theorem Sys.look1 (h : Sys w0 w pb pm low n rest t B S) {key : Value} {kl : Lit} (hk : keyOf Tryd.prog 24 key = some kl) {p : PB} (hB : B kl = some p) :
    ∀ W : World, W.heap[pm]? = w.heap[pm]? → (Instr.lookup 49 (.map (some pm)) key false).run Tryd.prog W = .ok (.pointer (some ⟨p.xb, 0, none⟩)) W := by
  intro W e
  obtain ⟨np, _, g⟩ := h.map
  have := (g.of_block e).look keyed24 Tryd.underlying49 zero52 hk
  simpa [hB] using this
theorem box4 (w : World) (a b c d : Value) (t : TypeId) : (w.alloc (.cells #[a, b, c, d] t)).cell? ⟨w.heap.size, 0, none⟩ = some a ∧ (w.alloc (.cells #[a, b, c, d] t)).cell? ⟨w.heap.size, 1, none⟩ = some b ∧ (w.alloc (.cells #[a, b, c, d] t)).cell? ⟨w.heap.size, 2, none⟩ = some c ∧ (w.alloc (.cells #[a, b, c, d] t)).cell? ⟨w.heap.size, 3, none⟩ = some d :=
  ⟨(Has.new w _ _).cell 0, (Has.new w _ _).cell 1, (Has.new w _ _).cell 2, (Has.new w _ _).cell 3⟩
set_option maxRecDepth 100000 in
set_option maxHeartbeats 1600000 in
theorem lent_no (k0 k1 k2 k3 : Int) {kl : Lit} (hk : keyOf Tryd.prog 24 (kv k0 k1 k2 k3) = some kl) (port : Int) (h : Sys w0 w pb pm low n rest t B S) (hB : B kl = none) :
    Calls Tryd.prog 11 #[.pointer (some ⟨pb, 0, none⟩), kv k0 k1 k2 k3, .int .i64 port] w fun e w' => e = .returned (.bool false) ∧ Below w.heap.size w w' := by
  have H2 := h.grow ((Below.refl _ _).alloc (Nat.le_refl _) (.cells #[.int .i64 k0, .int .u32 k1, .int .u32 k2, .int .i64 k3] 24))
  have c3 := H2.head.cell 3
  have lk := Lib.hid (H2.look_no hk hB)
  have b4 := Lib.hid (box4 w (.int .i64 k0) (.int .u32 k1) (.int .u32 k2) (.int .i64 k3) 24)
  unfold kv at *
  simp at c3
  clear h hB H2
  go_enter Tryd.func11, Tryd.ntmps11
  go_wp2_with fail
  go_region_held3 (fun W => W.cell? ⟨pb, 3, none⟩ = some (.map (some pm)) ∧ (Instr.lookup 49 (.map (some pm)) (.agg #[.int .i64 k0, .int .u32 k1, .int .u32 k2, .int .i64 k3]) true).run Tryd.prog W = .ok (.tuple #[.pointer none, .bool false]) W ∧ W.cell? ⟨w.heap.size, 0, none⟩ = some (.int .i64 k0) ∧ W.cell? ⟨w.heap.size, 1, none⟩ = some (.int .u32 k1) ∧ W.cell? ⟨w.heap.size, 2, none⟩ = some (.int .u32 k2) ∧ W.cell? ⟨w.heap.size, 3, none⟩ = some (.int .i64 k3)) (first | exact ⟨c3, lk.out _ rfl, b4.out⟩) (first | fail)
  all_goals
    go_wp2
    go_ret
    exact ⟨rfl, ((Below.refl _ _).alloc (Nat.le_refl _) _).drew⟩
theorem PartOK.lentLook {p : PB} {A : PA} (h : PartOK w p n t A) {x : Int} (h0 : 0 ≤ x) (h1 : x ≤ 9223372036854775807) {b : Bool} (hb : A.L x.toNat = b) :
    ∀ W : World, W.heap[p.lm]? = w.heap[p.lm]? → (Instr.lookup 57 (.map (some p.lm)) (.int .i64 x) true).run Tryd.prog W = .ok (.tuple #[.agg #[], .bool b]) W := by
  intro W e
  obtain ⟨np, _, g⟩ := h.lent
  have := (g.of_block e).look_ok keyed3 Tryd.underlying57 zero65 (key := .int .i64 x) (kl := .int .i64 x) (Maps.keyOf_int_mk Tryd.underlying3 (wf_int (by omega) h1))
  rw [this]
  subst hb
  unfold lentM
  by_cases q : A.L x.toNat = true
  · simp [h0, q]
  · simp [q]
theorem PartOK.givenLook {p : PB} {A : PA} (h : PartOK w p n t A) {x : Int} (h0 : 0 ≤ x) (h1 : x ≤ 9223372036854775807) :
    ∀ W : World, W.heap[p.gm]? = w.heap[p.gm]? → (Instr.lookup 58 (.map (some p.gm)) (.int .i64 x) true).run Tryd.prog W = .ok (.tuple #[.int .i64 ((A.G x.toNat).getD 0 : Nat), .bool (A.G x.toNat).isSome]) W := by
  intro W e
  obtain ⟨np, _, g⟩ := h.given
  have := (g.of_block e).look_ok keyed3 Tryd.underlying58 zero3 (key := .int .i64 x) (kl := .int .i64 x) (Maps.keyOf_int_mk Tryd.underlying3 (wf_int (by omega) h1))
  rw [this]
  unfold givenM
  cases q : A.G x.toNat <;> simp [h0, q]
set_option maxRecDepth 100000 in
set_option maxHeartbeats 1600000 in
theorem lent_yes (k0 k1 k2 k3 : Int) {kl : Lit} (hk : keyOf Tryd.prog 24 (kv k0 k1 k2 k3) = some kl) (port : Int) (hp1 : -9223372036854775808 ≤ port) (hp2 : port ≤ 9223372036854775807) (h : Sys w0 w pb pm low n rest t B S) {p : PB} (hB : B kl = some p) :
    Calls Tryd.prog 11 #[.pointer (some ⟨pb, 0, none⟩), kv k0 k1 k2 k3, .int .i64 port] w fun e w' => e = .returned (.bool (lentB low (S kl) port)) ∧ Below w.heap.size w w' := by
  have H2 := h.grow ((Below.refl _ _).alloc (Nat.le_refl _) (.cells #[.int .i64 k0, .int .u32 k1, .int .u32 k2, .int .i64 k3] 24))
  have c0 := H2.head.cell 0
  have c3 := H2.head.cell 3
  have lk := Lib.hid (H2.look_yes hk hB)
  obtain ⟨P2, q2, q3, q4, q5⟩ := H2.part kl p hB
  have x1 := P2.head.cell 1
  have b4 := Lib.hid (box4 w (.int .i64 k0) (.int .u32 k1) (.int .u32 k2) (.int .i64 k3) 24)
  have hl1 := h.hi1
  have hl2 := h.lo2
  unfold kv at *
  simp at c3 c0 x1
  by_cases hlow : port < low
  · have e1 : lentB low (S kl) port = false := by unfold lentB; simp; omega
    rw [e1]
    clear h hB H2 e1 P2
    go_enter Tryd.func11, Tryd.ntmps11
    go_wp2_with fail
    go_region_held3 (fun W => W.cell? ⟨pb, 3, none⟩ = some (.map (some pm)) ∧ (Instr.lookup 49 (.map (some pm)) (.agg #[.int .i64 k0, .int .u32 k1, .int .u32 k2, .int .i64 k3]) true).run Tryd.prog W = .ok (.tuple #[.pointer (some ⟨p.xb, 0, none⟩), .bool true]) W ∧ W.cell? ⟨w.heap.size, 0, none⟩ = some (.int .i64 k0) ∧ W.cell? ⟨w.heap.size, 1, none⟩ = some (.int .u32 k1) ∧ W.cell? ⟨w.heap.size, 2, none⟩ = some (.int .u32 k2) ∧ W.cell? ⟨w.heap.size, 3, none⟩ = some (.int .i64 k3)) (first | exact ⟨c3, lk.out _ rfl, b4.out⟩) (first | fail)
    all_goals
      go_wp2
      go_ret
      exact ⟨rfl, ((Below.refl _ _).alloc (Nat.le_refl _) _).drew⟩
  · have hlow' : (low : Int) ≤ port := by omega
    obtain ⟨b, hb⟩ : ∃ b, (S kl).L (port - low).toNat = b := ⟨_, rfl⟩
    have e1 : lentB low (S kl) port = b := by unfold lentB; rw [hb]; simp [hlow']
    rw [e1]
    have ll := Lib.hid (P2.lentLook (x := port - low) (by omega) (by omega) hb)
    have HA := H2.head
    have HX := P2.head
    have lt1 := HA.lt
    have lt2 := HX.lt
    obtain ⟨_, _, gl⟩ := P2.lent
    have lt3 := gl.lt
    have KA := Lib.hid (fun (W : World) (e1 : W.heap[pb]? = (w.alloc (.cells #[.int .i64 k0, .int .u32 k1, .int .u32 k2, .int .i64 k3] 24)).heap[pb]?) (e2 : W.heap[p.xb]? = (w.alloc (.cells #[.int .i64 k0, .int .u32 k1, .int .u32 k2, .int .i64 k3] 24)).heap[p.xb]?) (e3 : W.heap[p.lm]? = (w.alloc (.cells #[.int .i64 k0, .int .u32 k1, .int .u32 k2, .int .i64 k3] 24)).heap[p.lm]?) => And.intro ((Has.cell (e1.trans HA) 0)) (And.intro (Has.cell (e2.trans HX) 1) (ll.out W e3)))
    clear h hB H2 e1 P2 hb HA HX gl
    go_enter Tryd.func11, Tryd.ntmps11
    go_wp2_with fail
    go_region_held3 (fun W => W.cell? ⟨pb, 3, none⟩ = some (.map (some pm)) ∧ (Instr.lookup 49 (.map (some pm)) (.agg #[.int .i64 k0, .int .u32 k1, .int .u32 k2, .int .i64 k3]) true).run Tryd.prog W = .ok (.tuple #[.pointer (some ⟨p.xb, 0, none⟩), .bool true]) W ∧ W.cell? ⟨w.heap.size, 0, none⟩ = some (.int .i64 k0) ∧ W.cell? ⟨w.heap.size, 1, none⟩ = some (.int .u32 k1) ∧ W.cell? ⟨w.heap.size, 2, none⟩ = some (.int .u32 k2) ∧ W.cell? ⟨w.heap.size, 3, none⟩ = some (.int .i64 k3)) (first | exact ⟨c3, lk.out _ rfl, b4.out⟩) (first | fail)
    all_goals
      go_wp2_with fail
      have hw1 : IntKind.i64.wrap (port - low) = port - low := IntWalk.i64_in _ (by omega)
      go_region_held3 (fun W => W.cell? ⟨pb, 0, none⟩ = some (.int .i64 low) ∧ W.cell? ⟨p.xb, 1, none⟩ = some (.map (some p.lm)) ∧ (Instr.lookup 57 (.map (some p.lm)) (.int .i64 (port - low)) true).run Tryd.prog W = .ok (.tuple #[.agg #[], .bool b]) W) (first | exact KA.out _ rfl rfl rfl | exact KA.out _ (Below.heap_alloc _ _ _ lt1) (Below.heap_alloc _ _ _ lt2) (Below.heap_alloc _ _ _ lt3)) (first | fail)
      all_goals
        go_wp2
        go_ret
        exact ⟨rfl, ((((Below.refl _ _).alloc (Nat.le_refl _) _).alloc (by simp) _).drew).drew⟩
theorem lent_s (k0 k1 k2 k3 : Int) {kl : Lit} (hk : keyOf Tryd.prog 24 (kv k0 k1 k2 k3) = some kl) (port : Int) (hp1 : -9223372036854775808 ≤ port) (hp2 : port ≤ 9223372036854775807) (h : Sys w0 w pb pm low n rest t B S) :
    Calls Tryd.prog 11 #[.pointer (some ⟨pb, 0, none⟩), kv k0 k1 k2 k3, .int .i64 port] w fun e w' => e = .returned (.bool (lentB low (S kl) port)) ∧ Below w.heap.size w w' := by
  cases hB : B kl with
  | none =>
    refine (lent_no k0 k1 k2 k3 hk port h hB).mono ?_
    rintro e w' ⟨rfl, hb⟩
    rw [h.new kl hB]
    exact ⟨by simp [lentB, PA.new], hb⟩
  | some p => exact lent_yes k0 k1 k2 k3 hk port hp1 hp2 h hB

def over (c : Nat) : Option Nat → Bool
  | none => false
  | some u => decide (c < u)
def restB (low : Nat) (A : PA) (port now : Int) : Bool := decide ((low : Int) ≤ port) && over (clk now) (A.G (port - low).toNat)
set_option maxRecDepth 100000 in
set_option maxHeartbeats 1600000 in
theorem rests_no (k0 k1 k2 k3 : Int) {kl : Lit} (hk : keyOf Tryd.prog 24 (kv k0 k1 k2 k3) = some kl) (port now : Int) (h : Sys w0 w pb pm low n rest t B S) (hB : B kl = none) :
    Calls Tryd.prog 15 #[.pointer (some ⟨pb, 0, none⟩), kv k0 k1 k2 k3, .int .i64 port, .int .i64 now] w fun e w' => e = .returned (.bool false) ∧ Below w.heap.size w w' := by
  have H2 := h.grow ((Below.refl _ _).alloc (Nat.le_refl _) (.cells #[.int .i64 k0, .int .u32 k1, .int .u32 k2, .int .i64 k3] 24))
  have c3 := H2.head.cell 3
  have lk := Lib.hid (H2.look_no hk hB)
  have b4 := Lib.hid (box4 w (.int .i64 k0) (.int .u32 k1) (.int .u32 k2) (.int .i64 k3) 24)
  unfold kv at *
  simp at c3
  clear h hB H2
  go_enter Tryd.func15, Tryd.ntmps15
  go_wp2_with fail
  go_region_held3 (fun W => W.cell? ⟨pb, 3, none⟩ = some (.map (some pm)) ∧ (Instr.lookup 49 (.map (some pm)) (.agg #[.int .i64 k0, .int .u32 k1, .int .u32 k2, .int .i64 k3]) true).run Tryd.prog W = .ok (.tuple #[.pointer none, .bool false]) W ∧ W.cell? ⟨w.heap.size, 0, none⟩ = some (.int .i64 k0) ∧ W.cell? ⟨w.heap.size, 1, none⟩ = some (.int .u32 k1) ∧ W.cell? ⟨w.heap.size, 2, none⟩ = some (.int .u32 k2) ∧ W.cell? ⟨w.heap.size, 3, none⟩ = some (.int .i64 k3)) (first | exact ⟨c3, lk.out _ rfl, b4.out⟩) (first | fail)
  all_goals
    go_wp2
    go_ret
    exact ⟨rfl, ((Below.refl _ _).alloc (Nat.le_refl _) _).drew⟩
set_option maxRecDepth 100000 in
set_option maxHeartbeats 1600000 in
theorem rests_yes (k0 k1 k2 k3 : Int) {kl : Lit} (hk : keyOf Tryd.prog 24 (kv k0 k1 k2 k3) = some kl) (port now : Int) (hp1 : -9223372036854775808 ≤ port) (hp2 : port ≤ 9223372036854775807) (h : Sys w0 w pb pm low n rest t B S) {p : PB} (hB : B kl = some p) :
    Calls Tryd.prog 15 #[.pointer (some ⟨pb, 0, none⟩), kv k0 k1 k2 k3, .int .i64 port, .int .i64 now] w fun e w' => e = .returned (.bool (restB low (S kl) port now)) ∧ Below w.heap.size w w' := by
  have H2 := h.grow ((Below.refl _ _).alloc (Nat.le_refl _) (.cells #[.int .i64 k0, .int .u32 k1, .int .u32 k2, .int .i64 k3] 24))
  have c0 := H2.head.cell 0
  have c3 := H2.head.cell 3
  have lk := Lib.hid (H2.look_yes hk hB)
  obtain ⟨P2, q2, q3, q4, q5⟩ := H2.part kl p hB
  have x2 := P2.head.cell 2
  have b4 := Lib.hid (box4 w (.int .i64 k0) (.int .u32 k1) (.int .u32 k2) (.int .i64 k3) 24)
  have hl1 := h.hi1
  have hl2 := h.lo2
  unfold kv at *
  simp at c3 c0 x2
  by_cases hlow : port < low
  · have e1 : restB low (S kl) port now = false := by unfold restB; simp; intro; omega
    rw [e1]
    clear h hB H2 e1 P2
    go_enter Tryd.func15, Tryd.ntmps15
    go_wp2_with fail
    go_region_held3 (fun W => W.cell? ⟨pb, 3, none⟩ = some (.map (some pm)) ∧ (Instr.lookup 49 (.map (some pm)) (.agg #[.int .i64 k0, .int .u32 k1, .int .u32 k2, .int .i64 k3]) true).run Tryd.prog W = .ok (.tuple #[.pointer (some ⟨p.xb, 0, none⟩), .bool true]) W ∧ W.cell? ⟨w.heap.size, 0, none⟩ = some (.int .i64 k0) ∧ W.cell? ⟨w.heap.size, 1, none⟩ = some (.int .u32 k1) ∧ W.cell? ⟨w.heap.size, 2, none⟩ = some (.int .u32 k2) ∧ W.cell? ⟨w.heap.size, 3, none⟩ = some (.int .i64 k3)) (first | exact ⟨c3, lk.out _ rfl, b4.out⟩) (first | fail)
    all_goals
      go_wp2
      go_ret
      exact ⟨rfl, ((Below.refl _ _).alloc (Nat.le_refl _) _).drew⟩
  · have hlow' : (low : Int) ≤ port := by omega
    have ll := P2.givenLook (x := port - low) (by omega) (by omega)
    have hbd := P2.bound (port - low).toNat
    obtain ⟨G, hG⟩ : ∃ G, (S kl).G (port - low).toNat = G := ⟨_, rfl⟩
    have e1 : restB low (S kl) port now = over (clk now) G := by unfold restB; rw [hG]; simp [hlow']
    rw [e1]
    rw [hG] at ll
    have ll := Lib.hid ll
    have HC := clk_le now
    clear h hB H2 e1 P2
    cases G with
    | none =>
      rw [show over (clk now) none = false from rfl]
      clear hG
      simp only [Option.getD, Option.isSome] at ll
      go_enter Tryd.func15, Tryd.ntmps15
      go_wp2_with fail
      go_region_held3 (fun W => W.cell? ⟨pb, 3, none⟩ = some (.map (some pm)) ∧ (Instr.lookup 49 (.map (some pm)) (.agg #[.int .i64 k0, .int .u32 k1, .int .u32 k2, .int .i64 k3]) true).run Tryd.prog W = .ok (.tuple #[.pointer (some ⟨p.xb, 0, none⟩), .bool true]) W ∧ W.cell? ⟨w.heap.size, 0, none⟩ = some (.int .i64 k0) ∧ W.cell? ⟨w.heap.size, 1, none⟩ = some (.int .u32 k1) ∧ W.cell? ⟨w.heap.size, 2, none⟩ = some (.int .u32 k2) ∧ W.cell? ⟨w.heap.size, 3, none⟩ = some (.int .i64 k3)) (first | exact ⟨c3, lk.out _ rfl, b4.out⟩) (first | fail)
      all_goals
        go_wp2_with fail
        have hw1 : IntKind.i64.wrap (port - low) = port - low := IntWalk.i64_in _ (by omega)
        go_region_held3 (fun W => W.cell? ⟨pb, 0, none⟩ = some (.int .i64 low) ∧ W.cell? ⟨p.xb, 2, none⟩ = some (.map (some p.gm)) ∧ (Instr.lookup 58 (.map (some p.gm)) (.int .i64 (port - low)) true).run Tryd.prog W = .ok (.tuple #[.int .i64 ((0 : Nat) : Int), .bool false]) W) (first | exact ⟨c0, x2, ll.out _ rfl⟩) (first | fail)
        all_goals
          go_wp2
          go_ret
          exact ⟨rfl, (((Below.refl _ _).alloc (Nat.le_refl _) _).drew).drew⟩
    | some u =>
      have hu := hbd u hG
      clear hG hbd
      simp only [Option.getD, Option.isSome] at ll
      have e2 : over (clk now) (some u) = decide (((clk now : Nat) : Int) < (u : Int)) := by simp [over]
      rw [e2]
      go_enter Tryd.func15, Tryd.ntmps15
      go_wp2_with fail
      go_region_held3 (fun W => W.cell? ⟨pb, 3, none⟩ = some (.map (some pm)) ∧ (Instr.lookup 49 (.map (some pm)) (.agg #[.int .i64 k0, .int .u32 k1, .int .u32 k2, .int .i64 k3]) true).run Tryd.prog W = .ok (.tuple #[.pointer (some ⟨p.xb, 0, none⟩), .bool true]) W ∧ W.cell? ⟨w.heap.size, 0, none⟩ = some (.int .i64 k0) ∧ W.cell? ⟨w.heap.size, 1, none⟩ = some (.int .u32 k1) ∧ W.cell? ⟨w.heap.size, 2, none⟩ = some (.int .u32 k2) ∧ W.cell? ⟨w.heap.size, 3, none⟩ = some (.int .i64 k3)) (first | exact ⟨c3, lk.out _ rfl, b4.out⟩) (first | fail)
      all_goals
        go_wp2_with fail
        have hw1 : IntKind.i64.wrap (port - low) = port - low := IntWalk.i64_in _ (by omega)
        go_region_held3 (fun W => W.cell? ⟨pb, 0, none⟩ = some (.int .i64 low) ∧ W.cell? ⟨p.xb, 2, none⟩ = some (.map (some p.gm)) ∧ (Instr.lookup 58 (.map (some p.gm)) (.int .i64 (port - low)) true).run Tryd.prog W = .ok (.tuple #[.int .i64 (u : Int), .bool true]) W) (first | exact ⟨c0, x2, ll.out _ rfl⟩) (first | fail)
        all_goals
          go_wp2_with fail
          refine (clock_c now _).mono ?_
          rintro e w' ⟨rfl, rfl⟩
          go_wp2
          all_goals
            go_ret
            refine ⟨?_, (((Below.refl _ _).alloc (Nat.le_refl _) _).drew).drew⟩
            first | rfl | simp
theorem rests_s (k0 k1 k2 k3 : Int) {kl : Lit} (hk : keyOf Tryd.prog 24 (kv k0 k1 k2 k3) = some kl) (port now : Int) (hp1 : -9223372036854775808 ≤ port) (hp2 : port ≤ 9223372036854775807) (h : Sys w0 w pb pm low n rest t B S) :
    Calls Tryd.prog 15 #[.pointer (some ⟨pb, 0, none⟩), kv k0 k1 k2 k3, .int .i64 port, .int .i64 now] w fun e w' => e = .returned (.bool (restB low (S kl) port now)) ∧ Below w.heap.size w w' := by
  cases hB : B kl with
  | none =>
    refine (rests_no k0 k1 k2 k3 hk port now h hB).mono ?_
    rintro e w' ⟨rfl, hb⟩
    rw [h.new kl hB]
    exact ⟨by simp [restB, PA.new, over], hb⟩
  | some p => exact rests_yes k0 k1 k2 k3 hk port now hp1 hp2 h hB
end
end Go.Proofs.YthkadlmdjgdliaaDoor
