/- Ports in a law: the contracts, one state; the examples. -/
import Derived.Test.YthkadlmdjgdliaaDoorK
namespace Go.Proofs.YthkadlmdjgdliaaDoor
open Go.RowKit
set_option linter.unusedSimpArgs false
set_option linter.unusedVariables false
open V2 (Only)

theorem keyLits_int {P : Program} {d : Nat} {t : TypeId} {q : IntKind} {n : Int} (hu : P.underlying t = some (.int q)) (hw : (Lit.int q n).wf = true) : P.keyLits (d + 1) t [.int q n] = some [.int q n] := by
  unfold Program.keyLits
  simp [hu, hw]
theorem keyLits_struct {P : Program} {d : Nat} {t : TypeId} {fs : Array Field} {cs : List Value} (hu : P.underlying t = some (.struct fs)) (h : cs.length = P.cellsOf t ∧ fs.all (·.name != "_") = true) : P.keyLits (d + 1) t cs = (fs.toList.mapM fun f => P.keyLits d f.type ((cs.drop f.offset).take (P.cellsOf f.type))).map List.flatten := by
  conv => lhs; unfold Program.keyLits
  simp only [hu]
  rw [if_pos h]
theorem cn24 : Tryd.prog.cellsOf 24 = 4 := by kernel_rfl
theorem cn3 : Tryd.prog.cellsOf 3 = 1 := by kernel_rfl
theorem cn22 : Tryd.prog.cellsOf 22 = 1 := by kernel_rfl
theorem kt24 : Tryd.prog.keyType 24 = true := by kernel_rfl
theorem tsz : ∃ m, Tryd.prog.types.size = m + 1 := ⟨Tryd.prog.types.size - 1, by have : 0 < Tryd.prog.types.size := of_decide_eq_true (by kernel_rfl); omega⟩
theorem key_some {k0 k1 k2 k3 : Int} (w0 : (Lit.int .i64 k0).wf = true) (w1 : (Lit.int .u32 k1).wf = true) (w2 : (Lit.int .u32 k2).wf = true) (w3 : (Lit.int .i64 k3).wf = true) : ∃ kl, keyOf Tryd.prog 24 (kv k0 k1 k2 k3) = some kl := by
  unfold kv
  obtain ⟨m, hm⟩ := tsz
  have e0 := keyLits_int (d := m) Tryd.underlying3 w0
  have e1 := keyLits_int (d := m) Tryd.underlying22 w1
  have e2 := keyLits_int (d := m) Tryd.underlying22 w2
  have e3 := keyLits_int (d := m) Tryd.underlying3 w3
  have hf : (Value.agg #[.int .i64 k0, .int .u32 k1, .int .u32 k2, .int .i64 k3]).formed Tryd.prog 24 = true := by
    unfold Value.formed
    simp [Tryd.underlying24, cn24]
  unfold keyOf
  simp only [Tryd.underlying24, kt24, hf, Bool.and_self, if_true, Value.cells]
  have : ∃ ls, Tryd.prog.keyLits (Tryd.prog.types.size + 1) 24 [.int .i64 k0, .int .u32 k1, .int .u32 k2, .int .i64 k3] = some ls := by
    rw [hm, keyLits_struct Tryd.underlying24 ⟨by simp [cn24], by kernel_rfl⟩]
    simp [cn3, cn22, e0, e1, e2, e3]
  obtain ⟨ls, hls⟩ := this
  exact ⟨.string (keyBytes ls), congrArg (Option.map fun ls => Lit.string (keyBytes ls)) hls⟩
/-- A system of ports, its blocks unnamed but its own. -/
def PS (w0 : Base) (w : World) (pb pm low n rest t : Nat) (S : Lit → PA) : Prop := ∃ B, Sys w0 w pb pm low n rest t B S
section
variable {w0 : Base} {w w' : World} {pb pm low n rest t : Nat} {S : Lit → PA} {k0 k1 k2 k3 : Int} {kl : Lit}
theorem PS.grow (h : PS w0 w pb pm low n rest t S) (hb : Below w.heap.size w w') : PS w0 w' pb pm low n rest t S := by
  obtain ⟨B, h⟩ := h
  exact ⟨B, h.grow hb⟩
theorem PS.keeps (h : PS w0 w pb pm low n rest t S) : Keeps w0 w := by
  obtain ⟨B, h⟩ := h
  exact h.bel
theorem PS.more (h : PS w0 w pb pm low n rest t S) {t' : Nat} (ht : t ≤ t') : PS w0 w pb pm low n rest t' S := by
  obtain ⟨B, h⟩ := h
  exact ⟨B, h.more ht⟩
theorem PS.congr (h : PS w0 w pb pm low n rest t S) {S' : Lit → PA} (e : S = S') : PS w0 w pb pm low n rest t S' := e ▸ h
/-- What the law's own box reads as. -/
theorem PS.box {b : Nat} {xs : Array Value} {ty : TypeId} (h : PS w0 w pb pm low n rest t S) (hb : Has w0.w b ty xs) (hz : w0.Z b) : Has w b ty xs := (h.keeps.block b hz).trans hb
theorem lentP (hk : keyOf Tryd.prog 24 (kv k0 k1 k2 k3) = some kl) (port : Int) (hp1 : -9223372036854775808 ≤ port) (hp2 : port ≤ 9223372036854775807) (h : PS w0 w pb pm low n rest t S) (b : Bool) (hb : lentB low (S kl) port = b) :
    Calls Tryd.prog 11 #[.pointer (some ⟨pb, 0, none⟩), kv k0 k1 k2 k3, .int .i64 port] w fun e w' => e = .returned (.bool b) ∧ PS w0 w' pb pm low n rest t S := by
  subst hb
  obtain ⟨B, h⟩ := h
  exact (lent_s k0 k1 k2 k3 hk port hp1 hp2 h).mono fun e w' ⟨he, hb⟩ => ⟨he, B, h.grow hb⟩
theorem restsP (hk : keyOf Tryd.prog 24 (kv k0 k1 k2 k3) = some kl) (port now : Int) (hp1 : -9223372036854775808 ≤ port) (hp2 : port ≤ 9223372036854775807) (h : PS w0 w pb pm low n rest t S) (b : Bool) (hb : restB low (S kl) port now = b) :
    Calls Tryd.prog 15 #[.pointer (some ⟨pb, 0, none⟩), kv k0 k1 k2 k3, .int .i64 port, .int .i64 now] w fun e w' => e = .returned (.bool b) ∧ PS w0 w' pb pm low n rest t S := by
  subst hb
  obtain ⟨B, h⟩ := h
  exact (rests_s k0 k1 k2 k3 hk port now hp1 hp2 h).mono fun e w' ⟨he, hb⟩ => ⟨he, B, h.grow hb⟩
theorem giveNo (hk : keyOf Tryd.prog 24 (kv k0 k1 k2 k3) = some kl) (port now : Int) (hp1 : -9223372036854775808 ≤ port) (hp2 : port ≤ 9223372036854775807) (h : PS w0 w pb pm low n rest t S) (hl : lentB low (S kl) port = false) :
    Calls Tryd.prog 10 #[.pointer (some ⟨pb, 0, none⟩), kv k0 k1 k2 k3, .int .i64 port, .int .i64 now] w fun e w' => e = .returned (.bool false) ∧ PS w0 w' pb pm low n rest t S := by
  obtain ⟨B, h⟩ := h
  exact (give_no k0 k1 k2 k3 hk port now hp1 hp2 h hl).mono fun e w' ⟨he, hb⟩ => ⟨he, B, h.grow hb⟩
theorem giveYes (hk : keyOf Tryd.prog 24 (kv k0 k1 k2 k3) = some kl) (x : Nat) (now : Int) (h : PS w0 w pb pm low n rest t S) (ht : t < 65536) (hl : (S kl).L x = true) :
    Calls Tryd.prog 10 #[.pointer (some ⟨pb, 0, none⟩), kv k0 k1 k2 k3, .int .i64 ((low : Int) + x), .int .i64 now] w fun e w' => e = .returned (.bool true) ∧ PS w0 w' pb pm low n rest (t + 1) (upd S kl ((S kl).give x (clk now + rest))) := by
  obtain ⟨B, h⟩ := h
  exact (give_yes k0 k1 k2 k3 hk x now h ht hl).mono fun e w' ⟨he, hb⟩ => ⟨he, B, hb⟩
theorem takeFull (hk : keyOf Tryd.prog 24 (kv k0 k1 k2 k3) = some kl) (now : Int) (h : PS w0 w pb pm low n rest t S) (ht : t < 60000) (ha : ∀ x, x < n → ((S kl).exp (clk now)).U x = true) :
    Calls Tryd.prog 9 #[.pointer (some ⟨pb, 0, none⟩), kv k0 k1 k2 k3, .int .i64 now] w fun e w' => e = .returned (.tuple #[.int .i64 0, .int .i64 17]) ∧ PS w0 w' pb pm low n rest (t + 2) (upd S kl ((S kl).exp (clk now))) := by
  obtain ⟨B, h⟩ := h
  refine (take_p k0 k1 k2 k3 hk now h ht).mono ?_
  rintro e w' (⟨B', _, he, hs⟩ | ⟨B', k, hk, _⟩)
  · exact ⟨he, B', hs⟩
  · have := ha k hk.1; rw [hk.2.1] at this; cases this
theorem Next2.unique {U : Nat → Bool} {n at1 k l : Nat} (h : V2.Next U n at1 k) (g : V2.Next U n at1 l) : k = l := Next.unique (h : Next U n at1 k) g
theorem takeNext (hk : keyOf Tryd.prog 24 (kv k0 k1 k2 k3) = some kl) (now : Int) (h : PS w0 w pb pm low n rest t S) (ht : t < 60000) (k : Nat) (hn : V2.Next ((S kl).exp (clk now)).U n (S kl).at1 k) :
    Calls Tryd.prog 9 #[.pointer (some ⟨pb, 0, none⟩), kv k0 k1 k2 k3, .int .i64 now] w fun e w' => e = .returned (.tuple #[.int .i64 ((low : Int) + k), .int .i64 0]) ∧ PS w0 w' pb pm low n rest (t + 2) (upd S kl (((S kl).exp (clk now)).take n k)) := by
  obtain ⟨B, h⟩ := h
  refine (take_p k0 k1 k2 k3 hk now h ht).mono ?_
  rintro e w' (⟨B', ha, _⟩ | ⟨B', l, hl, he, hs⟩)
  · have := ha k hn.1; rw [hn.2.1] at this; cases this
  · obtain rfl := Next2.unique hn hl
    exact ⟨he, B', hs⟩
end
end Go.Proofs.YthkadlmdjgdliaaDoor
