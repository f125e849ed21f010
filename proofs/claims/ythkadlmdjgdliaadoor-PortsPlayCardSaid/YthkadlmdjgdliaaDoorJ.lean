/- The walk of Take: the part is there, or is made. -/
import Derived.Test.YthkadlmdjgdliaaDoorI
namespace Go.Proofs.YthkadlmdjgdliaaDoor
open Go.RowKit
set_option linter.unusedSimpArgs false
set_option linter.unusedVariables false
open V2 (Only)

theorem ports_bad (low many rest : Int) (h1 : -9223372036854775808 ≤ low) (h2 : low ≤ 9223372036854775807) (h : low < 1 ∨ many < 1 ∨ 65536 < low ∨ 65536 - low < many ∨ rest < 0 ∨ 1099511627776 < rest) (w : World) :
    Calls Tryd.prog 8 #[.int .i64 low, .int .i64 many, .int .i64 rest] w fun e w' => e = .returned (.tuple #[.pointer none, .int .i64 1]) ∧ w = w' := by
  by_cases a1 : low < 1
  · clear h
    go_enter Tryd.func8, Tryd.ntmps8
    go_wp2
    go_ret2
    exact ⟨rfl, rfl⟩
  by_cases a2 : many < 1
  · clear h
    go_enter Tryd.func8, Tryd.ntmps8
    go_wp2
    go_ret2
    exact ⟨rfl, rfl⟩
  by_cases a3 : 65536 < low
  · clear h
    go_enter Tryd.func8, Tryd.ntmps8
    go_wp2
    go_ret2
    exact ⟨rfl, rfl⟩
  by_cases a4 : 65536 - low < many
  · clear h
    go_enter Tryd.func8, Tryd.ntmps8
    go_wp2
    go_ret2
    exact ⟨rfl, rfl⟩
  by_cases a5 : rest < 0
  · clear h
    go_enter Tryd.func8, Tryd.ntmps8
    go_wp2
    go_ret2
    exact ⟨rfl, rfl⟩
  have a6 : 1099511627776 < rest := by omega
  clear h
  go_enter Tryd.func8, Tryd.ntmps8
  go_wp2
  go_ret2
  exact ⟨rfl, rfl⟩
theorem ports_new (low n rest : Nat) (hlo : 1 ≤ low) (hn : 1 ≤ n) (hhi : low + n ≤ 65536) (hr : rest ≤ 1099511627776) (w : World) (hT : Tab w) (hp : 0 < w.heap.size) :
    Calls Tryd.prog 8 #[.int .i64 low, .int .i64 n, .int .i64 rest] w fun e w' => ∃ pb pm, e = .returned (.tuple #[.pointer (some ⟨pb, 0, none⟩), .int .i64 0]) ∧ Sys ⟨w, fun b => b < w.heap.size⟩ w' pb pm low n rest 0 (fun _ => none) (fun _ => PA.new) := by
  have hmm := @run_makeMap Tryd.prog
  have FIN : Hid (Sys ⟨w, fun b => b < w.heap.size⟩ ((w.alloc (.map #[] 0)).alloc (.cells #[.int .i64 low, .int .i64 n, .int .i64 rest, .map (some w.heap.size)] 51)) (w.heap.size + 1) w.heap.size low n rest 0 (fun _ => none) (fun _ => PA.new)) := by
    have b2 : Below w.heap.size w ((w.alloc (.map #[] 0)).alloc (.cells #[.int .i64 low, .int .i64 n, .int .i64 rest, .map (some w.heap.size)] 51)) := ((Below.refl _ _).alloc (Nat.le_refl _) _).alloc (by simp) _
    refine ⟨?_, ⟨0, Nat.le_refl _, ?_⟩, fun _ _ h => (by cases h), fun _ _ => rfl, fun _ _ _ _ _ h => (by cases h), hT.below b2 (by omega), ⟨b2.os, b2.tape, b2.output, b2.size, b2.block⟩, fun b h => h, hp, by simp, by simp, by omega, hn, hlo, hhi, hr⟩
    · simpa using Has.new (w.alloc (.map #[] 0)) #[.int .i64 low, .int .i64 n, .int .i64 rest, .map (some w.heap.size)] 51
    · exact (GMap.made Tryd.prog w 24).of_block (Below.heap_alloc _ _ _ (by simp))
  clear hT hp
  go_enter Tryd.func8, Tryd.ntmps8
  go_wp2
  go_ret2
  exact ⟨_, _, by simp, FIN.out⟩

section
variable {w0 : Base} {w w' : World} {pb pm low n rest t : Nat} {B : Lit → Option PB} {S : Lit → PA}
def TakeE (w0 : Base) (pb pm low n rest t : Nat) (S : Lit → PA) (kl : Lit) (A : PA) (e : Ending) (w' : World) : Prop :=
  (∃ B', (∀ x, x < n → A.U x = true) ∧ e = .returned (.tuple #[.int .i64 0, .int .i64 17]) ∧ Sys w0 w' pb pm low n rest t B' (upd S kl A)) ∨
  ∃ B' k, V2.Next A.U n A.at1 k ∧ e = .returned (.tuple #[.int .i64 ((low : Int) + k), .int .i64 0]) ∧ Sys w0 w' pb pm low n rest t B' (upd S kl (A.take n k))
/-- The part's number k is lent. -/
theorem PartOK.putLent {p : PB} {L : Nat → Bool} {nm : Nat} (g : GMap Tryd.prog w 3 p.lm nm (lentM L)) (hn : nm < 65536) {x : Nat} (hx : x < 65536) :
    ∃ w', (Instr.mapUpdate 57 (.map (some p.lm)) (.int .i64 x) (.agg #[])).run Tryd.prog w = .ok () w' ∧ w.mapTurned w' p.lm ∧ ∃ nm', nm' ≤ nm + 1 ∧ GMap Tryd.prog w' 3 p.lm nm' (lentM (setU L x true)) := by
  obtain ⟨w', hrun, g', ht⟩ := g.store keyed3 Tryd.underlying57 (by unfold maxLen; omega) (key := .int .i64 x) (kl := .int .i64 x) (val := .agg #[]) trivial (Maps.keyOf_int_mk Tryd.underlying3 (wf_nat x hx))
  exact ⟨w', hrun, ht, _, by split <;> omega, g'.congr (lentM_set L x true _ rfl)⟩
theorem made_part (p : PB) (w2 : World) (n t : Nat) (C : Cur w2 p.cb p.wb n 0 (fun _ => false)) (e1 : p.lm = w2.heap.size) (e2 : p.gm = w2.heap.size + 1) (e3 : p.xb = w2.heap.size + 1 + 1) (l1 : p.lo ≤ p.cb) (l2 : p.lo ≤ p.wb) (e4 : p.hi = w2.heap.size + 1 + 1 + 1) :
    PartOK (((w2.alloc (.map #[] 0)).alloc (.map #[] 0)).alloc (.cells #[.pointer (some ⟨p.cb, 0, none⟩), .map (some p.lm), .map (some p.gm)] 60)).drew p n t PA.new := by
  have hc := C.head.lt
  have hw := C.wlt
  obtain ⟨xb, cb, wb, lm, gm, lo, hi⟩ := p
  simp at e1 e2 e3 e4 l1 l2 hc hw C
  subst e1 e2 e3 e4
  refine ⟨?_, ?_, ⟨0, Nat.zero_le _, ?_⟩, ⟨0, Nat.zero_le _, ?_⟩, fun x h => (by cases h), fun x u h => (by cases h), by simp; omega, by simp; omega, by simp; omega, by simp; omega, by simp; omega, by simp; omega⟩
  · have := (Has.new ((w2.alloc (.map #[] 0)).alloc (.map #[] 0)) #[.pointer (some ⟨cb, 0, none⟩), .map (some w2.heap.size), .map (some (w2.heap.size + 1))] 60).drew
    simpa using this
  · exact (C.below ((((Below.refl _ _).alloc (Nat.le_refl _) _).alloc (by simp) _).alloc (by simp; omega) _).drew).congr rfl (fun _ => rfl)
  · exact ((GMap.made Tryd.prog w2 3).of_block ((Below.heap_alloc _ _ _ (by simp <;> omega)).trans (Below.heap_alloc _ _ _ (by simp <;> omega)))).congr fun kl => by
      unfold lentM PA.new
      split <;> simp
  · have := (GMap.made Tryd.prog (w2.alloc (.map #[] 0)) 3)
    simp at this
    exact (this.of_block (Below.heap_alloc _ _ _ (by simp))).congr fun kl => by
      unfold givenM PA.new
      split <;> simp
end
end Go.Proofs.YthkadlmdjgdliaaDoor
