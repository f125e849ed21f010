/- A table in memory (instance P): Put onto a full table. -/
import Derived.Test.YtckbffbjdcnklaaPTw3
namespace Go.Proofs.Ytckbffbjdcnklaa.P
open Go.RowKit
set_option linter.unusedSimpArgs false
set_option linter.unusedVariables false
section
variable {w0 : Base} {w w' : World} {tb g cap am bm room m cnt : Nat} {R : Nat → Option Row} {fa : ByteArray → Option Nat} {fb : Int → Option Nat} {fr : Value}
set_option maxRecDepth 100000 in
set_option maxHeartbeats 1600000 in
theorem put_full (h : TS w0 w tb g cap am bm room m cnt R fa fb fr) (a : ByteArray) (b : Int) (v : ByteArray) (ha : okA a) (hb : okB b) (h1 : fa a = none) (h2 : fb b = none) (hc : cnt = room) :
    Calls Try.prog 34 #[.pointer (some ⟨tb, 0, none⟩), vA a, vB b, vV v] w fun e w' => e = .returned (.tuple #[.int .i64 0, .int .i64 16]) ∧ TS w0 w' tb g cap am bm room m cnt R fa fb fr := by
  subst hc
  have c0 := h.head.cell 0
  have c3 := h.head.cell 3
  have c4 := h.head.cell 4
  have la := h.lookA ha
  have lb := h.lookB hb
  rw [h1] at la
  rw [h2] at lb
  simp at c0 c3 c4 la lb
  have hl := fun W hW => len_c (w := W) (h.grow (w' := W) hW)
  have HL := Lib.hid hl
  have HS := Lib.hid h
  unfold vA vB vV at *
  clear h hl
  go_enter Try.func34, Try.ntmps34
  go_wp2_with fail
  go_quiet ((go_at_call 32; exact Calls.quiet_of_same ((HL.out _ (bel_dr (Below.refl _ _) _)).mono (fun _ _ q => And.intro q.1 q.2.symm))))
  go_wp2
  go_ret2
  exact ⟨rfl, HS.out.grow (bel_dr (Below.refl _ _) _)⟩
end
end Go.Proofs.Ytckbffbjdcnklaa.P
