/- The heap of free handles where it holds none or one. -/
import Derived.Test.YtckbffbjdcnklaaTwBase
namespace Go.Proofs.Ytckbffbjdcnklaa
open Go.RowKit
set_option linter.unusedSimpArgs false
set_option linter.unusedVariables false

theorem own_zero {w : World} {base : Nat} {e : TypeId} {s n : Nat} {v : Value} {xs : List Value} (h : w.ownsRow base e s v n xs) : w.ownsRow 0 e s v n xs := by
  refine ⟨h.1, ?_⟩
  rcases h.2 with q | ⟨g, cap, cur, h1, hg, h2⟩
  · exact .inl q
  · exact .inr ⟨g, cap, cur, h1, Nat.zero_le _, h2⟩
theorem info3 : (Try.prog.info? 3).map (fun i => (i.zero, i.size, i.bytes)) = some (some (.int .i64 0), 1, 8) := by kernel_rfl
set_option maxRecDepth 100000 in
set_option maxHeartbeats 1600000 in
theorem push_c (TT : TypeId) (tb n : Nat) (a0 a1 a3 a4 : Value) (w : World) (h : Has w tb TT #[a0, a1, .slice none 0 0, a3, a4]) :
    Calls Try.prog 39 #[.pointer (some ⟨tb, 2, none⟩), .int .i64 n] w fun e w' => ∃ f capf, e = .returned (.tuple #[]) ∧ Has w' tb TT #[a0, a1, .slice (some ⟨f, 0, none⟩) 1 capf, a3, a4] ∧ w'.ownsRow w.heap.size 3 1 (.slice (some ⟨f, 0, none⟩) 1 capf) 1 [.int .i64 n] ∧ w.heap.size ≤ f ∧ Chg (fun b => b = tb) w w' := by
  have c2 := h.cell 2
  have f2 := h.free 2
  have htl := h.lt
  have own : w.ownsRow w.heap.size 3 1 (.slice none 0 0) 0 [] := ⟨rfl, .inl ⟨rfl, rfl⟩⟩
  obtain ⟨i0, hi0, hz0, hs0, hb0⟩ := info_parts info3
  have H := Lib.hid h
  simp at c2
  clear h
  go_enter Try.func39, Try.ntmps39
  go_wp2_with (at_builtin; go_loud (refine wpList_append_lies _ rfl _ _ 77 rfl w.heap.size 3 i0 _ 1 8 Try.underlying77 hi0 hz0 hs0 hb0 rfl (by decide) _ _ _ rfl (own.alloc _) ⟨w.heap.size, 0, none⟩ 1 1 [.int .i64 n] rfl rfl (cell_one_new _ _ _) (by simp [Value.oneCell']) (by omega) (by unfold maxLen; omega) (by omega) (by simp) (w.heap.size + 1) (by simp) ?_))
  intro f capf w5 own5 grow5 hat5 hlt5
  have hf : f = w.heap.size + 1 := by
    rcases hat5 with q | q
    · cases q
    · exact q
  subst hf
  have C5 : Chg (fun b => b = tb) w w5 := ((Chg.refl _ w).alloc _).trans (Chg.grown grow5 (fun k e => by cases e))
  have head5 : Has w5 tb TT #[a0, a1, .slice none 0 0, a3, a4] := by
    have e1 : w5.heap[tb]? = (w.alloc (.cells #[.int .i64 n] 3)).heap[tb]? := grow5.block tb (by simp; omega) (by simp [Value.ownBlock])
    exact (e1.trans (Below.heap_alloc _ _ _ htl)).trans H.out
  have k2 := head5.cell 2
  have g2 := head5.free 2
  simp at k2
  have own6 : (w5.setCell ⟨tb, 2, none⟩ (.slice (some ⟨w.heap.size + 1, 0, none⟩) 1 capf)).ownsRow w.heap.size 3 1 (.slice (some ⟨w.heap.size + 1, 0, none⟩) 1 capf) 1 [.int .i64 n] := by
    rcases own5.2 with ⟨q, _⟩ | ⟨g, cp, cur, e, hg, hh, rest⟩
    · simp at q
    · cases e
      exact ⟨own5.1, .inr ⟨w.heap.size + 1, capf, cur, rfl, hg, (Below.heap_setCell _ _ _ _ (by show w.heap.size + 1 ≠ tb; omega)).trans hh, rest⟩⟩
  have head6 := Has.set head5 2 (.slice (some ⟨w.heap.size + 1, 0, none⟩) 1 capf)
  have FIN := Lib.hid (And.intro head6 (And.intro own6 (C5.set (rfl : tb = tb) 2 (.slice (some ⟨w.heap.size + 1, 0, none⟩) 1 capf))))
  clear own5 grow5 hat5 C5 head5 own6 head6 own
  obtain ⟨w6, hw6⟩ : ∃ w6, w6 = w5.setCell ⟨tb, 2, none⟩ (.slice (some ⟨w.heap.size + 1, 0, none⟩) 1 capf) := ⟨_, rfl⟩
  rw [← hw6] at FIN
  have HW := Lib.hid hw6
  go_wp2_with fail
  rw [← HW.out]
  clear hw6 HW
  go_loopw [5] (fun i wr => i = .int .i64 0 ∧ wr = w6) (fun _ _ => 0)
  case atStart => exact ⟨rfl, rfl⟩
  case round =>
    obtain ⟨rfl, rfl⟩ := hrel
    go_wp2_with fail
    go_quiet (fail)
    go_wp2
    go_end0
    exact ⟨_, _, rfl, FIN.out.1, FIN.out.2.1, by omega, FIN.out.2.2.dr _⟩
set_option maxRecDepth 100000 in
set_option maxHeartbeats 1600000 in
theorem pop_c (TT : TypeId) (tb n f capf base : Nat) (a0 a1 a3 a4 : Value) (w : World) (h : Has w tb TT #[a0, a1, .slice (some ⟨f, 0, none⟩) 1 capf, a3, a4]) (own : w.ownsRow base 3 1 (.slice (some ⟨f, 0, none⟩) 1 capf) 1 [.int .i64 n]) (hf : f ≠ tb) :
    Calls Try.prog 37 #[.pointer (some ⟨tb, 2, none⟩)] w fun e w' => e = .returned (.int .i64 n) ∧ Has w' tb TT #[a0, a1, .slice (some ⟨f, 0, none⟩) 0 capf, a3, a4] ∧ Chg (fun b => b = tb ∨ b = f) w w' := by
  have c2 := h.cell 2
  have f2 := h.free 2
  have k0 := own.cells (g := f) rfl 0 _ rfl
  rw [add_none] at k0
  obtain ⟨cur, hcur⟩ : ∃ cur, Has w f 3 cur := by
    rcases own.2 with ⟨q, _⟩ | ⟨g, cp, cur, e, hg, hh, rest⟩
    · simp at q
    · cases e
      exact ⟨cur, hh⟩
  have hcap : 1 ≤ capf := by
    rcases own.2 with ⟨q, _⟩ | ⟨g, cp, cur, e, hg, hh, hn, rest⟩
    · simp at q
    · cases e
      exact hn
  have g0 := hcur.free 0
  have FIN : Hid (∀ q, Has (((w.setCell ⟨f, 0, none⟩ (.int .i64 n)).drewN q).setCell ⟨tb, 2, none⟩ (.slice (some ⟨f, 0, none⟩) 0 capf)) tb TT #[a0, a1, .slice (some ⟨f, 0, none⟩) 0 capf, a3, a4] ∧ Chg (fun b => b = tb ∨ b = f) w (((w.setCell ⟨f, 0, none⟩ (.int .i64 n)).drewN q).setCell ⟨tb, 2, none⟩ (.slice (some ⟨f, 0, none⟩) 0 capf))) := fun q =>
    And.intro (Has.set (w := (w.setCell ⟨f, 0, none⟩ (.int .i64 n)).drewN q) (h.setOther 0 (Ne.symm hf) (.int .i64 n)) 2 (.slice (some ⟨f, 0, none⟩) 0 capf)) ((((Chg.refl (fun b => b = tb ∨ b = f) w).set (.inr rfl) 0 (.int .i64 n)).dr q).set (.inl rfl) 2 (.slice (some ⟨f, 0, none⟩) 0 capf))
  have c2b : (w.setCell ⟨f, 0, none⟩ (.int .i64 n)).cell? ⟨tb, 2, none⟩ = _ := (h.setOther 0 (Ne.symm hf) (.int .i64 n)).cell 2
  have f2b : (w.setCell ⟨f, 0, none⟩ (.int .i64 n)).frozen? ⟨tb, 2, none⟩ = _ := (h.setOther 0 (Ne.symm hf) (.int .i64 n)).free 2
  simp at c2 k0 c2b
  have hci : (1 : Int) ≤ (capf : Int) := by omega
  clear h own hcur
  go_enter Try.func37, Try.ntmps37
  go_wp2_with fail
  obtain ⟨w6, hw6⟩ : ∃ w6, w6 = w.setCell ⟨f, 0, none⟩ (.int .i64 n) := ⟨_, rfl⟩
  rw [← hw6] at FIN c2b f2b ⊢
  clear hw6
  go_loopw [5] (fun i wr => i = .int .i64 0 ∧ wr = w6) (fun _ _ => 0)
  case atStart => exact ⟨rfl, rfl⟩
  case round =>
    obtain ⟨rfl, rfl⟩ := hrel
    go_wp2_with fail
    go_quiet (fail)
    go_wp2_with fail
    go_quiet (fail)
    go_wp2
    go_ret
    exact ⟨rfl, FIN.out _⟩
end Go.Proofs.Ytckbffbjdcnklaa
