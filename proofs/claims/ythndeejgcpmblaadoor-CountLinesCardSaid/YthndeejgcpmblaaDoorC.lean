/- Counts in memory: New, Add, Get, Total. -/
import Derived.Test.YthndeejgcpmblaaDoorB
import Derived.Test.YthndeejgcpmblaaDoorGMapOps
namespace Go.Proofs.YthndeejgcpmblaaDoor
open Go.RowKit
set_option linter.unusedSimpArgs false
set_option linter.unusedVariables false

theorem keyed25 : Maps.Keyed Tryd.prog 25 := Maps.int_keyed Tryd.underlying25
theorem zero3 (w : World) : (zeroValue 3).run Tryd.prog w = .ok (.int .i64 0) w := by kernel_rfl
/-- Counts: block cb holds map mb; reason k was counted f k times. -/
structure Ct (w : World) (cb mb hi : Nat) (f : Nat → Nat) : Prop where
  head : Has w cb 51 #[.map (some mb)]
  map : ∃ nm M, nm ≤ hi ∧ GMap Tryd.prog w 25 mb nm M ∧ (∀ k : Nat, k < 22 → (M (.int .i64 k)).getD (.int .i64 0) = .int .i64 (f k)) ∧ ∀ kl v, M kl = some v → ∃ k : Nat, k < 22 ∧ kl = .int .i64 k
  small : ∀ k, f k ≤ hi
  ne : cb ≠ mb
theorem Ct.of_blocks {w w' : World} {cb mb hi : Nat} {f : Nat → Nat} (h : Ct w cb mb hi f) (e1 : w'.heap[cb]? = w.heap[cb]?) (e2 : w'.heap[mb]? = w.heap[mb]?) : Ct w' cb mb hi f := by
  obtain ⟨h1, ⟨nm, M, h2, g, h3⟩, h4, h5⟩ := h
  exact ⟨e1.trans h1, ⟨nm, M, h2, g.of_block e2, h3⟩, h4, h5⟩
theorem Ct.mlt {w : World} {cb mb hi : Nat} {f : Nat → Nat} (h : Ct w cb mb hi f) : mb < w.heap.size := by
  obtain ⟨h1, ⟨nm, M, h2, g, h3⟩, h4, h5⟩ := h
  exact g.lt
theorem Ct.below {w w' : World} {cb mb hi : Nat} {f : Nat → Nat} (h : Ct w cb mb hi f) (hb : Below w.heap.size w w') : Ct w' cb mb hi f :=
  h.of_blocks (hb.block cb h.head.lt) (hb.block mb h.mlt)
theorem wf_nat (x : Nat) (hx : x < 65536) : (Lit.int .i64 (x : Int)).wf = true := by
  have hmin : IntKind.i64.min = -9223372036854775808 := rfl
  have hmax : IntKind.i64.max = 9223372036854775807 := rfl
  simp only [Lit.wf, Bool.and_eq_true, decide_eq_true_eq]
  omega
theorem Ct.look {w : World} {cb mb hi : Nat} {f : Nat → Nat} (h : Ct w cb mb hi f) (k : Nat) (hk : k < 22) (v : Nat) (hv : f k = v) : (Instr.lookup 49 (.map (some mb)) (.int .i64 k) false).run Tryd.prog w = .ok (.int .i64 v) w := by
  obtain ⟨nm, M, _, g, hM, _⟩ := h.map
  have := g.look keyed25 Tryd.underlying49 zero3 (key := .int .i64 k) (kl := .int .i64 k) (Maps.keyOf_int_mk Tryd.underlying25 (wf_nat k (by omega)))
  rw [hM k hk, hv] at this
  exact this
def inc (f : Nat → Nat) (k : Nat) : Nat → Nat := fun x => if x = k then f k + 1 else f x
theorem Ct.add {w : World} {cb mb hi : Nat} {f : Nat → Nat} (h : Ct w cb mb hi f) (hh : hi < 65536) (k : Nat) (hk : k < 22) (v : Int) (hv : v = (f k : Int) + 1) :
    ∃ w', (Instr.mapUpdate 49 (.map (some mb)) (.int .i64 k) (.int .i64 v)).run Tryd.prog w = .ok () w' ∧ Ct w' cb mb (hi + 1) (inc f k) ∧ w.mapTurned w' mb := by
  obtain ⟨h1, ⟨nm, M, hn, g, hM, hK⟩, h4, h5⟩ := h
  subst hv
  obtain ⟨w', hrun, g', ht⟩ := g.store keyed25 Tryd.underlying49 (by unfold maxLen; omega) (key := .int .i64 k) (kl := .int .i64 k) (val := .int .i64 ((f k : Int) + 1)) trivial (Maps.keyOf_int_mk Tryd.underlying25 (wf_nat k (by omega)))
  refine ⟨w', hrun, ⟨(turned_block ht h5).trans h1, ⟨_, _, ?_, g', fun y hy => ?_, fun kl u hu => ?_⟩, fun y => ?_, h5⟩, ht⟩
  · split <;> omega
  · by_cases e : y = k
    · subst e; rw [putM_same]; simp [inc]
    · rw [putM_other _ _ (by simp; omega), hM y hy]; simp [inc, e]
  · by_cases e : kl = .int .i64 k
    · exact ⟨k, hk, e⟩
    · rw [putM_other _ _ e] at hu; exact hK kl u hu
  · unfold inc; have := h4 k; have := h4 y; split <;> omega

theorem new_c (w : World) : Calls Tryd.prog 13 #[] w fun e w' => e = .returned (.pointer (some ⟨w.heap.size + 1, 0, none⟩)) ∧ Ct w' (w.heap.size + 1) w.heap.size 0 (fun _ => 0) ∧ Below w.heap.size w w' := by
  have hmm := @run_makeMap Tryd.prog
  go_enter Tryd.func13, Tryd.ntmps13
  go_wp2
  go_ret
  refine ⟨by simp, ⟨by simpa using Has.new (w.alloc (.map #[] 0)) #[.map (some w.heap.size)] 51, ⟨0, _, Nat.le_refl _, (GMap.made Tryd.prog w 25).of_block (Below.heap_alloc _ _ _ (by simp)), fun k _ => rfl, fun kl v h => by cases h⟩, fun _ => Nat.le_refl _, by omega⟩, ?_⟩
  exact ((Below.refl _ _).alloc (Nat.le_refl _) _).alloc (by simp) _

theorem nameB_no {e : Int} (h : nameB e = false) : e < 0 ∨ 22 ≤ e := by unfold nameB at h; simp at h; omega
theorem add_no (cb : Nat) (e0 : Int) (h : nameB e0 = false) (w : World) : Calls Tryd.prog 14 #[.pointer (some ⟨cb, 0, none⟩), .int .i64 e0] w fun e w' => e = .returned (.bool false) ∧ Below w.heap.size w w' := by
  have H := Lib.hid h
  clear h
  go_enter Tryd.func14, Tryd.ntmps14
  go_wp2_with fail
  refine (name_c e0 w).mono ?_
  rintro e w1 ⟨rfl, hb⟩
  rw [H.out]
  go_wp2
  go_ret
  exact ⟨rfl, hb⟩
theorem add_c (cb mb hi : Nat) (f : Nat → Nat) (k : Nat) (hk : k < 22) (hh : hi < 65535) (w : World) (h : Ct w cb mb hi f) : Calls Tryd.prog 14 #[.pointer (some ⟨cb, 0, none⟩), .int .i64 k] w fun e w' => e = .returned (.bool true) ∧ Ct w' cb mb (hi + 1) (inc f k) ∧ ∀ B, B ≤ cb → B ≤ mb → Below B w w' := by
  have hl := h.head.lt
  have hm := h.mlt
  have HB : Hid (nameB k = true) := by show nameB k = true; unfold nameB; simp; omega
  have H := Lib.hid h
  have hsm := h.small k
  clear h
  go_enter Tryd.func14, Tryd.ntmps14
  go_wp2_with fail
  refine (name_c k w).mono ?_
  rintro e w1 ⟨rfl, hb⟩
  rw [HB.out]
  have H1 := H.out.below hb
  have c0 := H1.head.cell 0
  have lk := H1.look k hk _ rfl
  obtain ⟨w2, hs, C2, ht⟩ := H1.add (by omega) k hk _ rfl
  generalize f k = v at lk hs hsm
  have hC := Lib.hid C2
  clear C2 H1
  go_wp2
  go_ret
  exact ⟨rfl, hC.out, fun B b1 b2 => (hb.mono (by omega)).trans (turned_below ht b2)⟩
theorem get_c (cb mb hi : Nat) (f : Nat → Nat) (k : Nat) (hk : k < 22) (w : World) (h : Ct w cb mb hi f) : Calls Tryd.prog 15 #[.pointer (some ⟨cb, 0, none⟩), .int .i64 k] w fun e w' => e = .returned (.int .i64 (f k)) ∧ w = w' := by
  have c0 := h.head.cell 0
  have lk := h.look k hk _ rfl
  generalize f k = v at lk
  clear h
  go_enter Tryd.func15, Tryd.ntmps15
  go_wp2
  go_ret
  exact ⟨rfl, rfl⟩
end Go.Proofs.YthndeejgcpmblaaDoor
