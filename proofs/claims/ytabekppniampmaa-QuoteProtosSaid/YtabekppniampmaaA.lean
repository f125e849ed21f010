/- Contracts of quote's inner functions. -/
import Derived.Test.YtabekppniampmaaRows
import Derived.Test.YtabekppniampmaaLib
import Derived.Deep.QuietTactic
import Derived.BigQuiet
import Derived.Deep.RegionWith
namespace Go.Proofs.Ytabekppniampmaa
open Go.RowKit
set_option linter.unusedSimpArgs false
set_option linter.unusedVariables false

theorem ends_c (p s d a b : Int) (w : World) :
    Calls Try.prog 12 #[.agg #[.int .i64 p, .int .u32 s, .int .u32 d, .int .i64 a, .int .i64 b]] w fun e w' => e = .returned (.agg #[.int .u32 s, .int .u32 d, .int .i64 a, .int .i64 b]) ∧ Below w.heap.size w w' := by
  go_enter Try.func12, Try.ntmps12
  go_wp2
  exact bodyPost_ret (by simp [results, Try.results12, go_sem]) rfl ⟨rfl, ((Below.refl _ _).alloc (Nat.le_refl _) _).alloc (by simp) _⟩

theorem rev_c (p s d a b : Int) (w : World) :
    Calls Try.prog 11 #[.agg #[.int .i64 p, .int .u32 s, .int .u32 d, .int .i64 a, .int .i64 b]] w fun e w' => e = .returned (.agg #[.int .i64 p, .int .u32 d, .int .u32 s, .int .i64 b, .int .i64 a]) ∧ Below w.heap.size w w' := by
  go_enter Try.func11, Try.ntmps11
  go_wp2
  exact bodyPost_ret (by simp [results, Try.results11, go_sem]) rfl ⟨rfl, ((Below.refl _ _).alloc (Nat.le_refl _) _).alloc (by simp) _⟩

/-- A flow in a box. -/
structure Boxed (w : World) (k : Nat) (cp cs cd ca cb bp bs bd ba bb : Int) : Prop where
  c0 : w.cell? ⟨k, 0, none⟩ = some (.int .i64 cp)
  c1 : w.cell? ⟨k, 1, none⟩ = some (.int .u32 cs)
  c2 : w.cell? ⟨k, 2, none⟩ = some (.int .u32 cd)
  c3 : w.cell? ⟨k, 3, none⟩ = some (.int .i64 ca)
  c4 : w.cell? ⟨k, 4, none⟩ = some (.int .i64 cb)
  c5 : w.cell? ⟨k, 5, none⟩ = some (.int .i64 bp)
  c6 : w.cell? ⟨k, 6, none⟩ = some (.int .u32 bs)
  c7 : w.cell? ⟨k, 7, none⟩ = some (.int .u32 bd)
  c8 : w.cell? ⟨k, 8, none⟩ = some (.int .i64 ba)
  c9 : w.cell? ⟨k, 9, none⟩ = some (.int .i64 bb)

theorem p1_c (k : Nat) (cp cs cd ca cb bp bs bd ba bb : Int) (w : World) (hk : k < w.heap.size) (h : Boxed w k cp cs cd ca cb bp bs bd ba bb) :
    Calls Try.prog 14 #[.pointer (some ⟨k, 0, none⟩)] w fun e w' => e = .returned (.agg #[.int .i64 bp, .int .u32 bs, .int .u32 bd, .int .i64 ba, .int .i64 bb]) ∧ Below w.heap.size w w' := by
  obtain ⟨c0, c1, c2, c3, c4, c5, c6, c7, c8, c9⟩ := h
  go_enter Try.func14, Try.ntmps14
  go_wp2
  exact bodyPost_ret (by simp [results, Try.results14, go_sem]) rfl ⟨rfl, ((Below.refl _ _).alloc (Nat.le_refl _) _)⟩

theorem p4_c (k : Nat) (cp cs cd ca cb bp bs bd ba bb : Int) (w : World) (hk : k < w.heap.size) (h : Boxed w k cp cs cd ca cb bp bs bd ba bb) :
    Calls Try.prog 17 #[.pointer (some ⟨k, 0, none⟩)] w fun e w' => e = .returned (.agg #[.int .i64 cp, .int .u32 cs, .int .u32 cd, .int .i64 ca, .int .i64 cb]) ∧ Below w.heap.size w w' := by
  obtain ⟨c0, c1, c2, c3, c4, c5, c6, c7, c8, c9⟩ := h
  go_enter Try.func17, Try.ntmps17
  go_wp2
  exact bodyPost_ret (by simp [results, Try.results17, go_sem]) rfl ⟨rfl, ((Below.refl _ _).alloc (Nat.le_refl _) _)⟩

theorem p2_c (k : Nat) (cp cs cd ca cb bp bs bd ba bb : Int) (w : World) (hk : k < w.heap.size) (h : Boxed w k cp cs cd ca cb bp bs bd ba bb) :
    Calls Try.prog 15 #[.pointer (some ⟨k, 0, none⟩)] w fun e w' => e = .returned (.agg #[.int .i64 cp, .int .u32 cd, .int .u32 cs, .int .i64 cb, .int .i64 ca]) ∧ Below w.heap.size w w' := by
  obtain ⟨c0, c1, c2, c3, c4, c5, c6, c7, c8, c9⟩ := h
  go_enter Try.func15, Try.ntmps15
  go_wp2_with fail
  refine (rev_c _ _ _ _ _ _).mono ?_
  rintro e w1 ⟨rfl, hb⟩
  have hz := hb.size
  obtain ⟨hc, hf⟩ := bcell hb
  simp at hz hc hf
  go_wp2
  refine bodyPost_ret (by simp [results, Try.results15, go_sem, hc]) rfl ⟨rfl, ?_⟩
  have hb2 : Below w.heap.size w w1 := ((Below.refl _ _).alloc (Nat.le_refl _) _).trans (hb.mono (by simp))
  exact ((((hb2.setCell (by simp) _).setCell (by simp) _).setCell (by simp) _).setCell (by simp) _).setCell (by simp) _



theorem p3_c (k : Nat) (cp cs cd ca cb bp bs bd ba bb : Int) (w : World) (hk : k < w.heap.size) (h : Boxed w k cp cs cd ca cb bp bs bd ba bb) :
    Calls Try.prog 16 #[.pointer (some ⟨k, 0, none⟩)] w fun e w' => e = .returned (.agg #[.int .i64 bp, .int .u32 bd, .int .u32 bs, .int .i64 bb, .int .i64 ba]) ∧ Below w.heap.size w w' := by
  obtain ⟨c0, c1, c2, c3, c4, c5, c6, c7, c8, c9⟩ := h
  go_enter Try.func16, Try.ntmps16
  go_wp2_with fail
  refine (rev_c _ _ _ _ _ _).mono ?_
  rintro e w1 ⟨rfl, hb⟩
  have hz := hb.size
  obtain ⟨hc, hf⟩ := bcell hb
  simp at hz hc hf
  go_wp2
  refine bodyPost_ret (by simp [results, Try.results16, go_sem, hc]) rfl ⟨rfl, ?_⟩
  have hb2 : Below w.heap.size w w1 := ((Below.refl _ _).alloc (Nat.le_refl _) _).trans (hb.mono (by simp))
  exact ((((hb2.setCell (by simp) _).setCell (by simp) _).setCell (by simp) _).setCell (by simp) _).setCell (by simp) _



theorem Boxed.below {w w1 : World} {k : Nat} {cp cs cd ca cb bp bs bd ba bb : Int} (h : Boxed w k cp cs cd ca cb bp bs bd ba bb) (hb : Below w.heap.size w w1) (hk : k < w.heap.size) : Boxed w1 k cp cs cd ca cb bp bs bd ba bb := by
  obtain ⟨hc, _⟩ := bcell hb
  obtain ⟨c0, c1, c2, c3, c4, c5, c6, c7, c8, c9⟩ := h
  constructor <;> (rw [hc _ _ hk]; assumption)
theorem Boxed.alloc {w : World} {k : Nat} {cp cs cd ca cb bp bs bd ba bb : Int} (h : Boxed w k cp cs cd ca cb bp bs bd ba bb) (o : Obj) (hk : k < w.heap.size) : Boxed (w.alloc o) k cp cs cd ca cb bp bs bd ba bb :=
  h.below ((Below.refl _ _).alloc (Nat.le_refl _) _) hk

/-- 'pick': one of two closures. -/
theorem pick_pt (k : Nat) (cp cs cd ca cb bp bs bd ba bb : Int) (w : World) (hk : k < w.heap.size) (h : Boxed w k cp cs cd ca cb bp bs bd ba bb) :
    Calls Try.prog 13 #[.bool true, .func (.func 14) #[] #[.pointer (some ⟨k, 0, none⟩)], .func (.func 15) #[] #[.pointer (some ⟨k, 0, none⟩)]] w fun e w' => e = .returned (.agg #[.int .i64 cp, .int .u32 cd, .int .u32 cs, .int .i64 cb, .int .i64 ca]) ∧ Below w.heap.size w w' := by
  have h1 := h.alloc (.cells #[.int .i64 0, .int .u32 0, .int .u32 0, .int .i64 0, .int .i64 0] 24) hk
  clear h
  go_enter Try.func13, Try.ntmps13
  go_wp2_with fail
  refine (p2_c k cp cs cd ca cb bp bs bd ba bb _ (by simp; omega) h1).mono ?_
  rintro e w1 ⟨rfl, hb⟩
  have hz := hb.size
  obtain ⟨hc, hf⟩ := bcell hb
  simp at hz hc hf
  clear h1
  go_wp2
  refine bodyPost_ret (by simp [results, Try.results13, go_sem, hc]) rfl ⟨rfl, ?_⟩
  have hb2 : Below w.heap.size w w1 := ((Below.refl _ _).alloc (Nat.le_refl _) _).trans (hb.mono (by simp))
  exact ((((hb2.setCell (by simp) _).setCell (by simp) _).setCell (by simp) _).setCell (by simp) _).setCell (by simp) _

/-- 'pick': one of two closures. -/
theorem pick_pf (k : Nat) (cp cs cd ca cb bp bs bd ba bb : Int) (w : World) (hk : k < w.heap.size) (h : Boxed w k cp cs cd ca cb bp bs bd ba bb) :
    Calls Try.prog 13 #[.bool false, .func (.func 14) #[] #[.pointer (some ⟨k, 0, none⟩)], .func (.func 15) #[] #[.pointer (some ⟨k, 0, none⟩)]] w fun e w' => e = .returned (.agg #[.int .i64 bp, .int .u32 bs, .int .u32 bd, .int .i64 ba, .int .i64 bb]) ∧ Below w.heap.size w w' := by
  have h1 := h.alloc (.cells #[.int .i64 0, .int .u32 0, .int .u32 0, .int .i64 0, .int .i64 0] 24) hk
  clear h
  go_enter Try.func13, Try.ntmps13
  go_wp2_with fail
  refine (p1_c k cp cs cd ca cb bp bs bd ba bb _ (by simp; omega) h1).mono ?_
  rintro e w1 ⟨rfl, hb⟩
  have hz := hb.size
  obtain ⟨hc, hf⟩ := bcell hb
  simp at hz hc hf
  clear h1
  go_wp2
  refine bodyPost_ret (by simp [results, Try.results13, go_sem, hc]) rfl ⟨rfl, ?_⟩
  have hb2 : Below w.heap.size w w1 := ((Below.refl _ _).alloc (Nat.le_refl _) _).trans (hb.mono (by simp))
  exact ((((hb2.setCell (by simp) _).setCell (by simp) _).setCell (by simp) _).setCell (by simp) _).setCell (by simp) _

/-- 'pick': one of two closures. -/
theorem pick_at (k : Nat) (cp cs cd ca cb bp bs bd ba bb : Int) (w : World) (hk : k < w.heap.size) (h : Boxed w k cp cs cd ca cb bp bs bd ba bb) :
    Calls Try.prog 13 #[.bool true, .func (.func 16) #[] #[.pointer (some ⟨k, 0, none⟩)], .func (.func 17) #[] #[.pointer (some ⟨k, 0, none⟩)]] w fun e w' => e = .returned (.agg #[.int .i64 cp, .int .u32 cs, .int .u32 cd, .int .i64 ca, .int .i64 cb]) ∧ Below w.heap.size w w' := by
  have h1 := h.alloc (.cells #[.int .i64 0, .int .u32 0, .int .u32 0, .int .i64 0, .int .i64 0] 24) hk
  clear h
  go_enter Try.func13, Try.ntmps13
  go_wp2_with fail
  refine (p4_c k cp cs cd ca cb bp bs bd ba bb _ (by simp; omega) h1).mono ?_
  rintro e w1 ⟨rfl, hb⟩
  have hz := hb.size
  obtain ⟨hc, hf⟩ := bcell hb
  simp at hz hc hf
  clear h1
  go_wp2
  refine bodyPost_ret (by simp [results, Try.results13, go_sem, hc]) rfl ⟨rfl, ?_⟩
  have hb2 : Below w.heap.size w w1 := ((Below.refl _ _).alloc (Nat.le_refl _) _).trans (hb.mono (by simp))
  exact ((((hb2.setCell (by simp) _).setCell (by simp) _).setCell (by simp) _).setCell (by simp) _).setCell (by simp) _

/-- 'pick': one of two closures. -/
theorem pick_af (k : Nat) (cp cs cd ca cb bp bs bd ba bb : Int) (w : World) (hk : k < w.heap.size) (h : Boxed w k cp cs cd ca cb bp bs bd ba bb) :
    Calls Try.prog 13 #[.bool false, .func (.func 16) #[] #[.pointer (some ⟨k, 0, none⟩)], .func (.func 17) #[] #[.pointer (some ⟨k, 0, none⟩)]] w fun e w' => e = .returned (.agg #[.int .i64 bp, .int .u32 bd, .int .u32 bs, .int .i64 bb, .int .i64 ba]) ∧ Below w.heap.size w w' := by
  have h1 := h.alloc (.cells #[.int .i64 0, .int .u32 0, .int .u32 0, .int .i64 0, .int .i64 0] 24) hk
  clear h
  go_enter Try.func13, Try.ntmps13
  go_wp2_with fail
  refine (p3_c k cp cs cd ca cb bp bs bd ba bb _ (by simp; omega) h1).mono ?_
  rintro e w1 ⟨rfl, hb⟩
  have hz := hb.size
  obtain ⟨hc, hf⟩ := bcell hb
  simp at hz hc hf
  clear h1
  go_wp2
  refine bodyPost_ret (by simp [results, Try.results13, go_sem, hc]) rfl ⟨rfl, ?_⟩
  have hb2 : Below w.heap.size w w1 := ((Below.refl _ _).alloc (Nat.le_refl _) _).trans (hb.mono (by simp))
  exact ((((hb2.setCell (by simp) _).setCell (by simp) _).setCell (by simp) _).setCell (by simp) _).setCell (by simp) _
end Go.Proofs.Ytabekppniampmaa
