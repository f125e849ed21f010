/- Contracts of quote.Name; the walk of QuoteBack. -/
import Derived.Test.YtabekppniampmaaC
import Derived.Deep.RegionHeld3
namespace Go.Proofs.Ytabekppniampmaa
open Go.RowKit
set_option linter.unusedSimpArgs false
set_option linter.unusedVariables false

set_option maxHeartbeats 400000 in
theorem name_same (kd at1 to1 p s d a b fl tl sr ds qt nn : Int) (back : Bool) (h : (!back == (kd == 2)) = false) (w : World) :
    Calls Try.prog 10 #[.agg #[.int .i64 kd, .int .i64 at1, .int .i64 to1, .int .i64 p, .int .u32 s, .int .u32 d, .int .i64 a, .int .i64 b, .int .i64 fl, .int .i64 tl, .int .u32 sr, .int .u32 ds, .int .i64 qt, .int .i64 nn], .bool back] w fun e w' => e = .returned (.agg #[.int .i64 p, .int .u32 s, .int .u32 d, .int .i64 a, .int .i64 b]) ∧ Below w.heap.size w w' := by
  go_enter Try.func10, Try.ntmps10
  go_wp2
  exact bodyPost_ret (by simp [results, Try.results10, go_sem]) rfl ⟨rfl, (((Below.refl _ _).alloc (Nat.le_refl _) _).alloc (by simp) _).alloc (by simp; omega) _⟩

set_option maxHeartbeats 400000 in
theorem name_rev (kd at1 to1 p s d a b fl tl sr ds qt nn : Int) (back : Bool) (h : (!back == (kd == 2)) = true) (w : World) :
    Calls Try.prog 10 #[.agg #[.int .i64 kd, .int .i64 at1, .int .i64 to1, .int .i64 p, .int .u32 s, .int .u32 d, .int .i64 a, .int .i64 b, .int .i64 fl, .int .i64 tl, .int .u32 sr, .int .u32 ds, .int .i64 qt, .int .i64 nn], .bool back] w fun e w' => e = .returned (.agg #[.int .i64 p, .int .u32 d, .int .u32 s, .int .i64 b, .int .i64 a]) ∧ Below w.heap.size w w' := by
  have B0 := (Has.new (w.alloc (.cells #[.int .i64 kd, .int .i64 at1, .int .i64 to1, .int .i64 p, .int .u32 s, .int .u32 d, .int .i64 a, .int .i64 b, .int .i64 fl, .int .i64 tl, .int .u32 sr, .int .u32 ds, .int .i64 qt, .int .i64 nn] 37)) #[.int .i64 0, .int .u32 0, .int .u32 0, .int .i64 0, .int .i64 0] 24).alloc (.cells #[.int .i64 p, .int .u32 s, .int .u32 d, .int .i64 a, .int .i64 b] 24)
  have C0 := Has.new ((w.alloc (.cells #[.int .i64 kd, .int .i64 at1, .int .i64 to1, .int .i64 p, .int .u32 s, .int .u32 d, .int .i64 a, .int .i64 b, .int .i64 fl, .int .i64 tl, .int .u32 sr, .int .u32 ds, .int .i64 qt, .int .i64 nn] 37)).alloc (.cells #[.int .i64 0, .int .u32 0, .int .u32 0, .int .i64 0, .int .i64 0] 24)) #[.int .i64 p, .int .u32 s, .int .u32 d, .int .i64 a, .int .i64 b] 24
  go_enter Try.func10, Try.ntmps10
  go_wp2_with fail
  refine (rev_c _ _ _ _ _ _).mono ?_
  rintro e w1 ⟨rfl, hb⟩
  have hb1 : Below w.heap.size w w1 := ((((Below.refl _ _).alloc (Nat.le_refl _) _).alloc (by simp) _).alloc (by simp; omega) _).trans (hb.mono (by simp; omega))
  have B1 := B0.below hb
  have C1 := C0.below hb
  simp at B1 C1
  have cb := B1.cell
  have cc := C1.cell
  have fb := B1.free
  have fc := C1.free
  clear B0 C0 B1 C1 hb
  go_wp2
  refine bodyPost_ret (by simp [results, Try.results10, go_sem, cb, cc]) rfl ⟨rfl, ?_⟩
  exact (((((((((hb1.setCell (by simp; omega) _).setCell (by simp; omega) _).setCell (by simp; omega) _).setCell (by simp; omega) _).setCell (by simp; omega) _).setCell (by simp) _).setCell (by simp) _).setCell (by simp) _).setCell (by simp) _).setCell (by simp) _


set_option maxRecDepth 100000 in
set_option maxHeartbeats 3200000 in
theorem back_c (cp cs cd ca cb bp bs bd ba bb sv be st : Int) (dsr : Bool) (w : World) :
    Calls Try.prog 4 #[flow cp cs cd ca cb bp bs bd ba bb sv be st dsr] w fun e w' => e = .returned (.bool true) ∧ Below w.heap.size w w' := by
  have A0 := Has.new w #[.int .i64 cp, .int .u32 cs, .int .u32 cd, .int .i64 ca, .int .i64 cb, .int .i64 bp, .int .u32 bs, .int .u32 bd, .int .i64 ba, .int .i64 bb, .int .i64 sv, .int .i64 be, .int .i64 st, .bool dsr] 26
  unfold flow
  go_enter Try.func4, Try.ntmps4
  go_wp2_with fail
  refine (examples_c _).mono ?_
  rintro e w1 ⟨rfl, hb⟩
  have hb1 : Below w.heap.size w w1 := ((Below.refl _ _).alloc (Nat.le_refl _) _).trans (hb.mono (by simp))
  have A1 := A0.below hb
  clear A0 hb
  have c1 := A1.cell
  have f1 := A1.free
  have A2 := A1.set 5 (.int .i64 cp)
  simp only [Array.setIfInBounds, List.size_toArray, List.length_cons, List.length_nil, Nat.reduceAdd, Nat.reduceLT, ↓reduceDIte, List.set_toArray, List.set_cons_succ, List.set_cons_zero] at A2
  have l1 := A1.lt
  clear A1
  go_wp2_with fail
  refine (plain_f cp cs cd ca cb cp bs bd ba bb sv be st dsr _).mono ?_
  rintro e w2 ⟨rfl, hb⟩
  have hb2 : Below w.heap.size w w2 := (hb1.setCell (by simp) _).trans (hb.mono (by simpa [World.setCell] using hb1.size))
  have A3 := A2.below hb
  clear A2 hb hb1 c1 f1 l1
  have c3 := A3.cell
  have l3 := A3.lt
  have B3 := Has.new w2 #[.int .u32 bs, .int .u32 bd, .int .i64 ba, .int .i64 bb] 29
  go_wp2_with fail
  refine (tuple_c _ _ _ _ _ _).mono ?_
  rintro e w3 ⟨rfl, hb⟩
  have hb3 : Below w.heap.size w w3 := (hb2.alloc hb2.size _).trans (hb.mono (by simp; omega))
  have A4 := (A3.alloc _).below hb
  have C4 := Has.new w3 #[.int .i64 cp, .int .u32 bs, .int .u32 bd, .int .i64 ba, .int .i64 bb] 24
  clear A3 B3 hb hb2 c3 l3
  have c4 := A4.cell
  have l4 := A4.lt
  go_wp2_with fail
  refine (plain_t cp cs cd ca cb cp bs bd ba bb sv be st dsr _).mono ?_
  rintro e w4 ⟨rfl, hb⟩
  have hb4 : Below w.heap.size w w4 := (hb3.alloc hb3.size _).trans (hb.mono (by simp; omega))
  have A5 := (A4.alloc _).below hb
  have C5 := C4.below hb
  clear A4 C4 hb hb3 c4 l4
  have c5 := A5.cell
  have l5 := A5.lt
  go_wp2_with fail
  refine (tuple_c _ _ _ _ _ _).mono ?_
  rintro e w5 ⟨rfl, hb⟩
  have hb5 : Below w.heap.size w w5 := (hb4.alloc hb4.size _).trans (hb.mono (by simp; omega))
  have A6 := ((A5.alloc _).below hb).alloc (.cells #[.int .i64 cp, .int .u32 cd, .int .u32 cs, .int .i64 cb, .int .i64 ca] 24)
  have C6 := ((C5.alloc _).below hb).alloc (.cells #[.int .i64 cp, .int .u32 cd, .int .u32 cs, .int .i64 cb, .int .i64 ca] 24)
  have D6 := Has.new w5 #[.int .i64 cp, .int .u32 cd, .int .u32 cs, .int .i64 cb, .int .i64 ca] 24
  have hb6 := hb5.alloc hb5.size (.cells #[.int .i64 cp, .int .u32 cd, .int .u32 cs, .int .i64 cb, .int .i64 ca] 24)
  clear A5 C5 hb hb4 c5 l5 hb5
  go_wp2_with fail
  obtain ⟨w6, hw6⟩ : ∃ w6, w6 = w5.alloc (.cells #[.int .i64 cp, .int .u32 cd, .int .u32 cs, .int .i64 cb, .int .i64 ca] 24) := ⟨_, rfl⟩
  rw [← hw6] at A6 C6 D6 hb6 ⊢
  clear hw6
  have HS : Hid (∀ W : World, Below w6.heap.size w6 W → W.cell? ⟨w.heap.size, 0, none⟩ = some (.int .i64 cp) ∧ W.cell? ⟨w.heap.size, 1, none⟩ = some (.int .u32 cs) ∧ W.cell? ⟨w.heap.size, 2, none⟩ = some (.int .u32 cd) ∧ W.cell? ⟨w.heap.size, 3, none⟩ = some (.int .i64 ca) ∧ W.cell? ⟨w.heap.size, 4, none⟩ = some (.int .i64 cb) ∧ W.cell? ⟨w.heap.size, 5, none⟩ = some (.int .i64 cp) ∧ W.cell? ⟨w.heap.size, 6, none⟩ = some (.int .u32 bs) ∧ W.cell? ⟨w.heap.size, 7, none⟩ = some (.int .u32 bd) ∧ W.cell? ⟨w.heap.size, 8, none⟩ = some (.int .i64 ba) ∧ W.cell? ⟨w.heap.size, 9, none⟩ = some (.int .i64 bb) ∧ W.cell? ⟨w3.heap.size, 0, none⟩ = some (.int .i64 cp) ∧ W.cell? ⟨w3.heap.size, 1, none⟩ = some (.int .u32 bs) ∧ W.cell? ⟨w3.heap.size, 2, none⟩ = some (.int .u32 bd) ∧ W.cell? ⟨w3.heap.size, 3, none⟩ = some (.int .i64 ba) ∧ W.cell? ⟨w3.heap.size, 4, none⟩ = some (.int .i64 bb) ∧ W.cell? ⟨w5.heap.size, 0, none⟩ = some (.int .i64 cp) ∧ W.cell? ⟨w5.heap.size, 1, none⟩ = some (.int .u32 cd) ∧ W.cell? ⟨w5.heap.size, 2, none⟩ = some (.int .u32 cs) ∧ W.cell? ⟨w5.heap.size, 3, none⟩ = some (.int .i64 cb) ∧ W.cell? ⟨w5.heap.size, 4, none⟩ = some (.int .i64 ca) ∧ Below w6.heap.size w6 W) := fun W q => ⟨(A6.below q).cell 0, (A6.below q).cell 1, (A6.below q).cell 2, (A6.below q).cell 3, (A6.below q).cell 4, (A6.below q).cell 5, (A6.below q).cell 6, (A6.below q).cell 7, (A6.below q).cell 8, (A6.below q).cell 9, (C6.below q).cell 0, (C6.below q).cell 1, (C6.below q).cell 2, (C6.below q).cell 3, (C6.below q).cell 4, (D6.below q).cell 0, (D6.below q).cell 1, (D6.below q).cell 2, (D6.below q).cell 3, (D6.below q).cell 4, q⟩
  go_wp2_with fail
  go_region_held3 (fun W => W.cell? ⟨w.heap.size, 0, none⟩ = some (.int .i64 cp) ∧ W.cell? ⟨w.heap.size, 1, none⟩ = some (.int .u32 cs) ∧ W.cell? ⟨w.heap.size, 2, none⟩ = some (.int .u32 cd) ∧ W.cell? ⟨w.heap.size, 3, none⟩ = some (.int .i64 ca) ∧ W.cell? ⟨w.heap.size, 4, none⟩ = some (.int .i64 cb) ∧ W.cell? ⟨w.heap.size, 5, none⟩ = some (.int .i64 cp) ∧ W.cell? ⟨w.heap.size, 6, none⟩ = some (.int .u32 bs) ∧ W.cell? ⟨w.heap.size, 7, none⟩ = some (.int .u32 bd) ∧ W.cell? ⟨w.heap.size, 8, none⟩ = some (.int .i64 ba) ∧ W.cell? ⟨w.heap.size, 9, none⟩ = some (.int .i64 bb) ∧ W.cell? ⟨w3.heap.size, 0, none⟩ = some (.int .i64 cp) ∧ W.cell? ⟨w3.heap.size, 1, none⟩ = some (.int .u32 bs) ∧ W.cell? ⟨w3.heap.size, 2, none⟩ = some (.int .u32 bd) ∧ W.cell? ⟨w3.heap.size, 3, none⟩ = some (.int .i64 ba) ∧ W.cell? ⟨w3.heap.size, 4, none⟩ = some (.int .i64 bb) ∧ W.cell? ⟨w5.heap.size, 0, none⟩ = some (.int .i64 cp) ∧ W.cell? ⟨w5.heap.size, 1, none⟩ = some (.int .u32 cd) ∧ W.cell? ⟨w5.heap.size, 2, none⟩ = some (.int .u32 cs) ∧ W.cell? ⟨w5.heap.size, 3, none⟩ = some (.int .i64 cb) ∧ W.cell? ⟨w5.heap.size, 4, none⟩ = some (.int .i64 ca) ∧ Below w6.heap.size w6 W) (first | exact HS.out _ (Below.drew (Below.refl _ _)) | exact HS.out _ (Below.trans (Below.drew (Below.refl _ _)) hN))
    (first | (go_at_call 10; refine (name_same _ _ _ _ _ _ _ _ _ _ _ _ _ _ _ (by rfl) _).mono ?_; rintro e wN ⟨rfl, hN⟩))
  have q : Below w6.heap.size w6 wN := Below.trans (Below.drew (Below.refl _ _)) hN
  rename_i hx
  obtain ⟨w7, hw⟩ : ∃ x, x = wN := ⟨_, rfl⟩
  have A7 := A6.below q
  have C7 := C6.below q
  have D7 := D6.below q
  have hb7 := hb6.trans (q.mono hb6.size)
  clear hx HS q A6 C6 D6 hb6 hN 
  subst hw
  have A6 := A7
  have C6 := C7
  have D6 := D7
  have hb6 := hb7
  clear A7 C7 D7 hb7
  have HS : Hid (∀ W : World, Below w7.heap.size w7 W → W.cell? ⟨w.heap.size, 0, none⟩ = some (.int .i64 cp) ∧ W.cell? ⟨w.heap.size, 1, none⟩ = some (.int .u32 cs) ∧ W.cell? ⟨w.heap.size, 2, none⟩ = some (.int .u32 cd) ∧ W.cell? ⟨w.heap.size, 3, none⟩ = some (.int .i64 ca) ∧ W.cell? ⟨w.heap.size, 4, none⟩ = some (.int .i64 cb) ∧ W.cell? ⟨w.heap.size, 5, none⟩ = some (.int .i64 cp) ∧ W.cell? ⟨w.heap.size, 6, none⟩ = some (.int .u32 bs) ∧ W.cell? ⟨w.heap.size, 7, none⟩ = some (.int .u32 bd) ∧ W.cell? ⟨w.heap.size, 8, none⟩ = some (.int .i64 ba) ∧ W.cell? ⟨w.heap.size, 9, none⟩ = some (.int .i64 bb) ∧ W.cell? ⟨w3.heap.size, 0, none⟩ = some (.int .i64 cp) ∧ W.cell? ⟨w3.heap.size, 1, none⟩ = some (.int .u32 bs) ∧ W.cell? ⟨w3.heap.size, 2, none⟩ = some (.int .u32 bd) ∧ W.cell? ⟨w3.heap.size, 3, none⟩ = some (.int .i64 ba) ∧ W.cell? ⟨w3.heap.size, 4, none⟩ = some (.int .i64 bb) ∧ W.cell? ⟨w5.heap.size, 0, none⟩ = some (.int .i64 cp) ∧ W.cell? ⟨w5.heap.size, 1, none⟩ = some (.int .u32 cd) ∧ W.cell? ⟨w5.heap.size, 2, none⟩ = some (.int .u32 cs) ∧ W.cell? ⟨w5.heap.size, 3, none⟩ = some (.int .i64 cb) ∧ W.cell? ⟨w5.heap.size, 4, none⟩ = some (.int .i64 ca) ∧ Below w7.heap.size w7 W) := fun W q => ⟨(A6.below q).cell 0, (A6.below q).cell 1, (A6.below q).cell 2, (A6.below q).cell 3, (A6.below q).cell 4, (A6.below q).cell 5, (A6.below q).cell 6, (A6.below q).cell 7, (A6.below q).cell 8, (A6.below q).cell 9, (C6.below q).cell 0, (C6.below q).cell 1, (C6.below q).cell 2, (C6.below q).cell 3, (C6.below q).cell 4, (D6.below q).cell 0, (D6.below q).cell 1, (D6.below q).cell 2, (D6.below q).cell 3, (D6.below q).cell 4, q⟩
  go_wp2_with fail
  go_region_held3 (fun W => W.cell? ⟨w.heap.size, 0, none⟩ = some (.int .i64 cp) ∧ W.cell? ⟨w.heap.size, 1, none⟩ = some (.int .u32 cs) ∧ W.cell? ⟨w.heap.size, 2, none⟩ = some (.int .u32 cd) ∧ W.cell? ⟨w.heap.size, 3, none⟩ = some (.int .i64 ca) ∧ W.cell? ⟨w.heap.size, 4, none⟩ = some (.int .i64 cb) ∧ W.cell? ⟨w.heap.size, 5, none⟩ = some (.int .i64 cp) ∧ W.cell? ⟨w.heap.size, 6, none⟩ = some (.int .u32 bs) ∧ W.cell? ⟨w.heap.size, 7, none⟩ = some (.int .u32 bd) ∧ W.cell? ⟨w.heap.size, 8, none⟩ = some (.int .i64 ba) ∧ W.cell? ⟨w.heap.size, 9, none⟩ = some (.int .i64 bb) ∧ W.cell? ⟨w3.heap.size, 0, none⟩ = some (.int .i64 cp) ∧ W.cell? ⟨w3.heap.size, 1, none⟩ = some (.int .u32 bs) ∧ W.cell? ⟨w3.heap.size, 2, none⟩ = some (.int .u32 bd) ∧ W.cell? ⟨w3.heap.size, 3, none⟩ = some (.int .i64 ba) ∧ W.cell? ⟨w3.heap.size, 4, none⟩ = some (.int .i64 bb) ∧ W.cell? ⟨w5.heap.size, 0, none⟩ = some (.int .i64 cp) ∧ W.cell? ⟨w5.heap.size, 1, none⟩ = some (.int .u32 cd) ∧ W.cell? ⟨w5.heap.size, 2, none⟩ = some (.int .u32 cs) ∧ W.cell? ⟨w5.heap.size, 3, none⟩ = some (.int .i64 cb) ∧ W.cell? ⟨w5.heap.size, 4, none⟩ = some (.int .i64 ca) ∧ Below w7.heap.size w7 W) (first | exact HS.out _ (Below.drew (Below.refl _ _)) | exact HS.out _ (Below.trans (Below.drew (Below.refl _ _)) hr) | exact HS.out _ (Below.trans (Below.trans (Below.drew (Below.refl _ _)) hr) (hN.mono hr.size)))
    (first | (go_at_call 11; refine (rev_c _ _ _ _ _ _).mono ?_; rintro e wR ⟨rfl, hR⟩; have hr : Below w7.heap.size w7.drew wR := hR; clear hR) | (go_at_call 10; refine (name_rev _ _ _ _ _ _ _ _ _ _ _ _ _ _ _ (by rfl) _).mono ?_; rintro e wN ⟨rfl, hN⟩))
  have q : Below w7.heap.size w7 wN := Below.trans (Below.trans (Below.drew (Below.refl _ _)) hr) (hN.mono hr.size)
  rename_i hx
  obtain ⟨w8, hw⟩ : ∃ x, x = wN := ⟨_, rfl⟩
  have A7 := A6.below q
  have C7 := C6.below q
  have D7 := D6.below q
  have hb7 := hb6.trans (q.mono hb6.size)
  clear hx HS q A6 C6 D6 hb6 hN hr
  subst hw
  have A6 := A7
  have C6 := C7
  have D6 := D7
  have hb6 := hb7
  clear A7 C7 D7 hb7
  have HS : Hid (∀ W : World, Below w8.heap.size w8 W → W.cell? ⟨w.heap.size, 0, none⟩ = some (.int .i64 cp) ∧ W.cell? ⟨w.heap.size, 1, none⟩ = some (.int .u32 cs) ∧ W.cell? ⟨w.heap.size, 2, none⟩ = some (.int .u32 cd) ∧ W.cell? ⟨w.heap.size, 3, none⟩ = some (.int .i64 ca) ∧ W.cell? ⟨w.heap.size, 4, none⟩ = some (.int .i64 cb) ∧ W.cell? ⟨w.heap.size, 5, none⟩ = some (.int .i64 cp) ∧ W.cell? ⟨w.heap.size, 6, none⟩ = some (.int .u32 bs) ∧ W.cell? ⟨w.heap.size, 7, none⟩ = some (.int .u32 bd) ∧ W.cell? ⟨w.heap.size, 8, none⟩ = some (.int .i64 ba) ∧ W.cell? ⟨w.heap.size, 9, none⟩ = some (.int .i64 bb) ∧ W.cell? ⟨w3.heap.size, 0, none⟩ = some (.int .i64 cp) ∧ W.cell? ⟨w3.heap.size, 1, none⟩ = some (.int .u32 bs) ∧ W.cell? ⟨w3.heap.size, 2, none⟩ = some (.int .u32 bd) ∧ W.cell? ⟨w3.heap.size, 3, none⟩ = some (.int .i64 ba) ∧ W.cell? ⟨w3.heap.size, 4, none⟩ = some (.int .i64 bb) ∧ W.cell? ⟨w5.heap.size, 0, none⟩ = some (.int .i64 cp) ∧ W.cell? ⟨w5.heap.size, 1, none⟩ = some (.int .u32 cd) ∧ W.cell? ⟨w5.heap.size, 2, none⟩ = some (.int .u32 cs) ∧ W.cell? ⟨w5.heap.size, 3, none⟩ = some (.int .i64 cb) ∧ W.cell? ⟨w5.heap.size, 4, none⟩ = some (.int .i64 ca) ∧ Below w8.heap.size w8 W) := fun W q => ⟨(A6.below q).cell 0, (A6.below q).cell 1, (A6.below q).cell 2, (A6.below q).cell 3, (A6.below q).cell 4, (A6.below q).cell 5, (A6.below q).cell 6, (A6.below q).cell 7, (A6.below q).cell 8, (A6.below q).cell 9, (C6.below q).cell 0, (C6.below q).cell 1, (C6.below q).cell 2, (C6.below q).cell 3, (C6.below q).cell 4, (D6.below q).cell 0, (D6.below q).cell 1, (D6.below q).cell 2, (D6.below q).cell 3, (D6.below q).cell 4, q⟩
  go_wp2_with fail
  go_region_held3 (fun W => W.cell? ⟨w.heap.size, 0, none⟩ = some (.int .i64 cp) ∧ W.cell? ⟨w.heap.size, 1, none⟩ = some (.int .u32 cs) ∧ W.cell? ⟨w.heap.size, 2, none⟩ = some (.int .u32 cd) ∧ W.cell? ⟨w.heap.size, 3, none⟩ = some (.int .i64 ca) ∧ W.cell? ⟨w.heap.size, 4, none⟩ = some (.int .i64 cb) ∧ W.cell? ⟨w.heap.size, 5, none⟩ = some (.int .i64 cp) ∧ W.cell? ⟨w.heap.size, 6, none⟩ = some (.int .u32 bs) ∧ W.cell? ⟨w.heap.size, 7, none⟩ = some (.int .u32 bd) ∧ W.cell? ⟨w.heap.size, 8, none⟩ = some (.int .i64 ba) ∧ W.cell? ⟨w.heap.size, 9, none⟩ = some (.int .i64 bb) ∧ W.cell? ⟨w3.heap.size, 0, none⟩ = some (.int .i64 cp) ∧ W.cell? ⟨w3.heap.size, 1, none⟩ = some (.int .u32 bs) ∧ W.cell? ⟨w3.heap.size, 2, none⟩ = some (.int .u32 bd) ∧ W.cell? ⟨w3.heap.size, 3, none⟩ = some (.int .i64 ba) ∧ W.cell? ⟨w3.heap.size, 4, none⟩ = some (.int .i64 bb) ∧ W.cell? ⟨w5.heap.size, 0, none⟩ = some (.int .i64 cp) ∧ W.cell? ⟨w5.heap.size, 1, none⟩ = some (.int .u32 cd) ∧ W.cell? ⟨w5.heap.size, 2, none⟩ = some (.int .u32 cs) ∧ W.cell? ⟨w5.heap.size, 3, none⟩ = some (.int .i64 cb) ∧ W.cell? ⟨w5.heap.size, 4, none⟩ = some (.int .i64 ca) ∧ Below w8.heap.size w8 W) (first | exact HS.out _ (Below.drew (Below.refl _ _)) | exact HS.out _ (Below.trans (Below.drew (Below.refl _ _)) hN))
    (first | (go_at_call 10; refine (name_same _ _ _ _ _ _ _ _ _ _ _ _ _ _ _ (by rfl) _).mono ?_; rintro e wN ⟨rfl, hN⟩))
  have q : Below w8.heap.size w8 wN := Below.trans (Below.drew (Below.refl _ _)) hN
  rename_i hx
  obtain ⟨w9, hw⟩ : ∃ x, x = wN := ⟨_, rfl⟩
  have A7 := A6.below q
  have C7 := C6.below q
  have D7 := D6.below q
  have hb7 := hb6.trans (q.mono hb6.size)
  clear hx HS q A6 C6 D6 hb6 hN 
  subst hw
  have A6 := A7
  have C6 := C7
  have D6 := D7
  have hb6 := hb7
  clear A7 C7 D7 hb7
  have HS : Hid (∀ W : World, Below w9.heap.size w9 W → W.cell? ⟨w.heap.size, 0, none⟩ = some (.int .i64 cp) ∧ W.cell? ⟨w.heap.size, 1, none⟩ = some (.int .u32 cs) ∧ W.cell? ⟨w.heap.size, 2, none⟩ = some (.int .u32 cd) ∧ W.cell? ⟨w.heap.size, 3, none⟩ = some (.int .i64 ca) ∧ W.cell? ⟨w.heap.size, 4, none⟩ = some (.int .i64 cb) ∧ W.cell? ⟨w.heap.size, 5, none⟩ = some (.int .i64 cp) ∧ W.cell? ⟨w.heap.size, 6, none⟩ = some (.int .u32 bs) ∧ W.cell? ⟨w.heap.size, 7, none⟩ = some (.int .u32 bd) ∧ W.cell? ⟨w.heap.size, 8, none⟩ = some (.int .i64 ba) ∧ W.cell? ⟨w.heap.size, 9, none⟩ = some (.int .i64 bb) ∧ W.cell? ⟨w3.heap.size, 0, none⟩ = some (.int .i64 cp) ∧ W.cell? ⟨w3.heap.size, 1, none⟩ = some (.int .u32 bs) ∧ W.cell? ⟨w3.heap.size, 2, none⟩ = some (.int .u32 bd) ∧ W.cell? ⟨w3.heap.size, 3, none⟩ = some (.int .i64 ba) ∧ W.cell? ⟨w3.heap.size, 4, none⟩ = some (.int .i64 bb) ∧ W.cell? ⟨w5.heap.size, 0, none⟩ = some (.int .i64 cp) ∧ W.cell? ⟨w5.heap.size, 1, none⟩ = some (.int .u32 cd) ∧ W.cell? ⟨w5.heap.size, 2, none⟩ = some (.int .u32 cs) ∧ W.cell? ⟨w5.heap.size, 3, none⟩ = some (.int .i64 cb) ∧ W.cell? ⟨w5.heap.size, 4, none⟩ = some (.int .i64 ca) ∧ Below w9.heap.size w9 W) := fun W q => ⟨(A6.below q).cell 0, (A6.below q).cell 1, (A6.below q).cell 2, (A6.below q).cell 3, (A6.below q).cell 4, (A6.below q).cell 5, (A6.below q).cell 6, (A6.below q).cell 7, (A6.below q).cell 8, (A6.below q).cell 9, (C6.below q).cell 0, (C6.below q).cell 1, (C6.below q).cell 2, (C6.below q).cell 3, (C6.below q).cell 4, (D6.below q).cell 0, (D6.below q).cell 1, (D6.below q).cell 2, (D6.below q).cell 3, (D6.below q).cell 4, q⟩
  go_wp2_with fail
  go_region_held3 (fun W => W.cell? ⟨w.heap.size, 0, none⟩ = some (.int .i64 cp) ∧ W.cell? ⟨w.heap.size, 1, none⟩ = some (.int .u32 cs) ∧ W.cell? ⟨w.heap.size, 2, none⟩ = some (.int .u32 cd) ∧ W.cell? ⟨w.heap.size, 3, none⟩ = some (.int .i64 ca) ∧ W.cell? ⟨w.heap.size, 4, none⟩ = some (.int .i64 cb) ∧ W.cell? ⟨w.heap.size, 5, none⟩ = some (.int .i64 cp) ∧ W.cell? ⟨w.heap.size, 6, none⟩ = some (.int .u32 bs) ∧ W.cell? ⟨w.heap.size, 7, none⟩ = some (.int .u32 bd) ∧ W.cell? ⟨w.heap.size, 8, none⟩ = some (.int .i64 ba) ∧ W.cell? ⟨w.heap.size, 9, none⟩ = some (.int .i64 bb) ∧ W.cell? ⟨w3.heap.size, 0, none⟩ = some (.int .i64 cp) ∧ W.cell? ⟨w3.heap.size, 1, none⟩ = some (.int .u32 bs) ∧ W.cell? ⟨w3.heap.size, 2, none⟩ = some (.int .u32 bd) ∧ W.cell? ⟨w3.heap.size, 3, none⟩ = some (.int .i64 ba) ∧ W.cell? ⟨w3.heap.size, 4, none⟩ = some (.int .i64 bb) ∧ W.cell? ⟨w5.heap.size, 0, none⟩ = some (.int .i64 cp) ∧ W.cell? ⟨w5.heap.size, 1, none⟩ = some (.int .u32 cd) ∧ W.cell? ⟨w5.heap.size, 2, none⟩ = some (.int .u32 cs) ∧ W.cell? ⟨w5.heap.size, 3, none⟩ = some (.int .i64 cb) ∧ W.cell? ⟨w5.heap.size, 4, none⟩ = some (.int .i64 ca) ∧ Below w9.heap.size w9 W) (first | exact HS.out _ (Below.drew (Below.refl _ _)) | exact HS.out _ (Below.trans (Below.drew (Below.refl _ _)) hN))
    (first | (go_at_call 10; refine (name_rev _ _ _ _ _ _ _ _ _ _ _ _ _ _ _ (by rfl) _).mono ?_; rintro e wN ⟨rfl, hN⟩))
  have q : Below w9.heap.size w9 wN := Below.trans (Below.drew (Below.refl _ _)) hN
  rename_i hx
  obtain ⟨wX, hw⟩ : ∃ x, x = wN := ⟨_, rfl⟩
  have A7 := A6.below q
  have C7 := C6.below q
  have D7 := D6.below q
  have hb7 := hb6.trans (q.mono hb6.size)
  clear hx HS q A6 C6 D6 hb6 hN 
  subst hw
  have A6 := A7
  have C6 := C7
  have D6 := D7
  have hb6 := hb7
  clear A7 C7 D7 hb7
  go_wp2
  go_ret
  exact ⟨rfl, hb6⟩

end Go.Proofs.Ytabekppniampmaa
