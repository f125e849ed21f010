/- The walk of QuoteProtos. -/
import Derived.Test.YtabekppniampmaaF
namespace Go.Proofs.Ytabekppniampmaa
open Go.RowKit
set_option linter.unusedSimpArgs false
set_option linter.unusedVariables false


set_option maxRecDepth 100000 in
set_option maxHeartbeats 3200000 in
theorem protos_ff (kd at1 to1 p s d a b fl tl sr ds qt nn : Int)  (w : World) :
    Calls Try.prog 5 #[.agg #[.int .i64 kd, .int .i64 at1, .int .i64 to1, .int .i64 p, .int .u32 s, .int .u32 d, .int .i64 a, .int .i64 b, .int .i64 fl, .int .i64 tl, .int .u32 sr, .int .u32 ds, .int .i64 qt, .int .i64 nn], .bool false, .bool false] w fun e w' => e = .returned (.bool true) ∧ Below w.heap.size w w' := by
  have A0 := Has.new w #[.int .i64 kd, .int .i64 at1, .int .i64 to1, .int .i64 p, .int .u32 s, .int .u32 d, .int .i64 a, .int .i64 b, .int .i64 fl, .int .i64 tl, .int .u32 sr, .int .u32 ds, .int .i64 qt, .int .i64 nn] 37
  go_enter Try.func5, Try.ntmps5
  go_wp2_with fail
  refine (examples_c _).mono ?_
  rintro e w1 ⟨rfl, hb⟩
  have hb1 : Below w.heap.size w w1 := ((Below.refl _ _).alloc (Nat.le_refl _) _).trans (hb.mono (by simp))
  have A1 := A0.below hb
  clear A0 hb
  have c1 := A1.cell
  have f1 := A1.free
  have l1 := A1.lt
  have A2 := A1.set 0 (.int .i64 1)
  skip
  simp only [Array.setIfInBounds, List.size_toArray, List.length_cons, List.length_nil, Nat.reduceAdd, Nat.reduceLT, ↓reduceDIte, List.set_toArray, List.set_cons_succ, List.set_cons_zero] at A2
  clear A1
  go_wp2_with fail
  refine (name_same _ _ _ _ _ _ _ _ _ _ _ _ _ _ _ (by rfl) _).mono ?_
  rintro e w2 ⟨rfl, hb⟩
  have hb2 : Below w.heap.size w w2 := (hb1.setCell (by simp) _).trans (hb.mono (by simpa [World.setCell] using hb1.size))
  have A3 := A2.below hb
  have N3 := Has.new w2 #[.int .i64 p, .int .u32 s, .int .u32 d, .int .i64 a, .int .i64 b] 24
  clear A2 hb hb1 c1 f1 l1
  have c3 := A3.cell
  have l3 := A3.lt
  go_wp2_with fail
  refine (name_same _ _ _ _ _ _ _ _ _ _ _ _ _ _ _ (by rfl) _).mono ?_
  rintro e w3 ⟨rfl, hb⟩
  have hb3 : Below w.heap.size w w3 := (hb2.alloc hb2.size _).trans (hb.mono (by simp; omega))
  have A4 := (A3.alloc _).below hb
  have N4 := N3.below hb
  have M4 := Has.new w3 #[.int .i64 p, .int .u32 s, .int .u32 d, .int .i64 a, .int .i64 b] 24
  clear A3 N3 hb hb2 c3 l3
  have c4 := A4.cell
  have l4 := A4.lt
  go_wp2_with fail
  refine (name_rev _ _ _ _ _ _ _ _ _ _ _ _ _ _ _ (by rfl) _).mono ?_
  rintro e w4 ⟨rfl, hb⟩
  have hb4 : Below w.heap.size w w4 := (hb3.alloc hb3.size _).trans (hb.mono (by simp; omega))
  have A5 := ((A4.alloc _).below hb).alloc (.cells #[.int .i64 p, .int .u32 d, .int .u32 s, .int .i64 b, .int .i64 a] 24)
  have N5 := ((N4.alloc _).below hb).alloc (.cells #[.int .i64 p, .int .u32 d, .int .u32 s, .int .i64 b, .int .i64 a] 24)
  have M5 := (M4.below hb).alloc (.cells #[.int .i64 p, .int .u32 d, .int .u32 s, .int .i64 b, .int .i64 a] 24)
  have O5 := Has.new w4 #[.int .i64 p, .int .u32 d, .int .u32 s, .int .i64 b, .int .i64 a] 24
  have hb5 := hb4.alloc hb4.size (.cells #[.int .i64 p, .int .u32 d, .int .u32 s, .int .i64 b, .int .i64 a] 24)
  clear A4 N4 M4 hb hb3 hb4 c4 l4
  go_wp2_with fail
  obtain ⟨w5, hw5⟩ : ∃ w5, w5 = w4.alloc (.cells #[.int .i64 p, .int .u32 d, .int .u32 s, .int .i64 b, .int .i64 a] 24) := ⟨_, rfl⟩
  rw [← hw5] at A5 N5 M5 O5 hb5 ⊢
  clear hw5
  have HS : Hid (∀ W : World, Below w5.heap.size w5 W → W.cell? ⟨w2.heap.size, 0, none⟩ = some (.int .i64 p) ∧ W.cell? ⟨w2.heap.size, 1, none⟩ = some (.int .u32 s) ∧ W.cell? ⟨w2.heap.size, 2, none⟩ = some (.int .u32 d) ∧ W.cell? ⟨w2.heap.size, 3, none⟩ = some (.int .i64 a) ∧ W.cell? ⟨w2.heap.size, 4, none⟩ = some (.int .i64 b) ∧ W.cell? ⟨w3.heap.size, 0, none⟩ = some (.int .i64 p) ∧ W.cell? ⟨w3.heap.size, 1, none⟩ = some (.int .u32 s) ∧ W.cell? ⟨w3.heap.size, 2, none⟩ = some (.int .u32 d) ∧ W.cell? ⟨w3.heap.size, 3, none⟩ = some (.int .i64 a) ∧ W.cell? ⟨w3.heap.size, 4, none⟩ = some (.int .i64 b) ∧ W.cell? ⟨w4.heap.size, 0, none⟩ = some (.int .i64 p) ∧ W.cell? ⟨w4.heap.size, 1, none⟩ = some (.int .u32 d) ∧ W.cell? ⟨w4.heap.size, 2, none⟩ = some (.int .u32 s) ∧ W.cell? ⟨w4.heap.size, 3, none⟩ = some (.int .i64 b) ∧ W.cell? ⟨w4.heap.size, 4, none⟩ = some (.int .i64 a) ∧ W.cell? ⟨w.heap.size, 3, none⟩ = some (.int .i64 p) ∧ W.cell? ⟨w.heap.size, 4, none⟩ = some (.int .u32 s) ∧ W.cell? ⟨w.heap.size, 5, none⟩ = some (.int .u32 d) ∧ W.cell? ⟨w.heap.size, 6, none⟩ = some (.int .i64 a) ∧ W.cell? ⟨w.heap.size, 7, none⟩ = some (.int .i64 b) ∧ Below w5.heap.size w5 W) := fun W q => ⟨(N5.below q).cell 0, (N5.below q).cell 1, (N5.below q).cell 2, (N5.below q).cell 3, (N5.below q).cell 4, (M5.below q).cell 0, (M5.below q).cell 1, (M5.below q).cell 2, (M5.below q).cell 3, (M5.below q).cell 4, (O5.below q).cell 0, (O5.below q).cell 1, (O5.below q).cell 2, (O5.below q).cell 3, (O5.below q).cell 4, (A5.below q).cell 3, (A5.below q).cell 4, (A5.below q).cell 5, (A5.below q).cell 6, (A5.below q).cell 7, q⟩
  refine wp_region_held_drew (S := fun W => W.cell? ⟨w2.heap.size, 0, none⟩ = some (.int .i64 p) ∧ W.cell? ⟨w2.heap.size, 1, none⟩ = some (.int .u32 s) ∧ W.cell? ⟨w2.heap.size, 2, none⟩ = some (.int .u32 d) ∧ W.cell? ⟨w2.heap.size, 3, none⟩ = some (.int .i64 a) ∧ W.cell? ⟨w2.heap.size, 4, none⟩ = some (.int .i64 b) ∧ W.cell? ⟨w3.heap.size, 0, none⟩ = some (.int .i64 p) ∧ W.cell? ⟨w3.heap.size, 1, none⟩ = some (.int .u32 s) ∧ W.cell? ⟨w3.heap.size, 2, none⟩ = some (.int .u32 d) ∧ W.cell? ⟨w3.heap.size, 3, none⟩ = some (.int .i64 a) ∧ W.cell? ⟨w3.heap.size, 4, none⟩ = some (.int .i64 b) ∧ W.cell? ⟨w4.heap.size, 0, none⟩ = some (.int .i64 p) ∧ W.cell? ⟨w4.heap.size, 1, none⟩ = some (.int .u32 d) ∧ W.cell? ⟨w4.heap.size, 2, none⟩ = some (.int .u32 s) ∧ W.cell? ⟨w4.heap.size, 3, none⟩ = some (.int .i64 b) ∧ W.cell? ⟨w4.heap.size, 4, none⟩ = some (.int .i64 a) ∧ W.cell? ⟨w.heap.size, 3, none⟩ = some (.int .i64 p) ∧ W.cell? ⟨w.heap.size, 4, none⟩ = some (.int .u32 s) ∧ W.cell? ⟨w.heap.size, 5, none⟩ = some (.int .u32 d) ∧ W.cell? ⟨w.heap.size, 6, none⟩ = some (.int .i64 a) ∧ W.cell? ⟨w.heap.size, 7, none⟩ = some (.int .i64 b) ∧ Below w5.heap.size w5 W) (by kernel_rfl) (HS.out _ (Below.drew (Below.refl _ _))) (fun hHeld => ?_)
  refine wpAnyH_take (i := 0) (oi := { dst := some 31, op := Op.move (Operand.tmp 7), type := 4, pos := "keeps.go:59", after := #[], guard := none }) (v := ?_) rfl (by kernel_rfl) (by kernel_rfl) (by kernel_rfl) (fun _ _ _ h => h) (Or.inl ⟨by rfl, ?_⟩) hHeld ?_
  rotate_left
  · intro w hSw; (try dsimp only at hSw); go_simp; try with_reducible rfl
  try simp only [Act.put, List.setIfInBounds_toArray, List.set_cons_zero, List.set_cons_succ]
  refine wpAnyH_take (i := 1) (oi := { dst := some 32, op := Op.move (Operand.tmp 31), type := 4, pos := "keeps.go:59", after := #[{ on := 0, ground := Ground.data }], guard := none }) (v := ?_) rfl (by kernel_rfl) (by kernel_rfl) (by kernel_rfl) (fun _ _ _ h => h) (Or.inl ⟨by rfl, ?_⟩) hHeld ?_
  rotate_left
  · intro w hSw; (try dsimp only at hSw); go_simp; try with_reducible rfl
  try simp only [Act.put, List.setIfInBounds_toArray, List.set_cons_zero, List.set_cons_succ]
  refine wpAnyH_take (i := 2) (oi := { dst := some 33, op := Op.load 24 (Operand.tmp 8), type := 24, pos := "keeps.go:59", after := #[{ on := 1, ground := Ground.guard }], guard := some (1, true) }) (v := ?_) rfl (by kernel_rfl) (by kernel_rfl) (by kernel_rfl) (fun _ _ _ h => h) (Or.inl ⟨by rfl, ?_⟩) hHeld ?_
  rotate_left
  · intro w hSw; (try dsimp only at hSw); go_simp; try with_reducible rfl
  try simp only [Act.put, List.setIfInBounds_toArray, List.set_cons_zero, List.set_cons_succ]
  refine wpAnyH_take (i := 3) (oi := { dst := some 34, op := Op.load 24 (Operand.tmp 9), type := 24, pos := "keeps.go:59", after := #[{ on := 1, ground := Ground.guard }], guard := some (1, true) }) (v := ?_) rfl (by kernel_rfl) (by kernel_rfl) (by kernel_rfl) (fun _ _ _ h => h) (Or.inl ⟨by rfl, ?_⟩) hHeld ?_
  rotate_left
  · intro w hSw; (try dsimp only at hSw); go_simp; try with_reducible rfl
  try simp only [Act.put, List.setIfInBounds_toArray, List.set_cons_zero, List.set_cons_succ]
  refine wpAnyH_take (i := 4) (oi := { dst := some 35, op := Op.binOp BinOp.eql 24 (Operand.tmp 33) (Operand.tmp 34) 24, type := 4, pos := "keeps.go:59", after := #[{ on := 2, ground := Ground.data }, { on := 3, ground := Ground.data }, { on := 1, ground := Ground.guard }], guard := some (1, true) }) (v := ?_) rfl (by kernel_rfl) (by kernel_rfl) (by kernel_rfl) (fun _ _ _ h => h) (Or.inl ⟨by rfl, ?_⟩) hHeld ?_
  rotate_left
  · intro w hSw; (try dsimp only at hSw); go_simp; try with_reducible rfl
  try simp only [Act.put, List.setIfInBounds_toArray, List.set_cons_zero, List.set_cons_succ]
  refine wpAnyH_take (i := 5) (oi := { dst := some 36, op := Op.pick (Operand.tmp 32) (Operand.tmp 35) (Operand.const (Value.bool false)), type := 4, pos := "keeps.go:59", after := #[{ on := 1, ground := Ground.data }, { on := 4, ground := Ground.data }], guard := none }) (v := ?_) rfl (by kernel_rfl) (by kernel_rfl) (by kernel_rfl) (fun _ _ _ h => h) (Or.inl ⟨by rfl, ?_⟩) hHeld ?_
  rotate_left
  · intro w hSw; (try dsimp only at hSw); go_simp; try with_reducible rfl
  try simp only [Act.put, List.setIfInBounds_toArray, List.set_cons_zero, List.set_cons_succ]
  refine wpAnyH_take (i := 6) (oi := { dst := some 37, op := Op.move (Operand.tmp 36), type := 4, pos := "keeps.go:59", after := #[{ on := 5, ground := Ground.data }, { on := 1, ground := Ground.chain }], guard := none }) (v := ?_) rfl (by kernel_rfl) (by kernel_rfl) (by kernel_rfl) (fun _ _ _ h => h) (Or.inl ⟨by rfl, ?_⟩) hHeld ?_
  rotate_left
  · intro w hSw; (try dsimp only at hSw); go_simp; try with_reducible rfl
  try simp only [Act.put, List.setIfInBounds_toArray, List.set_cons_zero, List.set_cons_succ]
  refine wpAnyH_take (i := 7) (oi := { dst := some 38, op := Op.fieldAddr 24 (Operand.tmp 8) 0, type := 0, pos := "keeps.go:59", after := #[{ on := 6, ground := Ground.guard }], guard := some (6, true) }) (v := ?_) rfl (by kernel_rfl) (by kernel_rfl) (by kernel_rfl) (fun _ _ _ h => h) (Or.inl ⟨by rfl, ?_⟩) hHeld ?_
  rotate_left
  · intro w hSw; (try dsimp only at hSw); go_simp; try with_reducible rfl
  try simp only [Act.put, List.setIfInBounds_toArray, List.set_cons_zero, List.set_cons_succ]
  refine wpAnyH_take (i := 8) (oi := { dst := some 39, op := Op.load 3 (Operand.tmp 38), type := 3, pos := "keeps.go:59", after := #[{ on := 7, ground := Ground.data }, { on := 6, ground := Ground.guard }], guard := some (6, true) }) (v := ?_) rfl (by kernel_rfl) (by kernel_rfl) (by kernel_rfl) (fun _ _ _ h => h) (Or.inl ⟨by rfl, ?_⟩) hHeld ?_
  rotate_left
  · intro w hSw; (try dsimp only at hSw); go_simp; try with_reducible rfl
  try simp only [Act.put, List.setIfInBounds_toArray, List.set_cons_zero, List.set_cons_succ]
  refine wpAnyH_take (i := 9) (oi := { dst := some 40, op := Op.fieldAddr 37 (Operand.tmp 3) 3, type := 0, pos := "keeps.go:59", after := #[{ on := 6, ground := Ground.guard }], guard := some (6, true) }) (v := ?_) rfl (by kernel_rfl) (by kernel_rfl) (by kernel_rfl) (fun _ _ _ h => h) (Or.inl ⟨by rfl, ?_⟩) hHeld ?_
  rotate_left
  · intro w hSw; (try dsimp only at hSw); go_simp; try with_reducible rfl
  try simp only [Act.put, List.setIfInBounds_toArray, List.set_cons_zero, List.set_cons_succ]
  refine wpAnyH_take (i := 10) (oi := { dst := some 41, op := Op.fieldAddr 24 (Operand.tmp 40) 0, type := 0, pos := "keeps.go:59", after := #[{ on := 9, ground := Ground.data }, { on := 6, ground := Ground.guard }], guard := some (6, true) }) (v := ?_) rfl (by kernel_rfl) (by kernel_rfl) (by kernel_rfl) (fun _ _ _ h => h) (Or.inl ⟨by rfl, ?_⟩) hHeld ?_
  rotate_left
  · intro w hSw; (try dsimp only at hSw); go_simp; try with_reducible rfl
  try simp only [Act.put, List.setIfInBounds_toArray, List.set_cons_zero, List.set_cons_succ]
  refine wpAnyH_take (i := 11) (oi := { dst := some 42, op := Op.load 3 (Operand.tmp 41), type := 3, pos := "keeps.go:59", after := #[{ on := 10, ground := Ground.data }, { on := 6, ground := Ground.guard }], guard := some (6, true) }) (v := ?_) rfl (by kernel_rfl) (by kernel_rfl) (by kernel_rfl) (fun _ _ _ h => h) (Or.inl ⟨by rfl, ?_⟩) hHeld ?_
  rotate_left
  · intro w hSw; (try dsimp only at hSw); go_simp; try with_reducible rfl
  try simp only [Act.put, List.setIfInBounds_toArray, List.set_cons_zero, List.set_cons_succ]
  refine wpAnyH_take (i := 12) (oi := { dst := some 43, op := Op.binOp BinOp.eql 3 (Operand.tmp 39) (Operand.tmp 42) 3, type := 4, pos := "keeps.go:59", after := #[{ on := 8, ground := Ground.data }, { on := 11, ground := Ground.data }, { on := 6, ground := Ground.guard }], guard := some (6, true) }) (v := ?_) rfl (by kernel_rfl) (by kernel_rfl) (by kernel_rfl) (fun _ _ _ h => h) (Or.inl ⟨by rfl, ?_⟩) hHeld ?_
  rotate_left
  · intro w hSw; (try dsimp only at hSw); go_simp; try with_reducible rfl
  try simp only [Act.put, List.setIfInBounds_toArray, List.set_cons_zero, List.set_cons_succ]
  refine wpAnyH_take (i := 13) (oi := { dst := some 44, op := Op.pick (Operand.tmp 37) (Operand.tmp 43) (Operand.const (Value.bool false)), type := 4, pos := "keeps.go:59", after := #[{ on := 6, ground := Ground.data }, { on := 12, ground := Ground.data }], guard := none }) (v := ?_) rfl (by kernel_rfl) (by kernel_rfl) (by kernel_rfl) (fun _ _ _ h => h) (Or.inl ⟨by rfl, ?_⟩) hHeld ?_
  rotate_left
  · intro w hSw; (try dsimp only at hSw); go_simp; try with_reducible rfl
  try simp only [Act.put, List.setIfInBounds_toArray, List.set_cons_zero, List.set_cons_succ]
  refine wpAnyH_take (i := 14) (oi := { dst := some 45, op := Op.move (Operand.tmp 44), type := 4, pos := "keeps.go:59", after := #[{ on := 13, ground := Ground.data }, { on := 6, ground := Ground.chain }], guard := none }) (v := ?_) rfl (by kernel_rfl) (by kernel_rfl) (by kernel_rfl) (fun _ _ _ h => h) (Or.inl ⟨by rfl, ?_⟩) hHeld ?_
  rotate_left
  · intro w hSw; (try dsimp only at hSw); go_simp; try with_reducible rfl
  try simp only [Act.put, List.setIfInBounds_toArray, List.set_cons_zero, List.set_cons_succ]
  refine wpAnyH_take (i := 15) (oi := { dst := some 46, op := Op.load 24 (Operand.tmp 10), type := 24, pos := "keeps.go:59", after := #[{ on := 14, ground := Ground.guard }], guard := some (14, true) }) (v := ?_) rfl (by kernel_rfl) (by kernel_rfl) (by kernel_rfl) (fun _ _ _ h => h) (Or.inl ⟨by rfl, ?_⟩) hHeld ?_
  rotate_left
  · intro w hSw; (try dsimp only at hSw); go_simp; try with_reducible rfl
  try simp only [Act.put, List.setIfInBounds_toArray, List.set_cons_zero, List.set_cons_succ]
  refine wpAnyH_take (i := 16) (oi := { dst := some 47, op := Op.load 24 (Operand.tmp 8), type := 24, pos := "keeps.go:59", after := #[{ on := 14, ground := Ground.guard }], guard := some (14, true) }) (v := ?_) rfl (by kernel_rfl) (by kernel_rfl) (by kernel_rfl) (fun _ _ _ h => h) (Or.inl ⟨by rfl, ?_⟩) hHeld ?_
  rotate_left
  · intro w hSw; (try dsimp only at hSw); go_simp; try with_reducible rfl
  try simp only [Act.put, List.setIfInBounds_toArray, List.set_cons_zero, List.set_cons_succ]
  refine wpAnyH_ready (rs := [17]) (by kernel_rfl) (by simp) ?_
  refine AllReadyH.cons (o := { dst := some 48, op := Op.call { callee := Callee.value (Operand.func 11), args := #[Operand.tmp 47], argTypes := #[24] }, type := 24, pos := "keeps.go:59", after := #[{ on := 16, ground := Ground.data }, { on := 14, ground := Ground.chain }, { on := 14, ground := Ground.guard }], guard := some (14, true) }) rfl (fun K hK => ?_) AllReadyH.nil
  go_simp
  refine (rev_c _ _ _ _ _ _).mono ?_
  rintro e wR ⟨rfl, hR1⟩
  have hz1 : w5.heap.size ≤ wR.heap.size := (by have q := hR1.size; exact q)
  go_simp
  refine hK.out _ _ (HS.out _ (Below.trans (Below.drew (Below.refl _ _)) hR1)) (fun hHeld2 => ?_)
  clear hK K hHeld
  have hHeld := hHeld2
  clear hHeld2
  try simp only [Act.put, List.setIfInBounds_toArray, List.set_cons_zero, List.set_cons_succ]
  refine wpAnyH_take (i := 18) (oi := { dst := some 49, op := Op.binOp BinOp.eql 24 (Operand.tmp 46) (Operand.tmp 48) 24, type := 4, pos := "keeps.go:59", after := #[{ on := 15, ground := Ground.data }, { on := 17, ground := Ground.data }, { on := 14, ground := Ground.guard }], guard := some (14, true) }) (v := ?_) rfl (by kernel_rfl) (by kernel_rfl) (by kernel_rfl) (fun _ _ _ h => h) (Or.inl ⟨by rfl, ?_⟩) hHeld ?_
  rotate_left
  · intro w hSw; (try dsimp only at hSw); go_simp; try with_reducible rfl
  try simp only [Act.put, List.setIfInBounds_toArray, List.set_cons_zero, List.set_cons_succ]
  refine wpAnyH_take (i := 19) (oi := { dst := some 50, op := Op.pick (Operand.tmp 45) (Operand.tmp 49) (Operand.const (Value.bool false)), type := 4, pos := "keeps.go:59", after := #[{ on := 14, ground := Ground.data }, { on := 18, ground := Ground.data }], guard := none }) (v := ?_) rfl (by kernel_rfl) (by kernel_rfl) (by kernel_rfl) (fun _ _ _ h => h) (Or.inl ⟨by rfl, ?_⟩) hHeld ?_
  rotate_left
  · intro w hSw; (try dsimp only at hSw); go_simp; try with_reducible rfl
  try simp only [Act.put, List.setIfInBounds_toArray, List.set_cons_zero, List.set_cons_succ]
  refine wpAnyH_take (i := 20) (oi := { dst := some 51, op := Op.move (Operand.tmp 50), type := 4, pos := "keeps.go:59", after := #[{ on := 19, ground := Ground.data }, { on := 17, ground := Ground.chain }], guard := none }) (v := ?_) rfl (by kernel_rfl) (by kernel_rfl) (by kernel_rfl) (fun _ _ _ h => h) (Or.inl ⟨by rfl, ?_⟩) hHeld ?_
  rotate_left
  · intro w hSw; (try dsimp only at hSw); go_simp; try with_reducible rfl
  try simp only [Act.put, List.setIfInBounds_toArray, List.set_cons_zero, List.set_cons_succ]
  refine wpAnyH_take (i := 21) (oi := { dst := some 52, op := Op.load 24 (Operand.tmp 8), type := 24, pos := "keeps.go:59", after := #[{ on := 20, ground := Ground.guard }], guard := some (20, true) }) (v := ?_) rfl (by kernel_rfl) (by kernel_rfl) (by kernel_rfl) (fun _ _ _ h => h) (Or.inl ⟨by rfl, ?_⟩) hHeld ?_
  rotate_left
  · intro w hSw; (try dsimp only at hSw); go_simp; try with_reducible rfl
  try simp only [Act.put, List.setIfInBounds_toArray, List.set_cons_zero, List.set_cons_succ]
  refine wpAnyH_take (i := 22) (oi := { dst := some 53, op := Op.fieldAddr 37 (Operand.tmp 3) 3, type := 0, pos := "keeps.go:59", after := #[{ on := 20, ground := Ground.guard }], guard := some (20, true) }) (v := ?_) rfl (by kernel_rfl) (by kernel_rfl) (by kernel_rfl) (fun _ _ _ h => h) (Or.inl ⟨by rfl, ?_⟩) hHeld ?_
  rotate_left
  · intro w hSw; (try dsimp only at hSw); go_simp; try with_reducible rfl
  try simp only [Act.put, List.setIfInBounds_toArray, List.set_cons_zero, List.set_cons_succ]
  refine wpAnyH_take (i := 23) (oi := { dst := some 54, op := Op.load 24 (Operand.tmp 53), type := 24, pos := "keeps.go:59", after := #[{ on := 22, ground := Ground.data }, { on := 20, ground := Ground.guard }], guard := some (20, true) }) (v := ?_) rfl (by kernel_rfl) (by kernel_rfl) (by kernel_rfl) (fun _ _ _ h => h) (Or.inl ⟨by rfl, ?_⟩) hHeld ?_
  rotate_left
  · intro w hSw; (try dsimp only at hSw); go_simp; try with_reducible rfl
  try simp only [Act.put, List.setIfInBounds_toArray, List.set_cons_zero, List.set_cons_succ]
  refine wpAnyH_take (i := 24) (oi := { dst := some 55, op := Op.binOp BinOp.eql 24 (Operand.tmp 52) (Operand.tmp 54) 24, type := 4, pos := "keeps.go:59", after := #[{ on := 21, ground := Ground.data }, { on := 23, ground := Ground.data }, { on := 20, ground := Ground.guard }], guard := some (20, true) }) (v := ?_) rfl (by kernel_rfl) (by kernel_rfl) (by kernel_rfl) (fun _ _ _ h => h) (Or.inl ⟨by rfl, ?_⟩) hHeld ?_
  rotate_left
  · intro w hSw; (try dsimp only at hSw); go_simp; try with_reducible rfl
  try simp only [Act.put, List.setIfInBounds_toArray, List.set_cons_zero, List.set_cons_succ]
  refine wpAnyH_take (i := 25) (oi := { dst := some 56, op := Op.move (Operand.tmp 1), type := 4, pos := "keeps.go:59", after := #[{ on := 20, ground := Ground.guard }], guard := some (20, true) }) (v := ?_) rfl (by kernel_rfl) (by kernel_rfl) (by kernel_rfl) (fun _ _ _ h => h) (Or.inl ⟨by rfl, ?_⟩) hHeld ?_
  rotate_left
  · intro w hSw; (try dsimp only at hSw); go_simp; try with_reducible rfl
  try simp only [Act.put, List.setIfInBounds_toArray, List.set_cons_zero, List.set_cons_succ]
  refine wpAnyH_take (i := 26) (oi := { dst := some 57, op := Op.move (Operand.tmp 2), type := 4, pos := "keeps.go:59", after := #[{ on := 20, ground := Ground.guard }], guard := some (20, true) }) (v := ?_) rfl (by kernel_rfl) (by kernel_rfl) (by kernel_rfl) (fun _ _ _ h => h) (Or.inl ⟨by rfl, ?_⟩) hHeld ?_
  rotate_left
  · intro w hSw; (try dsimp only at hSw); go_simp; try with_reducible rfl
  try simp only [Act.put, List.setIfInBounds_toArray, List.set_cons_zero, List.set_cons_succ]
  refine wpAnyH_take (i := 27) (oi := { dst := some 58, op := Op.binOp BinOp.eql 4 (Operand.tmp 56) (Operand.tmp 57) 4, type := 4, pos := "keeps.go:59", after := #[{ on := 25, ground := Ground.data }, { on := 26, ground := Ground.data }, { on := 20, ground := Ground.guard }], guard := some (20, true) }) (v := ?_) rfl (by kernel_rfl) (by kernel_rfl) (by kernel_rfl) (fun _ _ _ h => h) (Or.inl ⟨by rfl, ?_⟩) hHeld ?_
  rotate_left
  · intro w hSw; (try dsimp only at hSw); go_simp; try with_reducible rfl
  try simp only [Act.put, List.setIfInBounds_toArray, List.set_cons_zero, List.set_cons_succ]
  refine wpAnyH_take (i := 28) (oi := { dst := some 59, op := Op.move (Operand.tmp 58), type := 4, pos := "keeps.go:59", after := #[{ on := 27, ground := Ground.data }, { on := 20, ground := Ground.chain }, { on := 20, ground := Ground.guard }], guard := some (20, true) }) (v := ?_) rfl (by kernel_rfl) (by kernel_rfl) (by kernel_rfl) (fun _ _ _ h => h) (Or.inl ⟨by rfl, ?_⟩) hHeld ?_
  rotate_left
  · intro w hSw; (try dsimp only at hSw); go_simp; try with_reducible rfl
  try simp only [Act.put, List.setIfInBounds_toArray, List.set_cons_zero, List.set_cons_succ]
  refine wpAnyH_take (i := 29) (oi := { dst := some 60, op := Op.fieldAddr 37 (Operand.tmp 3) 3, type := 0, pos := "keeps.go:59", after := #[{ on := 28, ground := Ground.guard }], guard := some (28, false) }) (v := undef) rfl (by kernel_rfl) (by kernel_rfl) (by kernel_rfl) (fun _ _ _ h => h) (Or.inr ⟨by rfl, rfl⟩) hHeld ?_
  try simp only [Act.put, List.setIfInBounds_toArray, List.set_cons_zero, List.set_cons_succ]
  refine wpAnyH_take (i := 30) (oi := { dst := some 61, op := Op.load 24 (Operand.tmp 60), type := 24, pos := "keeps.go:59", after := #[{ on := 29, ground := Ground.data }, { on := 28, ground := Ground.guard }], guard := some (28, false) }) (v := undef) rfl (by kernel_rfl) (by kernel_rfl) (by kernel_rfl) (fun _ _ _ h => h) (Or.inr ⟨by rfl, rfl⟩) hHeld ?_
  try simp only [Act.put, List.setIfInBounds_toArray, List.set_cons_zero, List.set_cons_succ]
  refine wpAnyH_take (i := 31) (oi := { dst := some 62, op := Op.fieldAddr 37 (Operand.tmp 3) 3, type := 0, pos := "keeps.go:59", after := #[{ on := 28, ground := Ground.guard }], guard := some (28, false) }) (v := undef) rfl (by kernel_rfl) (by kernel_rfl) (by kernel_rfl) (fun _ _ _ h => h) (Or.inr ⟨by rfl, rfl⟩) hHeld ?_
  try simp only [Act.put, List.setIfInBounds_toArray, List.set_cons_zero, List.set_cons_succ]
  refine wpAnyH_take (i := 32) (oi := { dst := some 63, op := Op.load 24 (Operand.tmp 62), type := 24, pos := "keeps.go:59", after := #[{ on := 31, ground := Ground.data }, { on := 28, ground := Ground.guard }], guard := some (28, false) }) (v := undef) rfl (by kernel_rfl) (by kernel_rfl) (by kernel_rfl) (fun _ _ _ h => h) (Or.inr ⟨by rfl, rfl⟩) hHeld ?_
  try simp only [Act.put, List.setIfInBounds_toArray, List.set_cons_zero, List.set_cons_succ]
  refine wpAnyH_take (i := 33) (oi := { dst := some 64, op := Op.call { callee := Callee.value (Operand.func 11), args := #[Operand.tmp 63], argTypes := #[24] }, type := 24, pos := "keeps.go:59", after := #[{ on := 32, ground := Ground.data }, { on := 28, ground := Ground.chain }, { on := 28, ground := Ground.guard }], guard := some (28, false) }) (v := undef) rfl (by kernel_rfl) (by kernel_rfl) (by kernel_rfl) (fun _ _ _ h => h) (Or.inr ⟨by rfl, rfl⟩) hHeld ?_
  try simp only [Act.put, List.setIfInBounds_toArray, List.set_cons_zero, List.set_cons_succ]
  refine wpAnyH_take (i := 34) (oi := { dst := some 65, op := Op.binOp BinOp.eql 24 (Operand.tmp 61) (Operand.tmp 64) 24, type := 4, pos := "keeps.go:59", after := #[{ on := 30, ground := Ground.data }, { on := 33, ground := Ground.data }, { on := 28, ground := Ground.guard }], guard := some (28, false) }) (v := undef) rfl (by kernel_rfl) (by kernel_rfl) (by kernel_rfl) (fun _ _ _ h => h) (Or.inr ⟨by rfl, rfl⟩) hHeld ?_
  try simp only [Act.put, List.setIfInBounds_toArray, List.set_cons_zero, List.set_cons_succ]
  refine wpAnyH_take (i := 35) (oi := { dst := some 66, op := Op.pick (Operand.tmp 59) (Operand.const (Value.bool true)) (Operand.tmp 65), type := 4, pos := "keeps.go:59", after := #[{ on := 28, ground := Ground.data }, { on := 34, ground := Ground.data }, { on := 20, ground := Ground.guard }], guard := some (20, true) }) (v := ?_) rfl (by kernel_rfl) (by kernel_rfl) (by kernel_rfl) (fun _ _ _ h => h) (Or.inl ⟨by rfl, ?_⟩) hHeld ?_
  rotate_left
  · intro w hSw; (try dsimp only at hSw); go_simp; try with_reducible rfl
  try simp only [Act.put, List.setIfInBounds_toArray, List.set_cons_zero, List.set_cons_succ]
  refine wpAnyH_take (i := 36) (oi := { dst := some 67, op := Op.binOp BinOp.eql 4 (Operand.tmp 55) (Operand.tmp 66) 4, type := 4, pos := "keeps.go:59", after := #[{ on := 24, ground := Ground.data }, { on := 35, ground := Ground.data }, { on := 20, ground := Ground.guard }], guard := some (20, true) }) (v := ?_) rfl (by kernel_rfl) (by kernel_rfl) (by kernel_rfl) (fun _ _ _ h => h) (Or.inl ⟨by rfl, ?_⟩) hHeld ?_
  rotate_left
  · intro w hSw; (try dsimp only at hSw); go_simp; try with_reducible rfl
  try simp only [Act.put, List.setIfInBounds_toArray, List.set_cons_zero, List.set_cons_succ]
  refine wpAnyH_take (i := 37) (oi := { dst := some 68, op := Op.pick (Operand.tmp 51) (Operand.tmp 67) (Operand.const (Value.bool false)), type := 4, pos := "keeps.go:59", after := #[{ on := 20, ground := Ground.data }, { on := 36, ground := Ground.data }], guard := none }) (v := ?_) rfl (by kernel_rfl) (by kernel_rfl) (by kernel_rfl) (fun _ _ _ h => h) (Or.inl ⟨by rfl, ?_⟩) hHeld ?_
  rotate_left
  · intro w hSw; (try dsimp only at hSw); go_simp; try with_reducible rfl
  try simp only [Act.put, List.setIfInBounds_toArray, List.set_cons_zero, List.set_cons_succ]
  refine wpAnyH_take (i := 38) (oi := { dst := some 6, op := Op.assign (Operand.tmp 68), type := 4, pos := "keeps.go:59", after := #[{ on := 37, ground := Ground.data }, { on := 33, ground := Ground.chain }, { on := 0, ground := Ground.phase }, { on := 1, ground := Ground.phase }, { on := 2, ground := Ground.phase }, { on := 3, ground := Ground.phase }, { on := 4, ground := Ground.phase }, { on := 5, ground := Ground.phase }, { on := 6, ground := Ground.phase }, { on := 7, ground := Ground.phase }, { on := 8, ground := Ground.phase }, { on := 9, ground := Ground.phase }, { on := 10, ground := Ground.phase }, { on := 11, ground := Ground.phase }, { on := 12, ground := Ground.phase }, { on := 13, ground := Ground.phase }, { on := 14, ground := Ground.phase }, { on := 15, ground := Ground.phase }, { on := 16, ground := Ground.phase }, { on := 17, ground := Ground.phase }, { on := 18, ground := Ground.phase }, { on := 19, ground := Ground.phase }, { on := 20, ground := Ground.phase }, { on := 21, ground := Ground.phase }, { on := 22, ground := Ground.phase }, { on := 23, ground := Ground.phase }, { on := 24, ground := Ground.phase }, { on := 25, ground := Ground.phase }, { on := 26, ground := Ground.phase }, { on := 27, ground := Ground.phase }, { on := 28, ground := Ground.phase }, { on := 29, ground := Ground.phase }, { on := 30, ground := Ground.phase }, { on := 31, ground := Ground.phase }, { on := 32, ground := Ground.phase }, { on := 33, ground := Ground.phase }, { on := 34, ground := Ground.phase }, { on := 35, ground := Ground.phase }, { on := 36, ground := Ground.phase }, { on := 37, ground := Ground.phase }], guard := none }) (v := ?_) rfl (by kernel_rfl) (by kernel_rfl) (by kernel_rfl) (fun _ _ _ h => h) (Or.inl ⟨by rfl, ?_⟩) hHeld ?_
  rotate_left
  · intro w hSw; (try dsimp only at hSw); go_simp; try with_reducible rfl
  try simp only [Act.put, List.setIfInBounds_toArray, List.set_cons_zero, List.set_cons_succ]
  refine wpAnyH_done (by kernel_rfl) ?_ _
  have hb6 := hb5.trans (Below.mono (Below.trans (Below.drew (Below.refl _ _)) hR1) hb5.size)
  clear hHeld HS A5 N5 M5 O5
  go_wp2
  go_ret
  exact ⟨rfl, hb6⟩


set_option maxRecDepth 100000 in
set_option maxHeartbeats 3200000 in
theorem protos_tt (kd at1 to1 p s d a b fl tl sr ds qt nn : Int)  (w : World) :
    Calls Try.prog 5 #[.agg #[.int .i64 kd, .int .i64 at1, .int .i64 to1, .int .i64 p, .int .u32 s, .int .u32 d, .int .i64 a, .int .i64 b, .int .i64 fl, .int .i64 tl, .int .u32 sr, .int .u32 ds, .int .i64 qt, .int .i64 nn], .bool true, .bool true] w fun e w' => e = .returned (.bool true) ∧ Below w.heap.size w w' := by
  have A0 := Has.new w #[.int .i64 kd, .int .i64 at1, .int .i64 to1, .int .i64 p, .int .u32 s, .int .u32 d, .int .i64 a, .int .i64 b, .int .i64 fl, .int .i64 tl, .int .u32 sr, .int .u32 ds, .int .i64 qt, .int .i64 nn] 37
  go_enter Try.func5, Try.ntmps5
  go_wp2_with fail
  refine (examples_c _).mono ?_
  rintro e w1 ⟨rfl, hb⟩
  have hb1 : Below w.heap.size w w1 := ((Below.refl _ _).alloc (Nat.le_refl _) _).trans (hb.mono (by simp))
  have A1 := A0.below hb
  clear A0 hb
  have c1 := A1.cell
  have f1 := A1.free
  have l1 := A1.lt
  have A2 := A1.set 0 (.int .i64 1)
  have A2 := A2.set 0 (.int .i64 2)
  simp only [Array.setIfInBounds, List.size_toArray, List.length_cons, List.length_nil, Nat.reduceAdd, Nat.reduceLT, ↓reduceDIte, List.set_toArray, List.set_cons_succ, List.set_cons_zero] at A2
  clear A1
  go_wp2_with fail
  refine (name_same _ _ _ _ _ _ _ _ _ _ _ _ _ _ _ (by rfl) _).mono ?_
  rintro e w2 ⟨rfl, hb⟩
  have hb2 : Below w.heap.size w w2 := ((hb1.setCell (by simp) _).setCell (by simp) _).trans (hb.mono (by simpa [World.setCell] using hb1.size))
  have A3 := A2.below hb
  have N3 := Has.new w2 #[.int .i64 p, .int .u32 s, .int .u32 d, .int .i64 a, .int .i64 b] 24
  clear A2 hb hb1 c1 f1 l1
  have c3 := A3.cell
  have l3 := A3.lt
  go_wp2_with fail
  refine (name_same _ _ _ _ _ _ _ _ _ _ _ _ _ _ _ (by rfl) _).mono ?_
  rintro e w3 ⟨rfl, hb⟩
  have hb3 : Below w.heap.size w w3 := (hb2.alloc hb2.size _).trans (hb.mono (by simp; omega))
  have A4 := (A3.alloc _).below hb
  have N4 := N3.below hb
  have M4 := Has.new w3 #[.int .i64 p, .int .u32 s, .int .u32 d, .int .i64 a, .int .i64 b] 24
  clear A3 N3 hb hb2 c3 l3
  have c4 := A4.cell
  have l4 := A4.lt
  go_wp2_with fail
  refine (name_rev _ _ _ _ _ _ _ _ _ _ _ _ _ _ _ (by rfl) _).mono ?_
  rintro e w4 ⟨rfl, hb⟩
  have hb4 : Below w.heap.size w w4 := (hb3.alloc hb3.size _).trans (hb.mono (by simp; omega))
  have A5 := ((A4.alloc _).below hb).alloc (.cells #[.int .i64 p, .int .u32 d, .int .u32 s, .int .i64 b, .int .i64 a] 24)
  have N5 := ((N4.alloc _).below hb).alloc (.cells #[.int .i64 p, .int .u32 d, .int .u32 s, .int .i64 b, .int .i64 a] 24)
  have M5 := (M4.below hb).alloc (.cells #[.int .i64 p, .int .u32 d, .int .u32 s, .int .i64 b, .int .i64 a] 24)
  have O5 := Has.new w4 #[.int .i64 p, .int .u32 d, .int .u32 s, .int .i64 b, .int .i64 a] 24
  have hb5 := hb4.alloc hb4.size (.cells #[.int .i64 p, .int .u32 d, .int .u32 s, .int .i64 b, .int .i64 a] 24)
  clear A4 N4 M4 hb hb3 hb4 c4 l4
  go_wp2_with fail
  obtain ⟨w5, hw5⟩ : ∃ w5, w5 = w4.alloc (.cells #[.int .i64 p, .int .u32 d, .int .u32 s, .int .i64 b, .int .i64 a] 24) := ⟨_, rfl⟩
  rw [← hw5] at A5 N5 M5 O5 hb5 ⊢
  clear hw5
  have HS : Hid (∀ W : World, Below w5.heap.size w5 W → W.cell? ⟨w2.heap.size, 0, none⟩ = some (.int .i64 p) ∧ W.cell? ⟨w2.heap.size, 1, none⟩ = some (.int .u32 s) ∧ W.cell? ⟨w2.heap.size, 2, none⟩ = some (.int .u32 d) ∧ W.cell? ⟨w2.heap.size, 3, none⟩ = some (.int .i64 a) ∧ W.cell? ⟨w2.heap.size, 4, none⟩ = some (.int .i64 b) ∧ W.cell? ⟨w3.heap.size, 0, none⟩ = some (.int .i64 p) ∧ W.cell? ⟨w3.heap.size, 1, none⟩ = some (.int .u32 s) ∧ W.cell? ⟨w3.heap.size, 2, none⟩ = some (.int .u32 d) ∧ W.cell? ⟨w3.heap.size, 3, none⟩ = some (.int .i64 a) ∧ W.cell? ⟨w3.heap.size, 4, none⟩ = some (.int .i64 b) ∧ W.cell? ⟨w4.heap.size, 0, none⟩ = some (.int .i64 p) ∧ W.cell? ⟨w4.heap.size, 1, none⟩ = some (.int .u32 d) ∧ W.cell? ⟨w4.heap.size, 2, none⟩ = some (.int .u32 s) ∧ W.cell? ⟨w4.heap.size, 3, none⟩ = some (.int .i64 b) ∧ W.cell? ⟨w4.heap.size, 4, none⟩ = some (.int .i64 a) ∧ W.cell? ⟨w.heap.size, 3, none⟩ = some (.int .i64 p) ∧ W.cell? ⟨w.heap.size, 4, none⟩ = some (.int .u32 s) ∧ W.cell? ⟨w.heap.size, 5, none⟩ = some (.int .u32 d) ∧ W.cell? ⟨w.heap.size, 6, none⟩ = some (.int .i64 a) ∧ W.cell? ⟨w.heap.size, 7, none⟩ = some (.int .i64 b) ∧ Below w5.heap.size w5 W) := fun W q => ⟨(N5.below q).cell 0, (N5.below q).cell 1, (N5.below q).cell 2, (N5.below q).cell 3, (N5.below q).cell 4, (M5.below q).cell 0, (M5.below q).cell 1, (M5.below q).cell 2, (M5.below q).cell 3, (M5.below q).cell 4, (O5.below q).cell 0, (O5.below q).cell 1, (O5.below q).cell 2, (O5.below q).cell 3, (O5.below q).cell 4, (A5.below q).cell 3, (A5.below q).cell 4, (A5.below q).cell 5, (A5.below q).cell 6, (A5.below q).cell 7, q⟩
  refine wp_region_held_drew (S := fun W => W.cell? ⟨w2.heap.size, 0, none⟩ = some (.int .i64 p) ∧ W.cell? ⟨w2.heap.size, 1, none⟩ = some (.int .u32 s) ∧ W.cell? ⟨w2.heap.size, 2, none⟩ = some (.int .u32 d) ∧ W.cell? ⟨w2.heap.size, 3, none⟩ = some (.int .i64 a) ∧ W.cell? ⟨w2.heap.size, 4, none⟩ = some (.int .i64 b) ∧ W.cell? ⟨w3.heap.size, 0, none⟩ = some (.int .i64 p) ∧ W.cell? ⟨w3.heap.size, 1, none⟩ = some (.int .u32 s) ∧ W.cell? ⟨w3.heap.size, 2, none⟩ = some (.int .u32 d) ∧ W.cell? ⟨w3.heap.size, 3, none⟩ = some (.int .i64 a) ∧ W.cell? ⟨w3.heap.size, 4, none⟩ = some (.int .i64 b) ∧ W.cell? ⟨w4.heap.size, 0, none⟩ = some (.int .i64 p) ∧ W.cell? ⟨w4.heap.size, 1, none⟩ = some (.int .u32 d) ∧ W.cell? ⟨w4.heap.size, 2, none⟩ = some (.int .u32 s) ∧ W.cell? ⟨w4.heap.size, 3, none⟩ = some (.int .i64 b) ∧ W.cell? ⟨w4.heap.size, 4, none⟩ = some (.int .i64 a) ∧ W.cell? ⟨w.heap.size, 3, none⟩ = some (.int .i64 p) ∧ W.cell? ⟨w.heap.size, 4, none⟩ = some (.int .u32 s) ∧ W.cell? ⟨w.heap.size, 5, none⟩ = some (.int .u32 d) ∧ W.cell? ⟨w.heap.size, 6, none⟩ = some (.int .i64 a) ∧ W.cell? ⟨w.heap.size, 7, none⟩ = some (.int .i64 b) ∧ Below w5.heap.size w5 W) (by kernel_rfl) (HS.out _ (Below.drew (Below.refl _ _))) (fun hHeld => ?_)
  refine wpAnyH_take (i := 0) (oi := { dst := some 31, op := Op.move (Operand.tmp 7), type := 4, pos := "keeps.go:59", after := #[], guard := none }) (v := ?_) rfl (by kernel_rfl) (by kernel_rfl) (by kernel_rfl) (fun _ _ _ h => h) (Or.inl ⟨by rfl, ?_⟩) hHeld ?_
  rotate_left
  · intro w hSw; (try dsimp only at hSw); go_simp; try with_reducible rfl
  try simp only [Act.put, List.setIfInBounds_toArray, List.set_cons_zero, List.set_cons_succ]
  refine wpAnyH_take (i := 1) (oi := { dst := some 32, op := Op.move (Operand.tmp 31), type := 4, pos := "keeps.go:59", after := #[{ on := 0, ground := Ground.data }], guard := none }) (v := ?_) rfl (by kernel_rfl) (by kernel_rfl) (by kernel_rfl) (fun _ _ _ h => h) (Or.inl ⟨by rfl, ?_⟩) hHeld ?_
  rotate_left
  · intro w hSw; (try dsimp only at hSw); go_simp; try with_reducible rfl
  try simp only [Act.put, List.setIfInBounds_toArray, List.set_cons_zero, List.set_cons_succ]
  refine wpAnyH_take (i := 2) (oi := { dst := some 33, op := Op.load 24 (Operand.tmp 8), type := 24, pos := "keeps.go:59", after := #[{ on := 1, ground := Ground.guard }], guard := some (1, true) }) (v := ?_) rfl (by kernel_rfl) (by kernel_rfl) (by kernel_rfl) (fun _ _ _ h => h) (Or.inl ⟨by rfl, ?_⟩) hHeld ?_
  rotate_left
  · intro w hSw; (try dsimp only at hSw); go_simp; try with_reducible rfl
  try simp only [Act.put, List.setIfInBounds_toArray, List.set_cons_zero, List.set_cons_succ]
  refine wpAnyH_take (i := 3) (oi := { dst := some 34, op := Op.load 24 (Operand.tmp 9), type := 24, pos := "keeps.go:59", after := #[{ on := 1, ground := Ground.guard }], guard := some (1, true) }) (v := ?_) rfl (by kernel_rfl) (by kernel_rfl) (by kernel_rfl) (fun _ _ _ h => h) (Or.inl ⟨by rfl, ?_⟩) hHeld ?_
  rotate_left
  · intro w hSw; (try dsimp only at hSw); go_simp; try with_reducible rfl
  try simp only [Act.put, List.setIfInBounds_toArray, List.set_cons_zero, List.set_cons_succ]
  refine wpAnyH_take (i := 4) (oi := { dst := some 35, op := Op.binOp BinOp.eql 24 (Operand.tmp 33) (Operand.tmp 34) 24, type := 4, pos := "keeps.go:59", after := #[{ on := 2, ground := Ground.data }, { on := 3, ground := Ground.data }, { on := 1, ground := Ground.guard }], guard := some (1, true) }) (v := ?_) rfl (by kernel_rfl) (by kernel_rfl) (by kernel_rfl) (fun _ _ _ h => h) (Or.inl ⟨by rfl, ?_⟩) hHeld ?_
  rotate_left
  · intro w hSw; (try dsimp only at hSw); go_simp; try with_reducible rfl
  try simp only [Act.put, List.setIfInBounds_toArray, List.set_cons_zero, List.set_cons_succ]
  refine wpAnyH_take (i := 5) (oi := { dst := some 36, op := Op.pick (Operand.tmp 32) (Operand.tmp 35) (Operand.const (Value.bool false)), type := 4, pos := "keeps.go:59", after := #[{ on := 1, ground := Ground.data }, { on := 4, ground := Ground.data }], guard := none }) (v := ?_) rfl (by kernel_rfl) (by kernel_rfl) (by kernel_rfl) (fun _ _ _ h => h) (Or.inl ⟨by rfl, ?_⟩) hHeld ?_
  rotate_left
  · intro w hSw; (try dsimp only at hSw); go_simp; try with_reducible rfl
  try simp only [Act.put, List.setIfInBounds_toArray, List.set_cons_zero, List.set_cons_succ]
  refine wpAnyH_take (i := 6) (oi := { dst := some 37, op := Op.move (Operand.tmp 36), type := 4, pos := "keeps.go:59", after := #[{ on := 5, ground := Ground.data }, { on := 1, ground := Ground.chain }], guard := none }) (v := ?_) rfl (by kernel_rfl) (by kernel_rfl) (by kernel_rfl) (fun _ _ _ h => h) (Or.inl ⟨by rfl, ?_⟩) hHeld ?_
  rotate_left
  · intro w hSw; (try dsimp only at hSw); go_simp; try with_reducible rfl
  try simp only [Act.put, List.setIfInBounds_toArray, List.set_cons_zero, List.set_cons_succ]
  refine wpAnyH_take (i := 7) (oi := { dst := some 38, op := Op.fieldAddr 24 (Operand.tmp 8) 0, type := 0, pos := "keeps.go:59", after := #[{ on := 6, ground := Ground.guard }], guard := some (6, true) }) (v := ?_) rfl (by kernel_rfl) (by kernel_rfl) (by kernel_rfl) (fun _ _ _ h => h) (Or.inl ⟨by rfl, ?_⟩) hHeld ?_
  rotate_left
  · intro w hSw; (try dsimp only at hSw); go_simp; try with_reducible rfl
  try simp only [Act.put, List.setIfInBounds_toArray, List.set_cons_zero, List.set_cons_succ]
  refine wpAnyH_take (i := 8) (oi := { dst := some 39, op := Op.load 3 (Operand.tmp 38), type := 3, pos := "keeps.go:59", after := #[{ on := 7, ground := Ground.data }, { on := 6, ground := Ground.guard }], guard := some (6, true) }) (v := ?_) rfl (by kernel_rfl) (by kernel_rfl) (by kernel_rfl) (fun _ _ _ h => h) (Or.inl ⟨by rfl, ?_⟩) hHeld ?_
  rotate_left
  · intro w hSw; (try dsimp only at hSw); go_simp; try with_reducible rfl
  try simp only [Act.put, List.setIfInBounds_toArray, List.set_cons_zero, List.set_cons_succ]
  refine wpAnyH_take (i := 9) (oi := { dst := some 40, op := Op.fieldAddr 37 (Operand.tmp 3) 3, type := 0, pos := "keeps.go:59", after := #[{ on := 6, ground := Ground.guard }], guard := some (6, true) }) (v := ?_) rfl (by kernel_rfl) (by kernel_rfl) (by kernel_rfl) (fun _ _ _ h => h) (Or.inl ⟨by rfl, ?_⟩) hHeld ?_
  rotate_left
  · intro w hSw; (try dsimp only at hSw); go_simp; try with_reducible rfl
  try simp only [Act.put, List.setIfInBounds_toArray, List.set_cons_zero, List.set_cons_succ]
  refine wpAnyH_take (i := 10) (oi := { dst := some 41, op := Op.fieldAddr 24 (Operand.tmp 40) 0, type := 0, pos := "keeps.go:59", after := #[{ on := 9, ground := Ground.data }, { on := 6, ground := Ground.guard }], guard := some (6, true) }) (v := ?_) rfl (by kernel_rfl) (by kernel_rfl) (by kernel_rfl) (fun _ _ _ h => h) (Or.inl ⟨by rfl, ?_⟩) hHeld ?_
  rotate_left
  · intro w hSw; (try dsimp only at hSw); go_simp; try with_reducible rfl
  try simp only [Act.put, List.setIfInBounds_toArray, List.set_cons_zero, List.set_cons_succ]
  refine wpAnyH_take (i := 11) (oi := { dst := some 42, op := Op.load 3 (Operand.tmp 41), type := 3, pos := "keeps.go:59", after := #[{ on := 10, ground := Ground.data }, { on := 6, ground := Ground.guard }], guard := some (6, true) }) (v := ?_) rfl (by kernel_rfl) (by kernel_rfl) (by kernel_rfl) (fun _ _ _ h => h) (Or.inl ⟨by rfl, ?_⟩) hHeld ?_
  rotate_left
  · intro w hSw; (try dsimp only at hSw); go_simp; try with_reducible rfl
  try simp only [Act.put, List.setIfInBounds_toArray, List.set_cons_zero, List.set_cons_succ]
  refine wpAnyH_take (i := 12) (oi := { dst := some 43, op := Op.binOp BinOp.eql 3 (Operand.tmp 39) (Operand.tmp 42) 3, type := 4, pos := "keeps.go:59", after := #[{ on := 8, ground := Ground.data }, { on := 11, ground := Ground.data }, { on := 6, ground := Ground.guard }], guard := some (6, true) }) (v := ?_) rfl (by kernel_rfl) (by kernel_rfl) (by kernel_rfl) (fun _ _ _ h => h) (Or.inl ⟨by rfl, ?_⟩) hHeld ?_
  rotate_left
  · intro w hSw; (try dsimp only at hSw); go_simp; try with_reducible rfl
  try simp only [Act.put, List.setIfInBounds_toArray, List.set_cons_zero, List.set_cons_succ]
  refine wpAnyH_take (i := 13) (oi := { dst := some 44, op := Op.pick (Operand.tmp 37) (Operand.tmp 43) (Operand.const (Value.bool false)), type := 4, pos := "keeps.go:59", after := #[{ on := 6, ground := Ground.data }, { on := 12, ground := Ground.data }], guard := none }) (v := ?_) rfl (by kernel_rfl) (by kernel_rfl) (by kernel_rfl) (fun _ _ _ h => h) (Or.inl ⟨by rfl, ?_⟩) hHeld ?_
  rotate_left
  · intro w hSw; (try dsimp only at hSw); go_simp; try with_reducible rfl
  try simp only [Act.put, List.setIfInBounds_toArray, List.set_cons_zero, List.set_cons_succ]
  refine wpAnyH_take (i := 14) (oi := { dst := some 45, op := Op.move (Operand.tmp 44), type := 4, pos := "keeps.go:59", after := #[{ on := 13, ground := Ground.data }, { on := 6, ground := Ground.chain }], guard := none }) (v := ?_) rfl (by kernel_rfl) (by kernel_rfl) (by kernel_rfl) (fun _ _ _ h => h) (Or.inl ⟨by rfl, ?_⟩) hHeld ?_
  rotate_left
  · intro w hSw; (try dsimp only at hSw); go_simp; try with_reducible rfl
  try simp only [Act.put, List.setIfInBounds_toArray, List.set_cons_zero, List.set_cons_succ]
  refine wpAnyH_take (i := 15) (oi := { dst := some 46, op := Op.load 24 (Operand.tmp 10), type := 24, pos := "keeps.go:59", after := #[{ on := 14, ground := Ground.guard }], guard := some (14, true) }) (v := ?_) rfl (by kernel_rfl) (by kernel_rfl) (by kernel_rfl) (fun _ _ _ h => h) (Or.inl ⟨by rfl, ?_⟩) hHeld ?_
  rotate_left
  · intro w hSw; (try dsimp only at hSw); go_simp; try with_reducible rfl
  try simp only [Act.put, List.setIfInBounds_toArray, List.set_cons_zero, List.set_cons_succ]
  refine wpAnyH_take (i := 16) (oi := { dst := some 47, op := Op.load 24 (Operand.tmp 8), type := 24, pos := "keeps.go:59", after := #[{ on := 14, ground := Ground.guard }], guard := some (14, true) }) (v := ?_) rfl (by kernel_rfl) (by kernel_rfl) (by kernel_rfl) (fun _ _ _ h => h) (Or.inl ⟨by rfl, ?_⟩) hHeld ?_
  rotate_left
  · intro w hSw; (try dsimp only at hSw); go_simp; try with_reducible rfl
  try simp only [Act.put, List.setIfInBounds_toArray, List.set_cons_zero, List.set_cons_succ]
  refine wpAnyH_ready (rs := [17]) (by kernel_rfl) (by simp) ?_
  refine AllReadyH.cons (o := { dst := some 48, op := Op.call { callee := Callee.value (Operand.func 11), args := #[Operand.tmp 47], argTypes := #[24] }, type := 24, pos := "keeps.go:59", after := #[{ on := 16, ground := Ground.data }, { on := 14, ground := Ground.chain }, { on := 14, ground := Ground.guard }], guard := some (14, true) }) rfl (fun K hK => ?_) AllReadyH.nil
  go_simp
  refine (rev_c _ _ _ _ _ _).mono ?_
  rintro e wR ⟨rfl, hR1⟩
  have hz1 : w5.heap.size ≤ wR.heap.size := (by have q := hR1.size; exact q)
  go_simp
  refine hK.out _ _ (HS.out _ (Below.trans (Below.drew (Below.refl _ _)) hR1)) (fun hHeld2 => ?_)
  clear hK K hHeld
  have hHeld := hHeld2
  clear hHeld2
  try simp only [Act.put, List.setIfInBounds_toArray, List.set_cons_zero, List.set_cons_succ]
  refine wpAnyH_take (i := 18) (oi := { dst := some 49, op := Op.binOp BinOp.eql 24 (Operand.tmp 46) (Operand.tmp 48) 24, type := 4, pos := "keeps.go:59", after := #[{ on := 15, ground := Ground.data }, { on := 17, ground := Ground.data }, { on := 14, ground := Ground.guard }], guard := some (14, true) }) (v := ?_) rfl (by kernel_rfl) (by kernel_rfl) (by kernel_rfl) (fun _ _ _ h => h) (Or.inl ⟨by rfl, ?_⟩) hHeld ?_
  rotate_left
  · intro w hSw; (try dsimp only at hSw); go_simp; try with_reducible rfl
  try simp only [Act.put, List.setIfInBounds_toArray, List.set_cons_zero, List.set_cons_succ]
  refine wpAnyH_take (i := 19) (oi := { dst := some 50, op := Op.pick (Operand.tmp 45) (Operand.tmp 49) (Operand.const (Value.bool false)), type := 4, pos := "keeps.go:59", after := #[{ on := 14, ground := Ground.data }, { on := 18, ground := Ground.data }], guard := none }) (v := ?_) rfl (by kernel_rfl) (by kernel_rfl) (by kernel_rfl) (fun _ _ _ h => h) (Or.inl ⟨by rfl, ?_⟩) hHeld ?_
  rotate_left
  · intro w hSw; (try dsimp only at hSw); go_simp; try with_reducible rfl
  try simp only [Act.put, List.setIfInBounds_toArray, List.set_cons_zero, List.set_cons_succ]
  refine wpAnyH_take (i := 20) (oi := { dst := some 51, op := Op.move (Operand.tmp 50), type := 4, pos := "keeps.go:59", after := #[{ on := 19, ground := Ground.data }, { on := 17, ground := Ground.chain }], guard := none }) (v := ?_) rfl (by kernel_rfl) (by kernel_rfl) (by kernel_rfl) (fun _ _ _ h => h) (Or.inl ⟨by rfl, ?_⟩) hHeld ?_
  rotate_left
  · intro w hSw; (try dsimp only at hSw); go_simp; try with_reducible rfl
  try simp only [Act.put, List.setIfInBounds_toArray, List.set_cons_zero, List.set_cons_succ]
  refine wpAnyH_take (i := 21) (oi := { dst := some 52, op := Op.load 24 (Operand.tmp 8), type := 24, pos := "keeps.go:59", after := #[{ on := 20, ground := Ground.guard }], guard := some (20, true) }) (v := ?_) rfl (by kernel_rfl) (by kernel_rfl) (by kernel_rfl) (fun _ _ _ h => h) (Or.inl ⟨by rfl, ?_⟩) hHeld ?_
  rotate_left
  · intro w hSw; (try dsimp only at hSw); go_simp; try with_reducible rfl
  try simp only [Act.put, List.setIfInBounds_toArray, List.set_cons_zero, List.set_cons_succ]
  refine wpAnyH_take (i := 22) (oi := { dst := some 53, op := Op.fieldAddr 37 (Operand.tmp 3) 3, type := 0, pos := "keeps.go:59", after := #[{ on := 20, ground := Ground.guard }], guard := some (20, true) }) (v := ?_) rfl (by kernel_rfl) (by kernel_rfl) (by kernel_rfl) (fun _ _ _ h => h) (Or.inl ⟨by rfl, ?_⟩) hHeld ?_
  rotate_left
  · intro w hSw; (try dsimp only at hSw); go_simp; try with_reducible rfl
  try simp only [Act.put, List.setIfInBounds_toArray, List.set_cons_zero, List.set_cons_succ]
  refine wpAnyH_take (i := 23) (oi := { dst := some 54, op := Op.load 24 (Operand.tmp 53), type := 24, pos := "keeps.go:59", after := #[{ on := 22, ground := Ground.data }, { on := 20, ground := Ground.guard }], guard := some (20, true) }) (v := ?_) rfl (by kernel_rfl) (by kernel_rfl) (by kernel_rfl) (fun _ _ _ h => h) (Or.inl ⟨by rfl, ?_⟩) hHeld ?_
  rotate_left
  · intro w hSw; (try dsimp only at hSw); go_simp; try with_reducible rfl
  try simp only [Act.put, List.setIfInBounds_toArray, List.set_cons_zero, List.set_cons_succ]
  refine wpAnyH_take (i := 24) (oi := { dst := some 55, op := Op.binOp BinOp.eql 24 (Operand.tmp 52) (Operand.tmp 54) 24, type := 4, pos := "keeps.go:59", after := #[{ on := 21, ground := Ground.data }, { on := 23, ground := Ground.data }, { on := 20, ground := Ground.guard }], guard := some (20, true) }) (v := ?_) rfl (by kernel_rfl) (by kernel_rfl) (by kernel_rfl) (fun _ _ _ h => h) (Or.inl ⟨by rfl, ?_⟩) hHeld ?_
  rotate_left
  · intro w hSw; (try dsimp only at hSw); go_simp; try with_reducible rfl
  try simp only [Act.put, List.setIfInBounds_toArray, List.set_cons_zero, List.set_cons_succ]
  refine wpAnyH_take (i := 25) (oi := { dst := some 56, op := Op.move (Operand.tmp 1), type := 4, pos := "keeps.go:59", after := #[{ on := 20, ground := Ground.guard }], guard := some (20, true) }) (v := ?_) rfl (by kernel_rfl) (by kernel_rfl) (by kernel_rfl) (fun _ _ _ h => h) (Or.inl ⟨by rfl, ?_⟩) hHeld ?_
  rotate_left
  · intro w hSw; (try dsimp only at hSw); go_simp; try with_reducible rfl
  try simp only [Act.put, List.setIfInBounds_toArray, List.set_cons_zero, List.set_cons_succ]
  refine wpAnyH_take (i := 26) (oi := { dst := some 57, op := Op.move (Operand.tmp 2), type := 4, pos := "keeps.go:59", after := #[{ on := 20, ground := Ground.guard }], guard := some (20, true) }) (v := ?_) rfl (by kernel_rfl) (by kernel_rfl) (by kernel_rfl) (fun _ _ _ h => h) (Or.inl ⟨by rfl, ?_⟩) hHeld ?_
  rotate_left
  · intro w hSw; (try dsimp only at hSw); go_simp; try with_reducible rfl
  try simp only [Act.put, List.setIfInBounds_toArray, List.set_cons_zero, List.set_cons_succ]
  refine wpAnyH_take (i := 27) (oi := { dst := some 58, op := Op.binOp BinOp.eql 4 (Operand.tmp 56) (Operand.tmp 57) 4, type := 4, pos := "keeps.go:59", after := #[{ on := 25, ground := Ground.data }, { on := 26, ground := Ground.data }, { on := 20, ground := Ground.guard }], guard := some (20, true) }) (v := ?_) rfl (by kernel_rfl) (by kernel_rfl) (by kernel_rfl) (fun _ _ _ h => h) (Or.inl ⟨by rfl, ?_⟩) hHeld ?_
  rotate_left
  · intro w hSw; (try dsimp only at hSw); go_simp; try with_reducible rfl
  try simp only [Act.put, List.setIfInBounds_toArray, List.set_cons_zero, List.set_cons_succ]
  refine wpAnyH_take (i := 28) (oi := { dst := some 59, op := Op.move (Operand.tmp 58), type := 4, pos := "keeps.go:59", after := #[{ on := 27, ground := Ground.data }, { on := 20, ground := Ground.chain }, { on := 20, ground := Ground.guard }], guard := some (20, true) }) (v := ?_) rfl (by kernel_rfl) (by kernel_rfl) (by kernel_rfl) (fun _ _ _ h => h) (Or.inl ⟨by rfl, ?_⟩) hHeld ?_
  rotate_left
  · intro w hSw; (try dsimp only at hSw); go_simp; try with_reducible rfl
  try simp only [Act.put, List.setIfInBounds_toArray, List.set_cons_zero, List.set_cons_succ]
  refine wpAnyH_take (i := 29) (oi := { dst := some 60, op := Op.fieldAddr 37 (Operand.tmp 3) 3, type := 0, pos := "keeps.go:59", after := #[{ on := 28, ground := Ground.guard }], guard := some (28, false) }) (v := undef) rfl (by kernel_rfl) (by kernel_rfl) (by kernel_rfl) (fun _ _ _ h => h) (Or.inr ⟨by rfl, rfl⟩) hHeld ?_
  try simp only [Act.put, List.setIfInBounds_toArray, List.set_cons_zero, List.set_cons_succ]
  refine wpAnyH_take (i := 30) (oi := { dst := some 61, op := Op.load 24 (Operand.tmp 60), type := 24, pos := "keeps.go:59", after := #[{ on := 29, ground := Ground.data }, { on := 28, ground := Ground.guard }], guard := some (28, false) }) (v := undef) rfl (by kernel_rfl) (by kernel_rfl) (by kernel_rfl) (fun _ _ _ h => h) (Or.inr ⟨by rfl, rfl⟩) hHeld ?_
  try simp only [Act.put, List.setIfInBounds_toArray, List.set_cons_zero, List.set_cons_succ]
  refine wpAnyH_take (i := 31) (oi := { dst := some 62, op := Op.fieldAddr 37 (Operand.tmp 3) 3, type := 0, pos := "keeps.go:59", after := #[{ on := 28, ground := Ground.guard }], guard := some (28, false) }) (v := undef) rfl (by kernel_rfl) (by kernel_rfl) (by kernel_rfl) (fun _ _ _ h => h) (Or.inr ⟨by rfl, rfl⟩) hHeld ?_
  try simp only [Act.put, List.setIfInBounds_toArray, List.set_cons_zero, List.set_cons_succ]
  refine wpAnyH_take (i := 32) (oi := { dst := some 63, op := Op.load 24 (Operand.tmp 62), type := 24, pos := "keeps.go:59", after := #[{ on := 31, ground := Ground.data }, { on := 28, ground := Ground.guard }], guard := some (28, false) }) (v := undef) rfl (by kernel_rfl) (by kernel_rfl) (by kernel_rfl) (fun _ _ _ h => h) (Or.inr ⟨by rfl, rfl⟩) hHeld ?_
  try simp only [Act.put, List.setIfInBounds_toArray, List.set_cons_zero, List.set_cons_succ]
  refine wpAnyH_take (i := 33) (oi := { dst := some 64, op := Op.call { callee := Callee.value (Operand.func 11), args := #[Operand.tmp 63], argTypes := #[24] }, type := 24, pos := "keeps.go:59", after := #[{ on := 32, ground := Ground.data }, { on := 28, ground := Ground.chain }, { on := 28, ground := Ground.guard }], guard := some (28, false) }) (v := undef) rfl (by kernel_rfl) (by kernel_rfl) (by kernel_rfl) (fun _ _ _ h => h) (Or.inr ⟨by rfl, rfl⟩) hHeld ?_
  try simp only [Act.put, List.setIfInBounds_toArray, List.set_cons_zero, List.set_cons_succ]
  refine wpAnyH_take (i := 34) (oi := { dst := some 65, op := Op.binOp BinOp.eql 24 (Operand.tmp 61) (Operand.tmp 64) 24, type := 4, pos := "keeps.go:59", after := #[{ on := 30, ground := Ground.data }, { on := 33, ground := Ground.data }, { on := 28, ground := Ground.guard }], guard := some (28, false) }) (v := undef) rfl (by kernel_rfl) (by kernel_rfl) (by kernel_rfl) (fun _ _ _ h => h) (Or.inr ⟨by rfl, rfl⟩) hHeld ?_
  try simp only [Act.put, List.setIfInBounds_toArray, List.set_cons_zero, List.set_cons_succ]
  refine wpAnyH_take (i := 35) (oi := { dst := some 66, op := Op.pick (Operand.tmp 59) (Operand.const (Value.bool true)) (Operand.tmp 65), type := 4, pos := "keeps.go:59", after := #[{ on := 28, ground := Ground.data }, { on := 34, ground := Ground.data }, { on := 20, ground := Ground.guard }], guard := some (20, true) }) (v := ?_) rfl (by kernel_rfl) (by kernel_rfl) (by kernel_rfl) (fun _ _ _ h => h) (Or.inl ⟨by rfl, ?_⟩) hHeld ?_
  rotate_left
  · intro w hSw; (try dsimp only at hSw); go_simp; try with_reducible rfl
  try simp only [Act.put, List.setIfInBounds_toArray, List.set_cons_zero, List.set_cons_succ]
  refine wpAnyH_take (i := 36) (oi := { dst := some 67, op := Op.binOp BinOp.eql 4 (Operand.tmp 55) (Operand.tmp 66) 4, type := 4, pos := "keeps.go:59", after := #[{ on := 24, ground := Ground.data }, { on := 35, ground := Ground.data }, { on := 20, ground := Ground.guard }], guard := some (20, true) }) (v := ?_) rfl (by kernel_rfl) (by kernel_rfl) (by kernel_rfl) (fun _ _ _ h => h) (Or.inl ⟨by rfl, ?_⟩) hHeld ?_
  rotate_left
  · intro w hSw; (try dsimp only at hSw); go_simp; try with_reducible rfl
  try simp only [Act.put, List.setIfInBounds_toArray, List.set_cons_zero, List.set_cons_succ]
  refine wpAnyH_take (i := 37) (oi := { dst := some 68, op := Op.pick (Operand.tmp 51) (Operand.tmp 67) (Operand.const (Value.bool false)), type := 4, pos := "keeps.go:59", after := #[{ on := 20, ground := Ground.data }, { on := 36, ground := Ground.data }], guard := none }) (v := ?_) rfl (by kernel_rfl) (by kernel_rfl) (by kernel_rfl) (fun _ _ _ h => h) (Or.inl ⟨by rfl, ?_⟩) hHeld ?_
  rotate_left
  · intro w hSw; (try dsimp only at hSw); go_simp; try with_reducible rfl
  try simp only [Act.put, List.setIfInBounds_toArray, List.set_cons_zero, List.set_cons_succ]
  refine wpAnyH_take (i := 38) (oi := { dst := some 6, op := Op.assign (Operand.tmp 68), type := 4, pos := "keeps.go:59", after := #[{ on := 37, ground := Ground.data }, { on := 33, ground := Ground.chain }, { on := 0, ground := Ground.phase }, { on := 1, ground := Ground.phase }, { on := 2, ground := Ground.phase }, { on := 3, ground := Ground.phase }, { on := 4, ground := Ground.phase }, { on := 5, ground := Ground.phase }, { on := 6, ground := Ground.phase }, { on := 7, ground := Ground.phase }, { on := 8, ground := Ground.phase }, { on := 9, ground := Ground.phase }, { on := 10, ground := Ground.phase }, { on := 11, ground := Ground.phase }, { on := 12, ground := Ground.phase }, { on := 13, ground := Ground.phase }, { on := 14, ground := Ground.phase }, { on := 15, ground := Ground.phase }, { on := 16, ground := Ground.phase }, { on := 17, ground := Ground.phase }, { on := 18, ground := Ground.phase }, { on := 19, ground := Ground.phase }, { on := 20, ground := Ground.phase }, { on := 21, ground := Ground.phase }, { on := 22, ground := Ground.phase }, { on := 23, ground := Ground.phase }, { on := 24, ground := Ground.phase }, { on := 25, ground := Ground.phase }, { on := 26, ground := Ground.phase }, { on := 27, ground := Ground.phase }, { on := 28, ground := Ground.phase }, { on := 29, ground := Ground.phase }, { on := 30, ground := Ground.phase }, { on := 31, ground := Ground.phase }, { on := 32, ground := Ground.phase }, { on := 33, ground := Ground.phase }, { on := 34, ground := Ground.phase }, { on := 35, ground := Ground.phase }, { on := 36, ground := Ground.phase }, { on := 37, ground := Ground.phase }], guard := none }) (v := ?_) rfl (by kernel_rfl) (by kernel_rfl) (by kernel_rfl) (fun _ _ _ h => h) (Or.inl ⟨by rfl, ?_⟩) hHeld ?_
  rotate_left
  · intro w hSw; (try dsimp only at hSw); go_simp; try with_reducible rfl
  try simp only [Act.put, List.setIfInBounds_toArray, List.set_cons_zero, List.set_cons_succ]
  refine wpAnyH_done (by kernel_rfl) ?_ _
  have hb6 := hb5.trans (Below.mono (Below.trans (Below.drew (Below.refl _ _)) hR1) hb5.size)
  clear hHeld HS A5 N5 M5 O5
  go_wp2
  go_ret
  exact ⟨rfl, hb6⟩


set_option maxRecDepth 100000 in
set_option maxHeartbeats 3200000 in
theorem protos_fte (kd at1 to1 p s d a b fl tl sr ds qt nn : Int) (he : s = d ∧ a = b) (w : World) :
    Calls Try.prog 5 #[.agg #[.int .i64 kd, .int .i64 at1, .int .i64 to1, .int .i64 p, .int .u32 s, .int .u32 d, .int .i64 a, .int .i64 b, .int .i64 fl, .int .i64 tl, .int .u32 sr, .int .u32 ds, .int .i64 qt, .int .i64 nn], .bool false, .bool true] w fun e w' => e = .returned (.bool true) ∧ Below w.heap.size w w' := by
  obtain ⟨rfl, rfl⟩ := he
  have A0 := Has.new w #[.int .i64 kd, .int .i64 at1, .int .i64 to1, .int .i64 p, .int .u32 s, .int .u32 s, .int .i64 a, .int .i64 a, .int .i64 fl, .int .i64 tl, .int .u32 sr, .int .u32 ds, .int .i64 qt, .int .i64 nn] 37
  go_enter Try.func5, Try.ntmps5
  go_wp2_with fail
  refine (examples_c _).mono ?_
  rintro e w1 ⟨rfl, hb⟩
  have hb1 : Below w.heap.size w w1 := ((Below.refl _ _).alloc (Nat.le_refl _) _).trans (hb.mono (by simp))
  have A1 := A0.below hb
  clear A0 hb
  have c1 := A1.cell
  have f1 := A1.free
  have l1 := A1.lt
  have A2 := A1.set 0 (.int .i64 1)
  have A2 := A2.set 0 (.int .i64 2)
  simp only [Array.setIfInBounds, List.size_toArray, List.length_cons, List.length_nil, Nat.reduceAdd, Nat.reduceLT, ↓reduceDIte, List.set_toArray, List.set_cons_succ, List.set_cons_zero] at A2
  clear A1
  go_wp2_with fail
  refine (name_rev _ _ _ _ _ _ _ _ _ _ _ _ _ _ _ (by rfl) _).mono ?_
  rintro e w2 ⟨rfl, hb⟩
  have hb2 : Below w.heap.size w w2 := ((hb1.setCell (by simp) _).setCell (by simp) _).trans (hb.mono (by simpa [World.setCell] using hb1.size))
  have A3 := A2.below hb
  have N3 := Has.new w2 #[.int .i64 p, .int .u32 s, .int .u32 s, .int .i64 a, .int .i64 a] 24
  clear A2 hb hb1 c1 f1 l1
  have c3 := A3.cell
  have l3 := A3.lt
  go_wp2_with fail
  refine (name_rev _ _ _ _ _ _ _ _ _ _ _ _ _ _ _ (by rfl) _).mono ?_
  rintro e w3 ⟨rfl, hb⟩
  have hb3 : Below w.heap.size w w3 := (hb2.alloc hb2.size _).trans (hb.mono (by simp; omega))
  have A4 := (A3.alloc _).below hb
  have N4 := N3.below hb
  have M4 := Has.new w3 #[.int .i64 p, .int .u32 s, .int .u32 s, .int .i64 a, .int .i64 a] 24
  clear A3 N3 hb hb2 c3 l3
  have c4 := A4.cell
  have l4 := A4.lt
  go_wp2_with fail
  refine (name_same _ _ _ _ _ _ _ _ _ _ _ _ _ _ _ (by rfl) _).mono ?_
  rintro e w4 ⟨rfl, hb⟩
  have hb4 : Below w.heap.size w w4 := (hb3.alloc hb3.size _).trans (hb.mono (by simp; omega))
  have A5 := ((A4.alloc _).below hb).alloc (.cells #[.int .i64 p, .int .u32 s, .int .u32 s, .int .i64 a, .int .i64 a] 24)
  have N5 := ((N4.alloc _).below hb).alloc (.cells #[.int .i64 p, .int .u32 s, .int .u32 s, .int .i64 a, .int .i64 a] 24)
  have M5 := (M4.below hb).alloc (.cells #[.int .i64 p, .int .u32 s, .int .u32 s, .int .i64 a, .int .i64 a] 24)
  have O5 := Has.new w4 #[.int .i64 p, .int .u32 s, .int .u32 s, .int .i64 a, .int .i64 a] 24
  have hb5 := hb4.alloc hb4.size (.cells #[.int .i64 p, .int .u32 s, .int .u32 s, .int .i64 a, .int .i64 a] 24)
  clear A4 N4 M4 hb hb3 hb4 c4 l4
  go_wp2_with fail
  obtain ⟨w5, hw5⟩ : ∃ w5, w5 = w4.alloc (.cells #[.int .i64 p, .int .u32 s, .int .u32 s, .int .i64 a, .int .i64 a] 24) := ⟨_, rfl⟩
  rw [← hw5] at A5 N5 M5 O5 hb5 ⊢
  clear hw5
  have HS : Hid (∀ W : World, Below w5.heap.size w5 W → W.cell? ⟨w2.heap.size, 0, none⟩ = some (.int .i64 p) ∧ W.cell? ⟨w2.heap.size, 1, none⟩ = some (.int .u32 s) ∧ W.cell? ⟨w2.heap.size, 2, none⟩ = some (.int .u32 s) ∧ W.cell? ⟨w2.heap.size, 3, none⟩ = some (.int .i64 a) ∧ W.cell? ⟨w2.heap.size, 4, none⟩ = some (.int .i64 a) ∧ W.cell? ⟨w3.heap.size, 0, none⟩ = some (.int .i64 p) ∧ W.cell? ⟨w3.heap.size, 1, none⟩ = some (.int .u32 s) ∧ W.cell? ⟨w3.heap.size, 2, none⟩ = some (.int .u32 s) ∧ W.cell? ⟨w3.heap.size, 3, none⟩ = some (.int .i64 a) ∧ W.cell? ⟨w3.heap.size, 4, none⟩ = some (.int .i64 a) ∧ W.cell? ⟨w4.heap.size, 0, none⟩ = some (.int .i64 p) ∧ W.cell? ⟨w4.heap.size, 1, none⟩ = some (.int .u32 s) ∧ W.cell? ⟨w4.heap.size, 2, none⟩ = some (.int .u32 s) ∧ W.cell? ⟨w4.heap.size, 3, none⟩ = some (.int .i64 a) ∧ W.cell? ⟨w4.heap.size, 4, none⟩ = some (.int .i64 a) ∧ W.cell? ⟨w.heap.size, 3, none⟩ = some (.int .i64 p) ∧ W.cell? ⟨w.heap.size, 4, none⟩ = some (.int .u32 s) ∧ W.cell? ⟨w.heap.size, 5, none⟩ = some (.int .u32 s) ∧ W.cell? ⟨w.heap.size, 6, none⟩ = some (.int .i64 a) ∧ W.cell? ⟨w.heap.size, 7, none⟩ = some (.int .i64 a) ∧ Below w5.heap.size w5 W) := fun W q => ⟨(N5.below q).cell 0, (N5.below q).cell 1, (N5.below q).cell 2, (N5.below q).cell 3, (N5.below q).cell 4, (M5.below q).cell 0, (M5.below q).cell 1, (M5.below q).cell 2, (M5.below q).cell 3, (M5.below q).cell 4, (O5.below q).cell 0, (O5.below q).cell 1, (O5.below q).cell 2, (O5.below q).cell 3, (O5.below q).cell 4, (A5.below q).cell 3, (A5.below q).cell 4, (A5.below q).cell 5, (A5.below q).cell 6, (A5.below q).cell 7, q⟩
  refine wp_region_held_drew (S := fun W => W.cell? ⟨w2.heap.size, 0, none⟩ = some (.int .i64 p) ∧ W.cell? ⟨w2.heap.size, 1, none⟩ = some (.int .u32 s) ∧ W.cell? ⟨w2.heap.size, 2, none⟩ = some (.int .u32 s) ∧ W.cell? ⟨w2.heap.size, 3, none⟩ = some (.int .i64 a) ∧ W.cell? ⟨w2.heap.size, 4, none⟩ = some (.int .i64 a) ∧ W.cell? ⟨w3.heap.size, 0, none⟩ = some (.int .i64 p) ∧ W.cell? ⟨w3.heap.size, 1, none⟩ = some (.int .u32 s) ∧ W.cell? ⟨w3.heap.size, 2, none⟩ = some (.int .u32 s) ∧ W.cell? ⟨w3.heap.size, 3, none⟩ = some (.int .i64 a) ∧ W.cell? ⟨w3.heap.size, 4, none⟩ = some (.int .i64 a) ∧ W.cell? ⟨w4.heap.size, 0, none⟩ = some (.int .i64 p) ∧ W.cell? ⟨w4.heap.size, 1, none⟩ = some (.int .u32 s) ∧ W.cell? ⟨w4.heap.size, 2, none⟩ = some (.int .u32 s) ∧ W.cell? ⟨w4.heap.size, 3, none⟩ = some (.int .i64 a) ∧ W.cell? ⟨w4.heap.size, 4, none⟩ = some (.int .i64 a) ∧ W.cell? ⟨w.heap.size, 3, none⟩ = some (.int .i64 p) ∧ W.cell? ⟨w.heap.size, 4, none⟩ = some (.int .u32 s) ∧ W.cell? ⟨w.heap.size, 5, none⟩ = some (.int .u32 s) ∧ W.cell? ⟨w.heap.size, 6, none⟩ = some (.int .i64 a) ∧ W.cell? ⟨w.heap.size, 7, none⟩ = some (.int .i64 a) ∧ Below w5.heap.size w5 W) (by kernel_rfl) (HS.out _ (Below.drew (Below.refl _ _))) (fun hHeld => ?_)
  refine wpAnyH_take (i := 0) (oi := { dst := some 31, op := Op.move (Operand.tmp 7), type := 4, pos := "keeps.go:59", after := #[], guard := none }) (v := ?_) rfl (by kernel_rfl) (by kernel_rfl) (by kernel_rfl) (fun _ _ _ h => h) (Or.inl ⟨by rfl, ?_⟩) hHeld ?_
  rotate_left
  · intro w hSw; (try dsimp only at hSw); go_simp; try with_reducible rfl
  try simp only [Act.put, List.setIfInBounds_toArray, List.set_cons_zero, List.set_cons_succ]
  refine wpAnyH_take (i := 1) (oi := { dst := some 32, op := Op.move (Operand.tmp 31), type := 4, pos := "keeps.go:59", after := #[{ on := 0, ground := Ground.data }], guard := none }) (v := ?_) rfl (by kernel_rfl) (by kernel_rfl) (by kernel_rfl) (fun _ _ _ h => h) (Or.inl ⟨by rfl, ?_⟩) hHeld ?_
  rotate_left
  · intro w hSw; (try dsimp only at hSw); go_simp; try with_reducible rfl
  try simp only [Act.put, List.setIfInBounds_toArray, List.set_cons_zero, List.set_cons_succ]
  refine wpAnyH_take (i := 2) (oi := { dst := some 33, op := Op.load 24 (Operand.tmp 8), type := 24, pos := "keeps.go:59", after := #[{ on := 1, ground := Ground.guard }], guard := some (1, true) }) (v := ?_) rfl (by kernel_rfl) (by kernel_rfl) (by kernel_rfl) (fun _ _ _ h => h) (Or.inl ⟨by rfl, ?_⟩) hHeld ?_
  rotate_left
  · intro w hSw; (try dsimp only at hSw); go_simp; try with_reducible rfl
  try simp only [Act.put, List.setIfInBounds_toArray, List.set_cons_zero, List.set_cons_succ]
  refine wpAnyH_take (i := 3) (oi := { dst := some 34, op := Op.load 24 (Operand.tmp 9), type := 24, pos := "keeps.go:59", after := #[{ on := 1, ground := Ground.guard }], guard := some (1, true) }) (v := ?_) rfl (by kernel_rfl) (by kernel_rfl) (by kernel_rfl) (fun _ _ _ h => h) (Or.inl ⟨by rfl, ?_⟩) hHeld ?_
  rotate_left
  · intro w hSw; (try dsimp only at hSw); go_simp; try with_reducible rfl
  try simp only [Act.put, List.setIfInBounds_toArray, List.set_cons_zero, List.set_cons_succ]
  refine wpAnyH_take (i := 4) (oi := { dst := some 35, op := Op.binOp BinOp.eql 24 (Operand.tmp 33) (Operand.tmp 34) 24, type := 4, pos := "keeps.go:59", after := #[{ on := 2, ground := Ground.data }, { on := 3, ground := Ground.data }, { on := 1, ground := Ground.guard }], guard := some (1, true) }) (v := ?_) rfl (by kernel_rfl) (by kernel_rfl) (by kernel_rfl) (fun _ _ _ h => h) (Or.inl ⟨by rfl, ?_⟩) hHeld ?_
  rotate_left
  · intro w hSw; (try dsimp only at hSw); go_simp; try with_reducible rfl
  try simp only [Act.put, List.setIfInBounds_toArray, List.set_cons_zero, List.set_cons_succ]
  refine wpAnyH_take (i := 5) (oi := { dst := some 36, op := Op.pick (Operand.tmp 32) (Operand.tmp 35) (Operand.const (Value.bool false)), type := 4, pos := "keeps.go:59", after := #[{ on := 1, ground := Ground.data }, { on := 4, ground := Ground.data }], guard := none }) (v := ?_) rfl (by kernel_rfl) (by kernel_rfl) (by kernel_rfl) (fun _ _ _ h => h) (Or.inl ⟨by rfl, ?_⟩) hHeld ?_
  rotate_left
  · intro w hSw; (try dsimp only at hSw); go_simp; try with_reducible rfl
  try simp only [Act.put, List.setIfInBounds_toArray, List.set_cons_zero, List.set_cons_succ]
  refine wpAnyH_take (i := 6) (oi := { dst := some 37, op := Op.move (Operand.tmp 36), type := 4, pos := "keeps.go:59", after := #[{ on := 5, ground := Ground.data }, { on := 1, ground := Ground.chain }], guard := none }) (v := ?_) rfl (by kernel_rfl) (by kernel_rfl) (by kernel_rfl) (fun _ _ _ h => h) (Or.inl ⟨by rfl, ?_⟩) hHeld ?_
  rotate_left
  · intro w hSw; (try dsimp only at hSw); go_simp; try with_reducible rfl
  try simp only [Act.put, List.setIfInBounds_toArray, List.set_cons_zero, List.set_cons_succ]
  refine wpAnyH_take (i := 7) (oi := { dst := some 38, op := Op.fieldAddr 24 (Operand.tmp 8) 0, type := 0, pos := "keeps.go:59", after := #[{ on := 6, ground := Ground.guard }], guard := some (6, true) }) (v := ?_) rfl (by kernel_rfl) (by kernel_rfl) (by kernel_rfl) (fun _ _ _ h => h) (Or.inl ⟨by rfl, ?_⟩) hHeld ?_
  rotate_left
  · intro w hSw; (try dsimp only at hSw); go_simp; try with_reducible rfl
  try simp only [Act.put, List.setIfInBounds_toArray, List.set_cons_zero, List.set_cons_succ]
  refine wpAnyH_take (i := 8) (oi := { dst := some 39, op := Op.load 3 (Operand.tmp 38), type := 3, pos := "keeps.go:59", after := #[{ on := 7, ground := Ground.data }, { on := 6, ground := Ground.guard }], guard := some (6, true) }) (v := ?_) rfl (by kernel_rfl) (by kernel_rfl) (by kernel_rfl) (fun _ _ _ h => h) (Or.inl ⟨by rfl, ?_⟩) hHeld ?_
  rotate_left
  · intro w hSw; (try dsimp only at hSw); go_simp; try with_reducible rfl
  try simp only [Act.put, List.setIfInBounds_toArray, List.set_cons_zero, List.set_cons_succ]
  refine wpAnyH_take (i := 9) (oi := { dst := some 40, op := Op.fieldAddr 37 (Operand.tmp 3) 3, type := 0, pos := "keeps.go:59", after := #[{ on := 6, ground := Ground.guard }], guard := some (6, true) }) (v := ?_) rfl (by kernel_rfl) (by kernel_rfl) (by kernel_rfl) (fun _ _ _ h => h) (Or.inl ⟨by rfl, ?_⟩) hHeld ?_
  rotate_left
  · intro w hSw; (try dsimp only at hSw); go_simp; try with_reducible rfl
  try simp only [Act.put, List.setIfInBounds_toArray, List.set_cons_zero, List.set_cons_succ]
  refine wpAnyH_take (i := 10) (oi := { dst := some 41, op := Op.fieldAddr 24 (Operand.tmp 40) 0, type := 0, pos := "keeps.go:59", after := #[{ on := 9, ground := Ground.data }, { on := 6, ground := Ground.guard }], guard := some (6, true) }) (v := ?_) rfl (by kernel_rfl) (by kernel_rfl) (by kernel_rfl) (fun _ _ _ h => h) (Or.inl ⟨by rfl, ?_⟩) hHeld ?_
  rotate_left
  · intro w hSw; (try dsimp only at hSw); go_simp; try with_reducible rfl
  try simp only [Act.put, List.setIfInBounds_toArray, List.set_cons_zero, List.set_cons_succ]
  refine wpAnyH_take (i := 11) (oi := { dst := some 42, op := Op.load 3 (Operand.tmp 41), type := 3, pos := "keeps.go:59", after := #[{ on := 10, ground := Ground.data }, { on := 6, ground := Ground.guard }], guard := some (6, true) }) (v := ?_) rfl (by kernel_rfl) (by kernel_rfl) (by kernel_rfl) (fun _ _ _ h => h) (Or.inl ⟨by rfl, ?_⟩) hHeld ?_
  rotate_left
  · intro w hSw; (try dsimp only at hSw); go_simp; try with_reducible rfl
  try simp only [Act.put, List.setIfInBounds_toArray, List.set_cons_zero, List.set_cons_succ]
  refine wpAnyH_take (i := 12) (oi := { dst := some 43, op := Op.binOp BinOp.eql 3 (Operand.tmp 39) (Operand.tmp 42) 3, type := 4, pos := "keeps.go:59", after := #[{ on := 8, ground := Ground.data }, { on := 11, ground := Ground.data }, { on := 6, ground := Ground.guard }], guard := some (6, true) }) (v := ?_) rfl (by kernel_rfl) (by kernel_rfl) (by kernel_rfl) (fun _ _ _ h => h) (Or.inl ⟨by rfl, ?_⟩) hHeld ?_
  rotate_left
  · intro w hSw; (try dsimp only at hSw); go_simp; try with_reducible rfl
  try simp only [Act.put, List.setIfInBounds_toArray, List.set_cons_zero, List.set_cons_succ]
  refine wpAnyH_take (i := 13) (oi := { dst := some 44, op := Op.pick (Operand.tmp 37) (Operand.tmp 43) (Operand.const (Value.bool false)), type := 4, pos := "keeps.go:59", after := #[{ on := 6, ground := Ground.data }, { on := 12, ground := Ground.data }], guard := none }) (v := ?_) rfl (by kernel_rfl) (by kernel_rfl) (by kernel_rfl) (fun _ _ _ h => h) (Or.inl ⟨by rfl, ?_⟩) hHeld ?_
  rotate_left
  · intro w hSw; (try dsimp only at hSw); go_simp; try with_reducible rfl
  try simp only [Act.put, List.setIfInBounds_toArray, List.set_cons_zero, List.set_cons_succ]
  refine wpAnyH_take (i := 14) (oi := { dst := some 45, op := Op.move (Operand.tmp 44), type := 4, pos := "keeps.go:59", after := #[{ on := 13, ground := Ground.data }, { on := 6, ground := Ground.chain }], guard := none }) (v := ?_) rfl (by kernel_rfl) (by kernel_rfl) (by kernel_rfl) (fun _ _ _ h => h) (Or.inl ⟨by rfl, ?_⟩) hHeld ?_
  rotate_left
  · intro w hSw; (try dsimp only at hSw); go_simp; try with_reducible rfl
  try simp only [Act.put, List.setIfInBounds_toArray, List.set_cons_zero, List.set_cons_succ]
  refine wpAnyH_take (i := 15) (oi := { dst := some 46, op := Op.load 24 (Operand.tmp 10), type := 24, pos := "keeps.go:59", after := #[{ on := 14, ground := Ground.guard }], guard := some (14, true) }) (v := ?_) rfl (by kernel_rfl) (by kernel_rfl) (by kernel_rfl) (fun _ _ _ h => h) (Or.inl ⟨by rfl, ?_⟩) hHeld ?_
  rotate_left
  · intro w hSw; (try dsimp only at hSw); go_simp; try with_reducible rfl
  try simp only [Act.put, List.setIfInBounds_toArray, List.set_cons_zero, List.set_cons_succ]
  refine wpAnyH_take (i := 16) (oi := { dst := some 47, op := Op.load 24 (Operand.tmp 8), type := 24, pos := "keeps.go:59", after := #[{ on := 14, ground := Ground.guard }], guard := some (14, true) }) (v := ?_) rfl (by kernel_rfl) (by kernel_rfl) (by kernel_rfl) (fun _ _ _ h => h) (Or.inl ⟨by rfl, ?_⟩) hHeld ?_
  rotate_left
  · intro w hSw; (try dsimp only at hSw); go_simp; try with_reducible rfl
  try simp only [Act.put, List.setIfInBounds_toArray, List.set_cons_zero, List.set_cons_succ]
  refine wpAnyH_ready (rs := [17]) (by kernel_rfl) (by simp) ?_
  refine AllReadyH.cons (o := { dst := some 48, op := Op.call { callee := Callee.value (Operand.func 11), args := #[Operand.tmp 47], argTypes := #[24] }, type := 24, pos := "keeps.go:59", after := #[{ on := 16, ground := Ground.data }, { on := 14, ground := Ground.chain }, { on := 14, ground := Ground.guard }], guard := some (14, true) }) rfl (fun K hK => ?_) AllReadyH.nil
  go_simp
  refine (rev_c _ _ _ _ _ _).mono ?_
  rintro e wR ⟨rfl, hR1⟩
  have hz1 : w5.heap.size ≤ wR.heap.size := (by have q := hR1.size; exact q)
  go_simp
  refine hK.out _ _ (HS.out _ (Below.trans (Below.drew (Below.refl _ _)) hR1)) (fun hHeld2 => ?_)
  clear hK K hHeld
  have hHeld := hHeld2
  clear hHeld2
  try simp only [Act.put, List.setIfInBounds_toArray, List.set_cons_zero, List.set_cons_succ]
  refine wpAnyH_take (i := 18) (oi := { dst := some 49, op := Op.binOp BinOp.eql 24 (Operand.tmp 46) (Operand.tmp 48) 24, type := 4, pos := "keeps.go:59", after := #[{ on := 15, ground := Ground.data }, { on := 17, ground := Ground.data }, { on := 14, ground := Ground.guard }], guard := some (14, true) }) (v := ?_) rfl (by kernel_rfl) (by kernel_rfl) (by kernel_rfl) (fun _ _ _ h => h) (Or.inl ⟨by rfl, ?_⟩) hHeld ?_
  rotate_left
  · intro w hSw; (try dsimp only at hSw); go_simp; try with_reducible rfl
  try simp only [Act.put, List.setIfInBounds_toArray, List.set_cons_zero, List.set_cons_succ]
  refine wpAnyH_take (i := 19) (oi := { dst := some 50, op := Op.pick (Operand.tmp 45) (Operand.tmp 49) (Operand.const (Value.bool false)), type := 4, pos := "keeps.go:59", after := #[{ on := 14, ground := Ground.data }, { on := 18, ground := Ground.data }], guard := none }) (v := ?_) rfl (by kernel_rfl) (by kernel_rfl) (by kernel_rfl) (fun _ _ _ h => h) (Or.inl ⟨by rfl, ?_⟩) hHeld ?_
  rotate_left
  · intro w hSw; (try dsimp only at hSw); go_simp; try with_reducible rfl
  try simp only [Act.put, List.setIfInBounds_toArray, List.set_cons_zero, List.set_cons_succ]
  refine wpAnyH_take (i := 20) (oi := { dst := some 51, op := Op.move (Operand.tmp 50), type := 4, pos := "keeps.go:59", after := #[{ on := 19, ground := Ground.data }, { on := 17, ground := Ground.chain }], guard := none }) (v := ?_) rfl (by kernel_rfl) (by kernel_rfl) (by kernel_rfl) (fun _ _ _ h => h) (Or.inl ⟨by rfl, ?_⟩) hHeld ?_
  rotate_left
  · intro w hSw; (try dsimp only at hSw); go_simp; try with_reducible rfl
  try simp only [Act.put, List.setIfInBounds_toArray, List.set_cons_zero, List.set_cons_succ]
  refine wpAnyH_take (i := 21) (oi := { dst := some 52, op := Op.load 24 (Operand.tmp 8), type := 24, pos := "keeps.go:59", after := #[{ on := 20, ground := Ground.guard }], guard := some (20, true) }) (v := ?_) rfl (by kernel_rfl) (by kernel_rfl) (by kernel_rfl) (fun _ _ _ h => h) (Or.inl ⟨by rfl, ?_⟩) hHeld ?_
  rotate_left
  · intro w hSw; (try dsimp only at hSw); go_simp; try with_reducible rfl
  try simp only [Act.put, List.setIfInBounds_toArray, List.set_cons_zero, List.set_cons_succ]
  refine wpAnyH_take (i := 22) (oi := { dst := some 53, op := Op.fieldAddr 37 (Operand.tmp 3) 3, type := 0, pos := "keeps.go:59", after := #[{ on := 20, ground := Ground.guard }], guard := some (20, true) }) (v := ?_) rfl (by kernel_rfl) (by kernel_rfl) (by kernel_rfl) (fun _ _ _ h => h) (Or.inl ⟨by rfl, ?_⟩) hHeld ?_
  rotate_left
  · intro w hSw; (try dsimp only at hSw); go_simp; try with_reducible rfl
  try simp only [Act.put, List.setIfInBounds_toArray, List.set_cons_zero, List.set_cons_succ]
  refine wpAnyH_take (i := 23) (oi := { dst := some 54, op := Op.load 24 (Operand.tmp 53), type := 24, pos := "keeps.go:59", after := #[{ on := 22, ground := Ground.data }, { on := 20, ground := Ground.guard }], guard := some (20, true) }) (v := ?_) rfl (by kernel_rfl) (by kernel_rfl) (by kernel_rfl) (fun _ _ _ h => h) (Or.inl ⟨by rfl, ?_⟩) hHeld ?_
  rotate_left
  · intro w hSw; (try dsimp only at hSw); go_simp; try with_reducible rfl
  try simp only [Act.put, List.setIfInBounds_toArray, List.set_cons_zero, List.set_cons_succ]
  refine wpAnyH_take (i := 24) (oi := { dst := some 55, op := Op.binOp BinOp.eql 24 (Operand.tmp 52) (Operand.tmp 54) 24, type := 4, pos := "keeps.go:59", after := #[{ on := 21, ground := Ground.data }, { on := 23, ground := Ground.data }, { on := 20, ground := Ground.guard }], guard := some (20, true) }) (v := ?_) rfl (by kernel_rfl) (by kernel_rfl) (by kernel_rfl) (fun _ _ _ h => h) (Or.inl ⟨by rfl, ?_⟩) hHeld ?_
  rotate_left
  · intro w hSw; (try dsimp only at hSw); go_simp; try with_reducible rfl
  try simp only [Act.put, List.setIfInBounds_toArray, List.set_cons_zero, List.set_cons_succ]
  refine wpAnyH_take (i := 25) (oi := { dst := some 56, op := Op.move (Operand.tmp 1), type := 4, pos := "keeps.go:59", after := #[{ on := 20, ground := Ground.guard }], guard := some (20, true) }) (v := ?_) rfl (by kernel_rfl) (by kernel_rfl) (by kernel_rfl) (fun _ _ _ h => h) (Or.inl ⟨by rfl, ?_⟩) hHeld ?_
  rotate_left
  · intro w hSw; (try dsimp only at hSw); go_simp; try with_reducible rfl
  try simp only [Act.put, List.setIfInBounds_toArray, List.set_cons_zero, List.set_cons_succ]
  refine wpAnyH_take (i := 26) (oi := { dst := some 57, op := Op.move (Operand.tmp 2), type := 4, pos := "keeps.go:59", after := #[{ on := 20, ground := Ground.guard }], guard := some (20, true) }) (v := ?_) rfl (by kernel_rfl) (by kernel_rfl) (by kernel_rfl) (fun _ _ _ h => h) (Or.inl ⟨by rfl, ?_⟩) hHeld ?_
  rotate_left
  · intro w hSw; (try dsimp only at hSw); go_simp; try with_reducible rfl
  try simp only [Act.put, List.setIfInBounds_toArray, List.set_cons_zero, List.set_cons_succ]
  refine wpAnyH_take (i := 27) (oi := { dst := some 58, op := Op.binOp BinOp.eql 4 (Operand.tmp 56) (Operand.tmp 57) 4, type := 4, pos := "keeps.go:59", after := #[{ on := 25, ground := Ground.data }, { on := 26, ground := Ground.data }, { on := 20, ground := Ground.guard }], guard := some (20, true) }) (v := ?_) rfl (by kernel_rfl) (by kernel_rfl) (by kernel_rfl) (fun _ _ _ h => h) (Or.inl ⟨by rfl, ?_⟩) hHeld ?_
  rotate_left
  · intro w hSw; (try dsimp only at hSw); go_simp; try with_reducible rfl
  try simp only [Act.put, List.setIfInBounds_toArray, List.set_cons_zero, List.set_cons_succ]
  refine wpAnyH_take (i := 28) (oi := { dst := some 59, op := Op.move (Operand.tmp 58), type := 4, pos := "keeps.go:59", after := #[{ on := 27, ground := Ground.data }, { on := 20, ground := Ground.chain }, { on := 20, ground := Ground.guard }], guard := some (20, true) }) (v := ?_) rfl (by kernel_rfl) (by kernel_rfl) (by kernel_rfl) (fun _ _ _ h => h) (Or.inl ⟨by rfl, ?_⟩) hHeld ?_
  rotate_left
  · intro w hSw; (try dsimp only at hSw); go_simp; try with_reducible rfl
  try simp only [Act.put, List.setIfInBounds_toArray, List.set_cons_zero, List.set_cons_succ]
  refine wpAnyH_take (i := 29) (oi := { dst := some 60, op := Op.fieldAddr 37 (Operand.tmp 3) 3, type := 0, pos := "keeps.go:59", after := #[{ on := 28, ground := Ground.guard }], guard := some (28, false) }) (v := ?_) rfl (by kernel_rfl) (by kernel_rfl) (by kernel_rfl) (fun _ _ _ h => h) (Or.inl ⟨by rfl, ?_⟩) hHeld ?_
  rotate_left
  · intro w hSw; (try dsimp only at hSw); go_simp; try with_reducible rfl
  try simp only [Act.put, List.setIfInBounds_toArray, List.set_cons_zero, List.set_cons_succ]
  refine wpAnyH_take (i := 30) (oi := { dst := some 61, op := Op.load 24 (Operand.tmp 60), type := 24, pos := "keeps.go:59", after := #[{ on := 29, ground := Ground.data }, { on := 28, ground := Ground.guard }], guard := some (28, false) }) (v := ?_) rfl (by kernel_rfl) (by kernel_rfl) (by kernel_rfl) (fun _ _ _ h => h) (Or.inl ⟨by rfl, ?_⟩) hHeld ?_
  rotate_left
  · intro w hSw; (try dsimp only at hSw); go_simp; try with_reducible rfl
  try simp only [Act.put, List.setIfInBounds_toArray, List.set_cons_zero, List.set_cons_succ]
  refine wpAnyH_take (i := 31) (oi := { dst := some 62, op := Op.fieldAddr 37 (Operand.tmp 3) 3, type := 0, pos := "keeps.go:59", after := #[{ on := 28, ground := Ground.guard }], guard := some (28, false) }) (v := ?_) rfl (by kernel_rfl) (by kernel_rfl) (by kernel_rfl) (fun _ _ _ h => h) (Or.inl ⟨by rfl, ?_⟩) hHeld ?_
  rotate_left
  · intro w hSw; (try dsimp only at hSw); go_simp; try with_reducible rfl
  try simp only [Act.put, List.setIfInBounds_toArray, List.set_cons_zero, List.set_cons_succ]
  refine wpAnyH_take (i := 32) (oi := { dst := some 63, op := Op.load 24 (Operand.tmp 62), type := 24, pos := "keeps.go:59", after := #[{ on := 31, ground := Ground.data }, { on := 28, ground := Ground.guard }], guard := some (28, false) }) (v := ?_) rfl (by kernel_rfl) (by kernel_rfl) (by kernel_rfl) (fun _ _ _ h => h) (Or.inl ⟨by rfl, ?_⟩) hHeld ?_
  rotate_left
  · intro w hSw; (try dsimp only at hSw); go_simp; try with_reducible rfl
  try simp only [Act.put, List.setIfInBounds_toArray, List.set_cons_zero, List.set_cons_succ]
  refine wpAnyH_ready (rs := [33]) (by kernel_rfl) (by simp) ?_
  refine AllReadyH.cons (o := { dst := some 64, op := Op.call { callee := Callee.value (Operand.func 11), args := #[Operand.tmp 63], argTypes := #[24] }, type := 24, pos := "keeps.go:59", after := #[{ on := 32, ground := Ground.data }, { on := 28, ground := Ground.chain }, { on := 28, ground := Ground.guard }], guard := some (28, false) }) rfl (fun K hK => ?_) AllReadyH.nil
  go_simp
  refine (rev_c _ _ _ _ _ _).mono ?_
  rintro e wT ⟨rfl, hR2⟩
  skip
  go_simp
  refine hK.out _ _ (HS.out _ (Below.trans (Below.trans (Below.drew (Below.refl _ _)) hR1) (Below.mono hR2 hz1))) (fun hHeld2 => ?_)
  clear hK K hHeld
  have hHeld := hHeld2
  clear hHeld2
  try simp only [Act.put, List.setIfInBounds_toArray, List.set_cons_zero, List.set_cons_succ]
  refine wpAnyH_take (i := 34) (oi := { dst := some 65, op := Op.binOp BinOp.eql 24 (Operand.tmp 61) (Operand.tmp 64) 24, type := 4, pos := "keeps.go:59", after := #[{ on := 30, ground := Ground.data }, { on := 33, ground := Ground.data }, { on := 28, ground := Ground.guard }], guard := some (28, false) }) (v := ?_) rfl (by kernel_rfl) (by kernel_rfl) (by kernel_rfl) (fun _ _ _ h => h) (Or.inl ⟨by rfl, ?_⟩) hHeld ?_
  rotate_left
  · intro w hSw; (try dsimp only at hSw); go_simp; try with_reducible rfl
  try simp only [Act.put, List.setIfInBounds_toArray, List.set_cons_zero, List.set_cons_succ]
  refine wpAnyH_take (i := 35) (oi := { dst := some 66, op := Op.pick (Operand.tmp 59) (Operand.const (Value.bool true)) (Operand.tmp 65), type := 4, pos := "keeps.go:59", after := #[{ on := 28, ground := Ground.data }, { on := 34, ground := Ground.data }, { on := 20, ground := Ground.guard }], guard := some (20, true) }) (v := ?_) rfl (by kernel_rfl) (by kernel_rfl) (by kernel_rfl) (fun _ _ _ h => h) (Or.inl ⟨by rfl, ?_⟩) hHeld ?_
  rotate_left
  · intro w hSw; (try dsimp only at hSw); go_simp; try with_reducible rfl
  try simp only [Act.put, List.setIfInBounds_toArray, List.set_cons_zero, List.set_cons_succ]
  refine wpAnyH_take (i := 36) (oi := { dst := some 67, op := Op.binOp BinOp.eql 4 (Operand.tmp 55) (Operand.tmp 66) 4, type := 4, pos := "keeps.go:59", after := #[{ on := 24, ground := Ground.data }, { on := 35, ground := Ground.data }, { on := 20, ground := Ground.guard }], guard := some (20, true) }) (v := ?_) rfl (by kernel_rfl) (by kernel_rfl) (by kernel_rfl) (fun _ _ _ h => h) (Or.inl ⟨by rfl, ?_⟩) hHeld ?_
  rotate_left
  · intro w hSw; (try dsimp only at hSw); go_simp; try with_reducible rfl
  try simp only [Act.put, List.setIfInBounds_toArray, List.set_cons_zero, List.set_cons_succ]
  refine wpAnyH_take (i := 37) (oi := { dst := some 68, op := Op.pick (Operand.tmp 51) (Operand.tmp 67) (Operand.const (Value.bool false)), type := 4, pos := "keeps.go:59", after := #[{ on := 20, ground := Ground.data }, { on := 36, ground := Ground.data }], guard := none }) (v := ?_) rfl (by kernel_rfl) (by kernel_rfl) (by kernel_rfl) (fun _ _ _ h => h) (Or.inl ⟨by rfl, ?_⟩) hHeld ?_
  rotate_left
  · intro w hSw; (try dsimp only at hSw); go_simp; try with_reducible rfl
  try simp only [Act.put, List.setIfInBounds_toArray, List.set_cons_zero, List.set_cons_succ]
  refine wpAnyH_take (i := 38) (oi := { dst := some 6, op := Op.assign (Operand.tmp 68), type := 4, pos := "keeps.go:59", after := #[{ on := 37, ground := Ground.data }, { on := 33, ground := Ground.chain }, { on := 0, ground := Ground.phase }, { on := 1, ground := Ground.phase }, { on := 2, ground := Ground.phase }, { on := 3, ground := Ground.phase }, { on := 4, ground := Ground.phase }, { on := 5, ground := Ground.phase }, { on := 6, ground := Ground.phase }, { on := 7, ground := Ground.phase }, { on := 8, ground := Ground.phase }, { on := 9, ground := Ground.phase }, { on := 10, ground := Ground.phase }, { on := 11, ground := Ground.phase }, { on := 12, ground := Ground.phase }, { on := 13, ground := Ground.phase }, { on := 14, ground := Ground.phase }, { on := 15, ground := Ground.phase }, { on := 16, ground := Ground.phase }, { on := 17, ground := Ground.phase }, { on := 18, ground := Ground.phase }, { on := 19, ground := Ground.phase }, { on := 20, ground := Ground.phase }, { on := 21, ground := Ground.phase }, { on := 22, ground := Ground.phase }, { on := 23, ground := Ground.phase }, { on := 24, ground := Ground.phase }, { on := 25, ground := Ground.phase }, { on := 26, ground := Ground.phase }, { on := 27, ground := Ground.phase }, { on := 28, ground := Ground.phase }, { on := 29, ground := Ground.phase }, { on := 30, ground := Ground.phase }, { on := 31, ground := Ground.phase }, { on := 32, ground := Ground.phase }, { on := 33, ground := Ground.phase }, { on := 34, ground := Ground.phase }, { on := 35, ground := Ground.phase }, { on := 36, ground := Ground.phase }, { on := 37, ground := Ground.phase }], guard := none }) (v := ?_) rfl (by kernel_rfl) (by kernel_rfl) (by kernel_rfl) (fun _ _ _ h => h) (Or.inl ⟨by rfl, ?_⟩) hHeld ?_
  rotate_left
  · intro w hSw; (try dsimp only at hSw); go_simp; try with_reducible rfl
  try simp only [Act.put, List.setIfInBounds_toArray, List.set_cons_zero, List.set_cons_succ]
  refine wpAnyH_done (by kernel_rfl) ?_ _
  have hb6 := hb5.trans (Below.mono (Below.trans (Below.trans (Below.drew (Below.refl _ _)) hR1) (Below.mono hR2 hz1)) hb5.size)
  clear hHeld HS A5 N5 M5 O5
  go_wp2
  go_ret
  exact ⟨rfl, hb6⟩


set_option maxRecDepth 100000 in
set_option maxHeartbeats 3200000 in
theorem protos_ftn (kd at1 to1 p s d a b fl tl sr ds qt nn : Int) (he : ¬ s = d) (w : World) :
    Calls Try.prog 5 #[.agg #[.int .i64 kd, .int .i64 at1, .int .i64 to1, .int .i64 p, .int .u32 s, .int .u32 d, .int .i64 a, .int .i64 b, .int .i64 fl, .int .i64 tl, .int .u32 sr, .int .u32 ds, .int .i64 qt, .int .i64 nn], .bool false, .bool true] w fun e w' => e = .returned (.bool true) ∧ Below w.heap.size w w' := by
  have he1 : (s == d) = false := by simpa using he
  have he2 : (d == s) = false := by simpa using fun q => he q.symm
  clear he
  have A0 := Has.new w #[.int .i64 kd, .int .i64 at1, .int .i64 to1, .int .i64 p, .int .u32 s, .int .u32 d, .int .i64 a, .int .i64 b, .int .i64 fl, .int .i64 tl, .int .u32 sr, .int .u32 ds, .int .i64 qt, .int .i64 nn] 37
  go_enter Try.func5, Try.ntmps5
  go_wp2_with fail
  refine (examples_c _).mono ?_
  rintro e w1 ⟨rfl, hb⟩
  have hb1 : Below w.heap.size w w1 := ((Below.refl _ _).alloc (Nat.le_refl _) _).trans (hb.mono (by simp))
  have A1 := A0.below hb
  clear A0 hb
  have c1 := A1.cell
  have f1 := A1.free
  have l1 := A1.lt
  have A2 := A1.set 0 (.int .i64 1)
  have A2 := A2.set 0 (.int .i64 2)
  simp only [Array.setIfInBounds, List.size_toArray, List.length_cons, List.length_nil, Nat.reduceAdd, Nat.reduceLT, ↓reduceDIte, List.set_toArray, List.set_cons_succ, List.set_cons_zero] at A2
  clear A1
  go_wp2_with fail
  refine (name_rev _ _ _ _ _ _ _ _ _ _ _ _ _ _ _ (by rfl) _).mono ?_
  rintro e w2 ⟨rfl, hb⟩
  have hb2 : Below w.heap.size w w2 := ((hb1.setCell (by simp) _).setCell (by simp) _).trans (hb.mono (by simpa [World.setCell] using hb1.size))
  have A3 := A2.below hb
  have N3 := Has.new w2 #[.int .i64 p, .int .u32 d, .int .u32 s, .int .i64 b, .int .i64 a] 24
  clear A2 hb hb1 c1 f1 l1
  have c3 := A3.cell
  have l3 := A3.lt
  go_wp2_with fail
  refine (name_rev _ _ _ _ _ _ _ _ _ _ _ _ _ _ _ (by rfl) _).mono ?_
  rintro e w3 ⟨rfl, hb⟩
  have hb3 : Below w.heap.size w w3 := (hb2.alloc hb2.size _).trans (hb.mono (by simp; omega))
  have A4 := (A3.alloc _).below hb
  have N4 := N3.below hb
  have M4 := Has.new w3 #[.int .i64 p, .int .u32 d, .int .u32 s, .int .i64 b, .int .i64 a] 24
  clear A3 N3 hb hb2 c3 l3
  have c4 := A4.cell
  have l4 := A4.lt
  go_wp2_with fail
  refine (name_same _ _ _ _ _ _ _ _ _ _ _ _ _ _ _ (by rfl) _).mono ?_
  rintro e w4 ⟨rfl, hb⟩
  have hb4 : Below w.heap.size w w4 := (hb3.alloc hb3.size _).trans (hb.mono (by simp; omega))
  have A5 := ((A4.alloc _).below hb).alloc (.cells #[.int .i64 p, .int .u32 s, .int .u32 d, .int .i64 a, .int .i64 b] 24)
  have N5 := ((N4.alloc _).below hb).alloc (.cells #[.int .i64 p, .int .u32 s, .int .u32 d, .int .i64 a, .int .i64 b] 24)
  have M5 := (M4.below hb).alloc (.cells #[.int .i64 p, .int .u32 s, .int .u32 d, .int .i64 a, .int .i64 b] 24)
  have O5 := Has.new w4 #[.int .i64 p, .int .u32 s, .int .u32 d, .int .i64 a, .int .i64 b] 24
  have hb5 := hb4.alloc hb4.size (.cells #[.int .i64 p, .int .u32 s, .int .u32 d, .int .i64 a, .int .i64 b] 24)
  clear A4 N4 M4 hb hb3 hb4 c4 l4
  go_wp2_with fail
  obtain ⟨w5, hw5⟩ : ∃ w5, w5 = w4.alloc (.cells #[.int .i64 p, .int .u32 s, .int .u32 d, .int .i64 a, .int .i64 b] 24) := ⟨_, rfl⟩
  rw [← hw5] at A5 N5 M5 O5 hb5 ⊢
  clear hw5
  have HS : Hid (∀ W : World, Below w5.heap.size w5 W → W.cell? ⟨w2.heap.size, 0, none⟩ = some (.int .i64 p) ∧ W.cell? ⟨w2.heap.size, 1, none⟩ = some (.int .u32 d) ∧ W.cell? ⟨w2.heap.size, 2, none⟩ = some (.int .u32 s) ∧ W.cell? ⟨w2.heap.size, 3, none⟩ = some (.int .i64 b) ∧ W.cell? ⟨w2.heap.size, 4, none⟩ = some (.int .i64 a) ∧ W.cell? ⟨w3.heap.size, 0, none⟩ = some (.int .i64 p) ∧ W.cell? ⟨w3.heap.size, 1, none⟩ = some (.int .u32 d) ∧ W.cell? ⟨w3.heap.size, 2, none⟩ = some (.int .u32 s) ∧ W.cell? ⟨w3.heap.size, 3, none⟩ = some (.int .i64 b) ∧ W.cell? ⟨w3.heap.size, 4, none⟩ = some (.int .i64 a) ∧ W.cell? ⟨w4.heap.size, 0, none⟩ = some (.int .i64 p) ∧ W.cell? ⟨w4.heap.size, 1, none⟩ = some (.int .u32 s) ∧ W.cell? ⟨w4.heap.size, 2, none⟩ = some (.int .u32 d) ∧ W.cell? ⟨w4.heap.size, 3, none⟩ = some (.int .i64 a) ∧ W.cell? ⟨w4.heap.size, 4, none⟩ = some (.int .i64 b) ∧ W.cell? ⟨w.heap.size, 3, none⟩ = some (.int .i64 p) ∧ W.cell? ⟨w.heap.size, 4, none⟩ = some (.int .u32 s) ∧ W.cell? ⟨w.heap.size, 5, none⟩ = some (.int .u32 d) ∧ W.cell? ⟨w.heap.size, 6, none⟩ = some (.int .i64 a) ∧ W.cell? ⟨w.heap.size, 7, none⟩ = some (.int .i64 b) ∧ Below w5.heap.size w5 W) := fun W q => ⟨(N5.below q).cell 0, (N5.below q).cell 1, (N5.below q).cell 2, (N5.below q).cell 3, (N5.below q).cell 4, (M5.below q).cell 0, (M5.below q).cell 1, (M5.below q).cell 2, (M5.below q).cell 3, (M5.below q).cell 4, (O5.below q).cell 0, (O5.below q).cell 1, (O5.below q).cell 2, (O5.below q).cell 3, (O5.below q).cell 4, (A5.below q).cell 3, (A5.below q).cell 4, (A5.below q).cell 5, (A5.below q).cell 6, (A5.below q).cell 7, q⟩
  refine wp_region_held_drew (S := fun W => W.cell? ⟨w2.heap.size, 0, none⟩ = some (.int .i64 p) ∧ W.cell? ⟨w2.heap.size, 1, none⟩ = some (.int .u32 d) ∧ W.cell? ⟨w2.heap.size, 2, none⟩ = some (.int .u32 s) ∧ W.cell? ⟨w2.heap.size, 3, none⟩ = some (.int .i64 b) ∧ W.cell? ⟨w2.heap.size, 4, none⟩ = some (.int .i64 a) ∧ W.cell? ⟨w3.heap.size, 0, none⟩ = some (.int .i64 p) ∧ W.cell? ⟨w3.heap.size, 1, none⟩ = some (.int .u32 d) ∧ W.cell? ⟨w3.heap.size, 2, none⟩ = some (.int .u32 s) ∧ W.cell? ⟨w3.heap.size, 3, none⟩ = some (.int .i64 b) ∧ W.cell? ⟨w3.heap.size, 4, none⟩ = some (.int .i64 a) ∧ W.cell? ⟨w4.heap.size, 0, none⟩ = some (.int .i64 p) ∧ W.cell? ⟨w4.heap.size, 1, none⟩ = some (.int .u32 s) ∧ W.cell? ⟨w4.heap.size, 2, none⟩ = some (.int .u32 d) ∧ W.cell? ⟨w4.heap.size, 3, none⟩ = some (.int .i64 a) ∧ W.cell? ⟨w4.heap.size, 4, none⟩ = some (.int .i64 b) ∧ W.cell? ⟨w.heap.size, 3, none⟩ = some (.int .i64 p) ∧ W.cell? ⟨w.heap.size, 4, none⟩ = some (.int .u32 s) ∧ W.cell? ⟨w.heap.size, 5, none⟩ = some (.int .u32 d) ∧ W.cell? ⟨w.heap.size, 6, none⟩ = some (.int .i64 a) ∧ W.cell? ⟨w.heap.size, 7, none⟩ = some (.int .i64 b) ∧ Below w5.heap.size w5 W) (by kernel_rfl) (HS.out _ (Below.drew (Below.refl _ _))) (fun hHeld => ?_)
  refine wpAnyH_take (i := 0) (oi := { dst := some 31, op := Op.move (Operand.tmp 7), type := 4, pos := "keeps.go:59", after := #[], guard := none }) (v := ?_) rfl (by kernel_rfl) (by kernel_rfl) (by kernel_rfl) (fun _ _ _ h => h) (Or.inl ⟨by rfl, ?_⟩) hHeld ?_
  rotate_left
  · intro w hSw; (try dsimp only at hSw); go_simp; try with_reducible rfl
  try simp only [Act.put, List.setIfInBounds_toArray, List.set_cons_zero, List.set_cons_succ]
  refine wpAnyH_take (i := 1) (oi := { dst := some 32, op := Op.move (Operand.tmp 31), type := 4, pos := "keeps.go:59", after := #[{ on := 0, ground := Ground.data }], guard := none }) (v := ?_) rfl (by kernel_rfl) (by kernel_rfl) (by kernel_rfl) (fun _ _ _ h => h) (Or.inl ⟨by rfl, ?_⟩) hHeld ?_
  rotate_left
  · intro w hSw; (try dsimp only at hSw); go_simp; try with_reducible rfl
  try simp only [Act.put, List.setIfInBounds_toArray, List.set_cons_zero, List.set_cons_succ]
  refine wpAnyH_take (i := 2) (oi := { dst := some 33, op := Op.load 24 (Operand.tmp 8), type := 24, pos := "keeps.go:59", after := #[{ on := 1, ground := Ground.guard }], guard := some (1, true) }) (v := ?_) rfl (by kernel_rfl) (by kernel_rfl) (by kernel_rfl) (fun _ _ _ h => h) (Or.inl ⟨by rfl, ?_⟩) hHeld ?_
  rotate_left
  · intro w hSw; (try dsimp only at hSw); go_simp; try with_reducible rfl
  try simp only [Act.put, List.setIfInBounds_toArray, List.set_cons_zero, List.set_cons_succ]
  refine wpAnyH_take (i := 3) (oi := { dst := some 34, op := Op.load 24 (Operand.tmp 9), type := 24, pos := "keeps.go:59", after := #[{ on := 1, ground := Ground.guard }], guard := some (1, true) }) (v := ?_) rfl (by kernel_rfl) (by kernel_rfl) (by kernel_rfl) (fun _ _ _ h => h) (Or.inl ⟨by rfl, ?_⟩) hHeld ?_
  rotate_left
  · intro w hSw; (try dsimp only at hSw); go_simp; try with_reducible rfl
  try simp only [Act.put, List.setIfInBounds_toArray, List.set_cons_zero, List.set_cons_succ]
  refine wpAnyH_take (i := 4) (oi := { dst := some 35, op := Op.binOp BinOp.eql 24 (Operand.tmp 33) (Operand.tmp 34) 24, type := 4, pos := "keeps.go:59", after := #[{ on := 2, ground := Ground.data }, { on := 3, ground := Ground.data }, { on := 1, ground := Ground.guard }], guard := some (1, true) }) (v := ?_) rfl (by kernel_rfl) (by kernel_rfl) (by kernel_rfl) (fun _ _ _ h => h) (Or.inl ⟨by rfl, ?_⟩) hHeld ?_
  rotate_left
  · intro w hSw; (try dsimp only at hSw); go_simp; try with_reducible rfl
  try simp only [Act.put, List.setIfInBounds_toArray, List.set_cons_zero, List.set_cons_succ]
  refine wpAnyH_take (i := 5) (oi := { dst := some 36, op := Op.pick (Operand.tmp 32) (Operand.tmp 35) (Operand.const (Value.bool false)), type := 4, pos := "keeps.go:59", after := #[{ on := 1, ground := Ground.data }, { on := 4, ground := Ground.data }], guard := none }) (v := ?_) rfl (by kernel_rfl) (by kernel_rfl) (by kernel_rfl) (fun _ _ _ h => h) (Or.inl ⟨by rfl, ?_⟩) hHeld ?_
  rotate_left
  · intro w hSw; (try dsimp only at hSw); go_simp; try with_reducible rfl
  try simp only [Act.put, List.setIfInBounds_toArray, List.set_cons_zero, List.set_cons_succ]
  refine wpAnyH_take (i := 6) (oi := { dst := some 37, op := Op.move (Operand.tmp 36), type := 4, pos := "keeps.go:59", after := #[{ on := 5, ground := Ground.data }, { on := 1, ground := Ground.chain }], guard := none }) (v := ?_) rfl (by kernel_rfl) (by kernel_rfl) (by kernel_rfl) (fun _ _ _ h => h) (Or.inl ⟨by rfl, ?_⟩) hHeld ?_
  rotate_left
  · intro w hSw; (try dsimp only at hSw); go_simp; try with_reducible rfl
  try simp only [Act.put, List.setIfInBounds_toArray, List.set_cons_zero, List.set_cons_succ]
  refine wpAnyH_take (i := 7) (oi := { dst := some 38, op := Op.fieldAddr 24 (Operand.tmp 8) 0, type := 0, pos := "keeps.go:59", after := #[{ on := 6, ground := Ground.guard }], guard := some (6, true) }) (v := ?_) rfl (by kernel_rfl) (by kernel_rfl) (by kernel_rfl) (fun _ _ _ h => h) (Or.inl ⟨by rfl, ?_⟩) hHeld ?_
  rotate_left
  · intro w hSw; (try dsimp only at hSw); go_simp; try with_reducible rfl
  try simp only [Act.put, List.setIfInBounds_toArray, List.set_cons_zero, List.set_cons_succ]
  refine wpAnyH_take (i := 8) (oi := { dst := some 39, op := Op.load 3 (Operand.tmp 38), type := 3, pos := "keeps.go:59", after := #[{ on := 7, ground := Ground.data }, { on := 6, ground := Ground.guard }], guard := some (6, true) }) (v := ?_) rfl (by kernel_rfl) (by kernel_rfl) (by kernel_rfl) (fun _ _ _ h => h) (Or.inl ⟨by rfl, ?_⟩) hHeld ?_
  rotate_left
  · intro w hSw; (try dsimp only at hSw); go_simp; try with_reducible rfl
  try simp only [Act.put, List.setIfInBounds_toArray, List.set_cons_zero, List.set_cons_succ]
  refine wpAnyH_take (i := 9) (oi := { dst := some 40, op := Op.fieldAddr 37 (Operand.tmp 3) 3, type := 0, pos := "keeps.go:59", after := #[{ on := 6, ground := Ground.guard }], guard := some (6, true) }) (v := ?_) rfl (by kernel_rfl) (by kernel_rfl) (by kernel_rfl) (fun _ _ _ h => h) (Or.inl ⟨by rfl, ?_⟩) hHeld ?_
  rotate_left
  · intro w hSw; (try dsimp only at hSw); go_simp; try with_reducible rfl
  try simp only [Act.put, List.setIfInBounds_toArray, List.set_cons_zero, List.set_cons_succ]
  refine wpAnyH_take (i := 10) (oi := { dst := some 41, op := Op.fieldAddr 24 (Operand.tmp 40) 0, type := 0, pos := "keeps.go:59", after := #[{ on := 9, ground := Ground.data }, { on := 6, ground := Ground.guard }], guard := some (6, true) }) (v := ?_) rfl (by kernel_rfl) (by kernel_rfl) (by kernel_rfl) (fun _ _ _ h => h) (Or.inl ⟨by rfl, ?_⟩) hHeld ?_
  rotate_left
  · intro w hSw; (try dsimp only at hSw); go_simp; try with_reducible rfl
  try simp only [Act.put, List.setIfInBounds_toArray, List.set_cons_zero, List.set_cons_succ]
  refine wpAnyH_take (i := 11) (oi := { dst := some 42, op := Op.load 3 (Operand.tmp 41), type := 3, pos := "keeps.go:59", after := #[{ on := 10, ground := Ground.data }, { on := 6, ground := Ground.guard }], guard := some (6, true) }) (v := ?_) rfl (by kernel_rfl) (by kernel_rfl) (by kernel_rfl) (fun _ _ _ h => h) (Or.inl ⟨by rfl, ?_⟩) hHeld ?_
  rotate_left
  · intro w hSw; (try dsimp only at hSw); go_simp; try with_reducible rfl
  try simp only [Act.put, List.setIfInBounds_toArray, List.set_cons_zero, List.set_cons_succ]
  refine wpAnyH_take (i := 12) (oi := { dst := some 43, op := Op.binOp BinOp.eql 3 (Operand.tmp 39) (Operand.tmp 42) 3, type := 4, pos := "keeps.go:59", after := #[{ on := 8, ground := Ground.data }, { on := 11, ground := Ground.data }, { on := 6, ground := Ground.guard }], guard := some (6, true) }) (v := ?_) rfl (by kernel_rfl) (by kernel_rfl) (by kernel_rfl) (fun _ _ _ h => h) (Or.inl ⟨by rfl, ?_⟩) hHeld ?_
  rotate_left
  · intro w hSw; (try dsimp only at hSw); go_simp; try with_reducible rfl
  try simp only [Act.put, List.setIfInBounds_toArray, List.set_cons_zero, List.set_cons_succ]
  refine wpAnyH_take (i := 13) (oi := { dst := some 44, op := Op.pick (Operand.tmp 37) (Operand.tmp 43) (Operand.const (Value.bool false)), type := 4, pos := "keeps.go:59", after := #[{ on := 6, ground := Ground.data }, { on := 12, ground := Ground.data }], guard := none }) (v := ?_) rfl (by kernel_rfl) (by kernel_rfl) (by kernel_rfl) (fun _ _ _ h => h) (Or.inl ⟨by rfl, ?_⟩) hHeld ?_
  rotate_left
  · intro w hSw; (try dsimp only at hSw); go_simp; try with_reducible rfl
  try simp only [Act.put, List.setIfInBounds_toArray, List.set_cons_zero, List.set_cons_succ]
  refine wpAnyH_take (i := 14) (oi := { dst := some 45, op := Op.move (Operand.tmp 44), type := 4, pos := "keeps.go:59", after := #[{ on := 13, ground := Ground.data }, { on := 6, ground := Ground.chain }], guard := none }) (v := ?_) rfl (by kernel_rfl) (by kernel_rfl) (by kernel_rfl) (fun _ _ _ h => h) (Or.inl ⟨by rfl, ?_⟩) hHeld ?_
  rotate_left
  · intro w hSw; (try dsimp only at hSw); go_simp; try with_reducible rfl
  try simp only [Act.put, List.setIfInBounds_toArray, List.set_cons_zero, List.set_cons_succ]
  refine wpAnyH_take (i := 15) (oi := { dst := some 46, op := Op.load 24 (Operand.tmp 10), type := 24, pos := "keeps.go:59", after := #[{ on := 14, ground := Ground.guard }], guard := some (14, true) }) (v := ?_) rfl (by kernel_rfl) (by kernel_rfl) (by kernel_rfl) (fun _ _ _ h => h) (Or.inl ⟨by rfl, ?_⟩) hHeld ?_
  rotate_left
  · intro w hSw; (try dsimp only at hSw); go_simp; try with_reducible rfl
  try simp only [Act.put, List.setIfInBounds_toArray, List.set_cons_zero, List.set_cons_succ]
  refine wpAnyH_take (i := 16) (oi := { dst := some 47, op := Op.load 24 (Operand.tmp 8), type := 24, pos := "keeps.go:59", after := #[{ on := 14, ground := Ground.guard }], guard := some (14, true) }) (v := ?_) rfl (by kernel_rfl) (by kernel_rfl) (by kernel_rfl) (fun _ _ _ h => h) (Or.inl ⟨by rfl, ?_⟩) hHeld ?_
  rotate_left
  · intro w hSw; (try dsimp only at hSw); go_simp; try with_reducible rfl
  try simp only [Act.put, List.setIfInBounds_toArray, List.set_cons_zero, List.set_cons_succ]
  refine wpAnyH_ready (rs := [17]) (by kernel_rfl) (by simp) ?_
  refine AllReadyH.cons (o := { dst := some 48, op := Op.call { callee := Callee.value (Operand.func 11), args := #[Operand.tmp 47], argTypes := #[24] }, type := 24, pos := "keeps.go:59", after := #[{ on := 16, ground := Ground.data }, { on := 14, ground := Ground.chain }, { on := 14, ground := Ground.guard }], guard := some (14, true) }) rfl (fun K hK => ?_) AllReadyH.nil
  go_simp
  refine (rev_c _ _ _ _ _ _).mono ?_
  rintro e wR ⟨rfl, hR1⟩
  have hz1 : w5.heap.size ≤ wR.heap.size := (by have q := hR1.size; exact q)
  go_simp
  refine hK.out _ _ (HS.out _ (Below.trans (Below.drew (Below.refl _ _)) hR1)) (fun hHeld2 => ?_)
  clear hK K hHeld
  have hHeld := hHeld2
  clear hHeld2
  try simp only [Act.put, List.setIfInBounds_toArray, List.set_cons_zero, List.set_cons_succ]
  refine wpAnyH_take (i := 18) (oi := { dst := some 49, op := Op.binOp BinOp.eql 24 (Operand.tmp 46) (Operand.tmp 48) 24, type := 4, pos := "keeps.go:59", after := #[{ on := 15, ground := Ground.data }, { on := 17, ground := Ground.data }, { on := 14, ground := Ground.guard }], guard := some (14, true) }) (v := ?_) rfl (by kernel_rfl) (by kernel_rfl) (by kernel_rfl) (fun _ _ _ h => h) (Or.inl ⟨by rfl, ?_⟩) hHeld ?_
  rotate_left
  · intro w hSw; (try dsimp only at hSw); go_simp; try with_reducible rfl
  try simp only [Act.put, List.setIfInBounds_toArray, List.set_cons_zero, List.set_cons_succ]
  refine wpAnyH_take (i := 19) (oi := { dst := some 50, op := Op.pick (Operand.tmp 45) (Operand.tmp 49) (Operand.const (Value.bool false)), type := 4, pos := "keeps.go:59", after := #[{ on := 14, ground := Ground.data }, { on := 18, ground := Ground.data }], guard := none }) (v := ?_) rfl (by kernel_rfl) (by kernel_rfl) (by kernel_rfl) (fun _ _ _ h => h) (Or.inl ⟨by rfl, ?_⟩) hHeld ?_
  rotate_left
  · intro w hSw; (try dsimp only at hSw); go_simp; try with_reducible rfl
  try simp only [Act.put, List.setIfInBounds_toArray, List.set_cons_zero, List.set_cons_succ]
  refine wpAnyH_take (i := 20) (oi := { dst := some 51, op := Op.move (Operand.tmp 50), type := 4, pos := "keeps.go:59", after := #[{ on := 19, ground := Ground.data }, { on := 17, ground := Ground.chain }], guard := none }) (v := ?_) rfl (by kernel_rfl) (by kernel_rfl) (by kernel_rfl) (fun _ _ _ h => h) (Or.inl ⟨by rfl, ?_⟩) hHeld ?_
  rotate_left
  · intro w hSw; (try dsimp only at hSw); go_simp; try with_reducible rfl
  try simp only [Act.put, List.setIfInBounds_toArray, List.set_cons_zero, List.set_cons_succ]
  refine wpAnyH_take (i := 21) (oi := { dst := some 52, op := Op.load 24 (Operand.tmp 8), type := 24, pos := "keeps.go:59", after := #[{ on := 20, ground := Ground.guard }], guard := some (20, true) }) (v := ?_) rfl (by kernel_rfl) (by kernel_rfl) (by kernel_rfl) (fun _ _ _ h => h) (Or.inl ⟨by rfl, ?_⟩) hHeld ?_
  rotate_left
  · intro w hSw; (try dsimp only at hSw); go_simp; try with_reducible rfl
  try simp only [Act.put, List.setIfInBounds_toArray, List.set_cons_zero, List.set_cons_succ]
  refine wpAnyH_take (i := 22) (oi := { dst := some 53, op := Op.fieldAddr 37 (Operand.tmp 3) 3, type := 0, pos := "keeps.go:59", after := #[{ on := 20, ground := Ground.guard }], guard := some (20, true) }) (v := ?_) rfl (by kernel_rfl) (by kernel_rfl) (by kernel_rfl) (fun _ _ _ h => h) (Or.inl ⟨by rfl, ?_⟩) hHeld ?_
  rotate_left
  · intro w hSw; (try dsimp only at hSw); go_simp; try with_reducible rfl
  try simp only [Act.put, List.setIfInBounds_toArray, List.set_cons_zero, List.set_cons_succ]
  refine wpAnyH_take (i := 23) (oi := { dst := some 54, op := Op.load 24 (Operand.tmp 53), type := 24, pos := "keeps.go:59", after := #[{ on := 22, ground := Ground.data }, { on := 20, ground := Ground.guard }], guard := some (20, true) }) (v := ?_) rfl (by kernel_rfl) (by kernel_rfl) (by kernel_rfl) (fun _ _ _ h => h) (Or.inl ⟨by rfl, ?_⟩) hHeld ?_
  rotate_left
  · intro w hSw; (try dsimp only at hSw); go_simp; try with_reducible rfl
  try simp only [Act.put, List.setIfInBounds_toArray, List.set_cons_zero, List.set_cons_succ]
  refine wpAnyH_take (i := 24) (oi := { dst := some 55, op := Op.binOp BinOp.eql 24 (Operand.tmp 52) (Operand.tmp 54) 24, type := 4, pos := "keeps.go:59", after := #[{ on := 21, ground := Ground.data }, { on := 23, ground := Ground.data }, { on := 20, ground := Ground.guard }], guard := some (20, true) }) (v := ?_) rfl (by kernel_rfl) (by kernel_rfl) (by kernel_rfl) (fun _ _ _ h => h) (Or.inl ⟨by rfl, ?_⟩) hHeld ?_
  rotate_left
  · intro w hSw; (try dsimp only at hSw); go_simp; try with_reducible rfl
  try simp only [Act.put, List.setIfInBounds_toArray, List.set_cons_zero, List.set_cons_succ]
  refine wpAnyH_take (i := 25) (oi := { dst := some 56, op := Op.move (Operand.tmp 1), type := 4, pos := "keeps.go:59", after := #[{ on := 20, ground := Ground.guard }], guard := some (20, true) }) (v := ?_) rfl (by kernel_rfl) (by kernel_rfl) (by kernel_rfl) (fun _ _ _ h => h) (Or.inl ⟨by rfl, ?_⟩) hHeld ?_
  rotate_left
  · intro w hSw; (try dsimp only at hSw); go_simp; try with_reducible rfl
  try simp only [Act.put, List.setIfInBounds_toArray, List.set_cons_zero, List.set_cons_succ]
  refine wpAnyH_take (i := 26) (oi := { dst := some 57, op := Op.move (Operand.tmp 2), type := 4, pos := "keeps.go:59", after := #[{ on := 20, ground := Ground.guard }], guard := some (20, true) }) (v := ?_) rfl (by kernel_rfl) (by kernel_rfl) (by kernel_rfl) (fun _ _ _ h => h) (Or.inl ⟨by rfl, ?_⟩) hHeld ?_
  rotate_left
  · intro w hSw; (try dsimp only at hSw); go_simp; try with_reducible rfl
  try simp only [Act.put, List.setIfInBounds_toArray, List.set_cons_zero, List.set_cons_succ]
  refine wpAnyH_take (i := 27) (oi := { dst := some 58, op := Op.binOp BinOp.eql 4 (Operand.tmp 56) (Operand.tmp 57) 4, type := 4, pos := "keeps.go:59", after := #[{ on := 25, ground := Ground.data }, { on := 26, ground := Ground.data }, { on := 20, ground := Ground.guard }], guard := some (20, true) }) (v := ?_) rfl (by kernel_rfl) (by kernel_rfl) (by kernel_rfl) (fun _ _ _ h => h) (Or.inl ⟨by rfl, ?_⟩) hHeld ?_
  rotate_left
  · intro w hSw; (try dsimp only at hSw); go_simp; try with_reducible rfl
  try simp only [Act.put, List.setIfInBounds_toArray, List.set_cons_zero, List.set_cons_succ]
  refine wpAnyH_take (i := 28) (oi := { dst := some 59, op := Op.move (Operand.tmp 58), type := 4, pos := "keeps.go:59", after := #[{ on := 27, ground := Ground.data }, { on := 20, ground := Ground.chain }, { on := 20, ground := Ground.guard }], guard := some (20, true) }) (v := ?_) rfl (by kernel_rfl) (by kernel_rfl) (by kernel_rfl) (fun _ _ _ h => h) (Or.inl ⟨by rfl, ?_⟩) hHeld ?_
  rotate_left
  · intro w hSw; (try dsimp only at hSw); go_simp; try with_reducible rfl
  try simp only [Act.put, List.setIfInBounds_toArray, List.set_cons_zero, List.set_cons_succ]
  refine wpAnyH_take (i := 29) (oi := { dst := some 60, op := Op.fieldAddr 37 (Operand.tmp 3) 3, type := 0, pos := "keeps.go:59", after := #[{ on := 28, ground := Ground.guard }], guard := some (28, false) }) (v := ?_) rfl (by kernel_rfl) (by kernel_rfl) (by kernel_rfl) (fun _ _ _ h => h) (Or.inl ⟨by rfl, ?_⟩) hHeld ?_
  rotate_left
  · intro w hSw; (try dsimp only at hSw); go_simp; try with_reducible rfl
  try simp only [Act.put, List.setIfInBounds_toArray, List.set_cons_zero, List.set_cons_succ]
  refine wpAnyH_take (i := 30) (oi := { dst := some 61, op := Op.load 24 (Operand.tmp 60), type := 24, pos := "keeps.go:59", after := #[{ on := 29, ground := Ground.data }, { on := 28, ground := Ground.guard }], guard := some (28, false) }) (v := ?_) rfl (by kernel_rfl) (by kernel_rfl) (by kernel_rfl) (fun _ _ _ h => h) (Or.inl ⟨by rfl, ?_⟩) hHeld ?_
  rotate_left
  · intro w hSw; (try dsimp only at hSw); go_simp; try with_reducible rfl
  try simp only [Act.put, List.setIfInBounds_toArray, List.set_cons_zero, List.set_cons_succ]
  refine wpAnyH_take (i := 31) (oi := { dst := some 62, op := Op.fieldAddr 37 (Operand.tmp 3) 3, type := 0, pos := "keeps.go:59", after := #[{ on := 28, ground := Ground.guard }], guard := some (28, false) }) (v := ?_) rfl (by kernel_rfl) (by kernel_rfl) (by kernel_rfl) (fun _ _ _ h => h) (Or.inl ⟨by rfl, ?_⟩) hHeld ?_
  rotate_left
  · intro w hSw; (try dsimp only at hSw); go_simp; try with_reducible rfl
  try simp only [Act.put, List.setIfInBounds_toArray, List.set_cons_zero, List.set_cons_succ]
  refine wpAnyH_take (i := 32) (oi := { dst := some 63, op := Op.load 24 (Operand.tmp 62), type := 24, pos := "keeps.go:59", after := #[{ on := 31, ground := Ground.data }, { on := 28, ground := Ground.guard }], guard := some (28, false) }) (v := ?_) rfl (by kernel_rfl) (by kernel_rfl) (by kernel_rfl) (fun _ _ _ h => h) (Or.inl ⟨by rfl, ?_⟩) hHeld ?_
  rotate_left
  · intro w hSw; (try dsimp only at hSw); go_simp; try with_reducible rfl
  try simp only [Act.put, List.setIfInBounds_toArray, List.set_cons_zero, List.set_cons_succ]
  refine wpAnyH_ready (rs := [33]) (by kernel_rfl) (by simp) ?_
  refine AllReadyH.cons (o := { dst := some 64, op := Op.call { callee := Callee.value (Operand.func 11), args := #[Operand.tmp 63], argTypes := #[24] }, type := 24, pos := "keeps.go:59", after := #[{ on := 32, ground := Ground.data }, { on := 28, ground := Ground.chain }, { on := 28, ground := Ground.guard }], guard := some (28, false) }) rfl (fun K hK => ?_) AllReadyH.nil
  go_simp
  refine (rev_c _ _ _ _ _ _).mono ?_
  rintro e wT ⟨rfl, hR2⟩
  skip
  go_simp
  refine hK.out _ _ (HS.out _ (Below.trans (Below.trans (Below.drew (Below.refl _ _)) hR1) (Below.mono hR2 hz1))) (fun hHeld2 => ?_)
  clear hK K hHeld
  have hHeld := hHeld2
  clear hHeld2
  try simp only [Act.put, List.setIfInBounds_toArray, List.set_cons_zero, List.set_cons_succ]
  refine wpAnyH_take (i := 34) (oi := { dst := some 65, op := Op.binOp BinOp.eql 24 (Operand.tmp 61) (Operand.tmp 64) 24, type := 4, pos := "keeps.go:59", after := #[{ on := 30, ground := Ground.data }, { on := 33, ground := Ground.data }, { on := 28, ground := Ground.guard }], guard := some (28, false) }) (v := ?_) rfl (by kernel_rfl) (by kernel_rfl) (by kernel_rfl) (fun _ _ _ h => h) (Or.inl ⟨by rfl, ?_⟩) hHeld ?_
  rotate_left
  · intro w hSw; (try dsimp only at hSw); go_simp; try with_reducible rfl
  try simp only [Act.put, List.setIfInBounds_toArray, List.set_cons_zero, List.set_cons_succ]
  refine wpAnyH_take (i := 35) (oi := { dst := some 66, op := Op.pick (Operand.tmp 59) (Operand.const (Value.bool true)) (Operand.tmp 65), type := 4, pos := "keeps.go:59", after := #[{ on := 28, ground := Ground.data }, { on := 34, ground := Ground.data }, { on := 20, ground := Ground.guard }], guard := some (20, true) }) (v := ?_) rfl (by kernel_rfl) (by kernel_rfl) (by kernel_rfl) (fun _ _ _ h => h) (Or.inl ⟨by rfl, ?_⟩) hHeld ?_
  rotate_left
  · intro w hSw; (try dsimp only at hSw); go_simp; try with_reducible rfl
  try simp only [Act.put, List.setIfInBounds_toArray, List.set_cons_zero, List.set_cons_succ]
  refine wpAnyH_take (i := 36) (oi := { dst := some 67, op := Op.binOp BinOp.eql 4 (Operand.tmp 55) (Operand.tmp 66) 4, type := 4, pos := "keeps.go:59", after := #[{ on := 24, ground := Ground.data }, { on := 35, ground := Ground.data }, { on := 20, ground := Ground.guard }], guard := some (20, true) }) (v := ?_) rfl (by kernel_rfl) (by kernel_rfl) (by kernel_rfl) (fun _ _ _ h => h) (Or.inl ⟨by rfl, ?_⟩) hHeld ?_
  rotate_left
  · intro w hSw; (try dsimp only at hSw); go_simp; try with_reducible rfl
  try simp only [Act.put, List.setIfInBounds_toArray, List.set_cons_zero, List.set_cons_succ]
  refine wpAnyH_take (i := 37) (oi := { dst := some 68, op := Op.pick (Operand.tmp 51) (Operand.tmp 67) (Operand.const (Value.bool false)), type := 4, pos := "keeps.go:59", after := #[{ on := 20, ground := Ground.data }, { on := 36, ground := Ground.data }], guard := none }) (v := ?_) rfl (by kernel_rfl) (by kernel_rfl) (by kernel_rfl) (fun _ _ _ h => h) (Or.inl ⟨by rfl, ?_⟩) hHeld ?_
  rotate_left
  · intro w hSw; (try dsimp only at hSw); go_simp; try with_reducible rfl
  try simp only [Act.put, List.setIfInBounds_toArray, List.set_cons_zero, List.set_cons_succ]
  refine wpAnyH_take (i := 38) (oi := { dst := some 6, op := Op.assign (Operand.tmp 68), type := 4, pos := "keeps.go:59", after := #[{ on := 37, ground := Ground.data }, { on := 33, ground := Ground.chain }, { on := 0, ground := Ground.phase }, { on := 1, ground := Ground.phase }, { on := 2, ground := Ground.phase }, { on := 3, ground := Ground.phase }, { on := 4, ground := Ground.phase }, { on := 5, ground := Ground.phase }, { on := 6, ground := Ground.phase }, { on := 7, ground := Ground.phase }, { on := 8, ground := Ground.phase }, { on := 9, ground := Ground.phase }, { on := 10, ground := Ground.phase }, { on := 11, ground := Ground.phase }, { on := 12, ground := Ground.phase }, { on := 13, ground := Ground.phase }, { on := 14, ground := Ground.phase }, { on := 15, ground := Ground.phase }, { on := 16, ground := Ground.phase }, { on := 17, ground := Ground.phase }, { on := 18, ground := Ground.phase }, { on := 19, ground := Ground.phase }, { on := 20, ground := Ground.phase }, { on := 21, ground := Ground.phase }, { on := 22, ground := Ground.phase }, { on := 23, ground := Ground.phase }, { on := 24, ground := Ground.phase }, { on := 25, ground := Ground.phase }, { on := 26, ground := Ground.phase }, { on := 27, ground := Ground.phase }, { on := 28, ground := Ground.phase }, { on := 29, ground := Ground.phase }, { on := 30, ground := Ground.phase }, { on := 31, ground := Ground.phase }, { on := 32, ground := Ground.phase }, { on := 33, ground := Ground.phase }, { on := 34, ground := Ground.phase }, { on := 35, ground := Ground.phase }, { on := 36, ground := Ground.phase }, { on := 37, ground := Ground.phase }], guard := none }) (v := ?_) rfl (by kernel_rfl) (by kernel_rfl) (by kernel_rfl) (fun _ _ _ h => h) (Or.inl ⟨by rfl, ?_⟩) hHeld ?_
  rotate_left
  · intro w hSw; (try dsimp only at hSw); go_simp; try with_reducible rfl
  try simp only [Act.put, List.setIfInBounds_toArray, List.set_cons_zero, List.set_cons_succ]
  refine wpAnyH_done (by kernel_rfl) ?_ _
  have hb6 := hb5.trans (Below.mono (Below.trans (Below.trans (Below.drew (Below.refl _ _)) hR1) (Below.mono hR2 hz1)) hb5.size)
  clear hHeld HS A5 N5 M5 O5
  go_wp2
  go_ret
  exact ⟨rfl, hb6⟩


set_option maxRecDepth 100000 in
set_option maxHeartbeats 3200000 in
theorem protos_ftm (kd at1 to1 p s d a b fl tl sr ds qt nn : Int) (he : s = d ∧ ¬ a = b) (w : World) :
    Calls Try.prog 5 #[.agg #[.int .i64 kd, .int .i64 at1, .int .i64 to1, .int .i64 p, .int .u32 s, .int .u32 d, .int .i64 a, .int .i64 b, .int .i64 fl, .int .i64 tl, .int .u32 sr, .int .u32 ds, .int .i64 qt, .int .i64 nn], .bool false, .bool true] w fun e w' => e = .returned (.bool true) ∧ Below w.heap.size w w' := by
  obtain ⟨rfl, he⟩ := he
  have he1 : (a == b) = false := by simpa using he
  have he2 : (b == a) = false := by simpa using fun q => he q.symm
  clear he
  have A0 := Has.new w #[.int .i64 kd, .int .i64 at1, .int .i64 to1, .int .i64 p, .int .u32 s, .int .u32 s, .int .i64 a, .int .i64 b, .int .i64 fl, .int .i64 tl, .int .u32 sr, .int .u32 ds, .int .i64 qt, .int .i64 nn] 37
  go_enter Try.func5, Try.ntmps5
  go_wp2_with fail
  refine (examples_c _).mono ?_
  rintro e w1 ⟨rfl, hb⟩
  have hb1 : Below w.heap.size w w1 := ((Below.refl _ _).alloc (Nat.le_refl _) _).trans (hb.mono (by simp))
  have A1 := A0.below hb
  clear A0 hb
  have c1 := A1.cell
  have f1 := A1.free
  have l1 := A1.lt
  have A2 := A1.set 0 (.int .i64 1)
  have A2 := A2.set 0 (.int .i64 2)
  simp only [Array.setIfInBounds, List.size_toArray, List.length_cons, List.length_nil, Nat.reduceAdd, Nat.reduceLT, ↓reduceDIte, List.set_toArray, List.set_cons_succ, List.set_cons_zero] at A2
  clear A1
  go_wp2_with fail
  refine (name_rev _ _ _ _ _ _ _ _ _ _ _ _ _ _ _ (by rfl) _).mono ?_
  rintro e w2 ⟨rfl, hb⟩
  have hb2 : Below w.heap.size w w2 := ((hb1.setCell (by simp) _).setCell (by simp) _).trans (hb.mono (by simpa [World.setCell] using hb1.size))
  have A3 := A2.below hb
  have N3 := Has.new w2 #[.int .i64 p, .int .u32 s, .int .u32 s, .int .i64 b, .int .i64 a] 24
  clear A2 hb hb1 c1 f1 l1
  have c3 := A3.cell
  have l3 := A3.lt
  go_wp2_with fail
  refine (name_rev _ _ _ _ _ _ _ _ _ _ _ _ _ _ _ (by rfl) _).mono ?_
  rintro e w3 ⟨rfl, hb⟩
  have hb3 : Below w.heap.size w w3 := (hb2.alloc hb2.size _).trans (hb.mono (by simp; omega))
  have A4 := (A3.alloc _).below hb
  have N4 := N3.below hb
  have M4 := Has.new w3 #[.int .i64 p, .int .u32 s, .int .u32 s, .int .i64 b, .int .i64 a] 24
  clear A3 N3 hb hb2 c3 l3
  have c4 := A4.cell
  have l4 := A4.lt
  go_wp2_with fail
  refine (name_same _ _ _ _ _ _ _ _ _ _ _ _ _ _ _ (by rfl) _).mono ?_
  rintro e w4 ⟨rfl, hb⟩
  have hb4 : Below w.heap.size w w4 := (hb3.alloc hb3.size _).trans (hb.mono (by simp; omega))
  have A5 := ((A4.alloc _).below hb).alloc (.cells #[.int .i64 p, .int .u32 s, .int .u32 s, .int .i64 a, .int .i64 b] 24)
  have N5 := ((N4.alloc _).below hb).alloc (.cells #[.int .i64 p, .int .u32 s, .int .u32 s, .int .i64 a, .int .i64 b] 24)
  have M5 := (M4.below hb).alloc (.cells #[.int .i64 p, .int .u32 s, .int .u32 s, .int .i64 a, .int .i64 b] 24)
  have O5 := Has.new w4 #[.int .i64 p, .int .u32 s, .int .u32 s, .int .i64 a, .int .i64 b] 24
  have hb5 := hb4.alloc hb4.size (.cells #[.int .i64 p, .int .u32 s, .int .u32 s, .int .i64 a, .int .i64 b] 24)
  clear A4 N4 M4 hb hb3 hb4 c4 l4
  go_wp2_with fail
  obtain ⟨w5, hw5⟩ : ∃ w5, w5 = w4.alloc (.cells #[.int .i64 p, .int .u32 s, .int .u32 s, .int .i64 a, .int .i64 b] 24) := ⟨_, rfl⟩
  rw [← hw5] at A5 N5 M5 O5 hb5 ⊢
  clear hw5
  have HS : Hid (∀ W : World, Below w5.heap.size w5 W → W.cell? ⟨w2.heap.size, 0, none⟩ = some (.int .i64 p) ∧ W.cell? ⟨w2.heap.size, 1, none⟩ = some (.int .u32 s) ∧ W.cell? ⟨w2.heap.size, 2, none⟩ = some (.int .u32 s) ∧ W.cell? ⟨w2.heap.size, 3, none⟩ = some (.int .i64 b) ∧ W.cell? ⟨w2.heap.size, 4, none⟩ = some (.int .i64 a) ∧ W.cell? ⟨w3.heap.size, 0, none⟩ = some (.int .i64 p) ∧ W.cell? ⟨w3.heap.size, 1, none⟩ = some (.int .u32 s) ∧ W.cell? ⟨w3.heap.size, 2, none⟩ = some (.int .u32 s) ∧ W.cell? ⟨w3.heap.size, 3, none⟩ = some (.int .i64 b) ∧ W.cell? ⟨w3.heap.size, 4, none⟩ = some (.int .i64 a) ∧ W.cell? ⟨w4.heap.size, 0, none⟩ = some (.int .i64 p) ∧ W.cell? ⟨w4.heap.size, 1, none⟩ = some (.int .u32 s) ∧ W.cell? ⟨w4.heap.size, 2, none⟩ = some (.int .u32 s) ∧ W.cell? ⟨w4.heap.size, 3, none⟩ = some (.int .i64 a) ∧ W.cell? ⟨w4.heap.size, 4, none⟩ = some (.int .i64 b) ∧ W.cell? ⟨w.heap.size, 3, none⟩ = some (.int .i64 p) ∧ W.cell? ⟨w.heap.size, 4, none⟩ = some (.int .u32 s) ∧ W.cell? ⟨w.heap.size, 5, none⟩ = some (.int .u32 s) ∧ W.cell? ⟨w.heap.size, 6, none⟩ = some (.int .i64 a) ∧ W.cell? ⟨w.heap.size, 7, none⟩ = some (.int .i64 b) ∧ Below w5.heap.size w5 W) := fun W q => ⟨(N5.below q).cell 0, (N5.below q).cell 1, (N5.below q).cell 2, (N5.below q).cell 3, (N5.below q).cell 4, (M5.below q).cell 0, (M5.below q).cell 1, (M5.below q).cell 2, (M5.below q).cell 3, (M5.below q).cell 4, (O5.below q).cell 0, (O5.below q).cell 1, (O5.below q).cell 2, (O5.below q).cell 3, (O5.below q).cell 4, (A5.below q).cell 3, (A5.below q).cell 4, (A5.below q).cell 5, (A5.below q).cell 6, (A5.below q).cell 7, q⟩
  refine wp_region_held_drew (S := fun W => W.cell? ⟨w2.heap.size, 0, none⟩ = some (.int .i64 p) ∧ W.cell? ⟨w2.heap.size, 1, none⟩ = some (.int .u32 s) ∧ W.cell? ⟨w2.heap.size, 2, none⟩ = some (.int .u32 s) ∧ W.cell? ⟨w2.heap.size, 3, none⟩ = some (.int .i64 b) ∧ W.cell? ⟨w2.heap.size, 4, none⟩ = some (.int .i64 a) ∧ W.cell? ⟨w3.heap.size, 0, none⟩ = some (.int .i64 p) ∧ W.cell? ⟨w3.heap.size, 1, none⟩ = some (.int .u32 s) ∧ W.cell? ⟨w3.heap.size, 2, none⟩ = some (.int .u32 s) ∧ W.cell? ⟨w3.heap.size, 3, none⟩ = some (.int .i64 b) ∧ W.cell? ⟨w3.heap.size, 4, none⟩ = some (.int .i64 a) ∧ W.cell? ⟨w4.heap.size, 0, none⟩ = some (.int .i64 p) ∧ W.cell? ⟨w4.heap.size, 1, none⟩ = some (.int .u32 s) ∧ W.cell? ⟨w4.heap.size, 2, none⟩ = some (.int .u32 s) ∧ W.cell? ⟨w4.heap.size, 3, none⟩ = some (.int .i64 a) ∧ W.cell? ⟨w4.heap.size, 4, none⟩ = some (.int .i64 b) ∧ W.cell? ⟨w.heap.size, 3, none⟩ = some (.int .i64 p) ∧ W.cell? ⟨w.heap.size, 4, none⟩ = some (.int .u32 s) ∧ W.cell? ⟨w.heap.size, 5, none⟩ = some (.int .u32 s) ∧ W.cell? ⟨w.heap.size, 6, none⟩ = some (.int .i64 a) ∧ W.cell? ⟨w.heap.size, 7, none⟩ = some (.int .i64 b) ∧ Below w5.heap.size w5 W) (by kernel_rfl) (HS.out _ (Below.drew (Below.refl _ _))) (fun hHeld => ?_)
  refine wpAnyH_take (i := 0) (oi := { dst := some 31, op := Op.move (Operand.tmp 7), type := 4, pos := "keeps.go:59", after := #[], guard := none }) (v := ?_) rfl (by kernel_rfl) (by kernel_rfl) (by kernel_rfl) (fun _ _ _ h => h) (Or.inl ⟨by rfl, ?_⟩) hHeld ?_
  rotate_left
  · intro w hSw; (try dsimp only at hSw); go_simp; try with_reducible rfl
  try simp only [Act.put, List.setIfInBounds_toArray, List.set_cons_zero, List.set_cons_succ]
  refine wpAnyH_take (i := 1) (oi := { dst := some 32, op := Op.move (Operand.tmp 31), type := 4, pos := "keeps.go:59", after := #[{ on := 0, ground := Ground.data }], guard := none }) (v := ?_) rfl (by kernel_rfl) (by kernel_rfl) (by kernel_rfl) (fun _ _ _ h => h) (Or.inl ⟨by rfl, ?_⟩) hHeld ?_
  rotate_left
  · intro w hSw; (try dsimp only at hSw); go_simp; try with_reducible rfl
  try simp only [Act.put, List.setIfInBounds_toArray, List.set_cons_zero, List.set_cons_succ]
  refine wpAnyH_take (i := 2) (oi := { dst := some 33, op := Op.load 24 (Operand.tmp 8), type := 24, pos := "keeps.go:59", after := #[{ on := 1, ground := Ground.guard }], guard := some (1, true) }) (v := ?_) rfl (by kernel_rfl) (by kernel_rfl) (by kernel_rfl) (fun _ _ _ h => h) (Or.inl ⟨by rfl, ?_⟩) hHeld ?_
  rotate_left
  · intro w hSw; (try dsimp only at hSw); go_simp; try with_reducible rfl
  try simp only [Act.put, List.setIfInBounds_toArray, List.set_cons_zero, List.set_cons_succ]
  refine wpAnyH_take (i := 3) (oi := { dst := some 34, op := Op.load 24 (Operand.tmp 9), type := 24, pos := "keeps.go:59", after := #[{ on := 1, ground := Ground.guard }], guard := some (1, true) }) (v := ?_) rfl (by kernel_rfl) (by kernel_rfl) (by kernel_rfl) (fun _ _ _ h => h) (Or.inl ⟨by rfl, ?_⟩) hHeld ?_
  rotate_left
  · intro w hSw; (try dsimp only at hSw); go_simp; try with_reducible rfl
  try simp only [Act.put, List.setIfInBounds_toArray, List.set_cons_zero, List.set_cons_succ]
  refine wpAnyH_take (i := 4) (oi := { dst := some 35, op := Op.binOp BinOp.eql 24 (Operand.tmp 33) (Operand.tmp 34) 24, type := 4, pos := "keeps.go:59", after := #[{ on := 2, ground := Ground.data }, { on := 3, ground := Ground.data }, { on := 1, ground := Ground.guard }], guard := some (1, true) }) (v := ?_) rfl (by kernel_rfl) (by kernel_rfl) (by kernel_rfl) (fun _ _ _ h => h) (Or.inl ⟨by rfl, ?_⟩) hHeld ?_
  rotate_left
  · intro w hSw; (try dsimp only at hSw); go_simp; try with_reducible rfl
  try simp only [Act.put, List.setIfInBounds_toArray, List.set_cons_zero, List.set_cons_succ]
  refine wpAnyH_take (i := 5) (oi := { dst := some 36, op := Op.pick (Operand.tmp 32) (Operand.tmp 35) (Operand.const (Value.bool false)), type := 4, pos := "keeps.go:59", after := #[{ on := 1, ground := Ground.data }, { on := 4, ground := Ground.data }], guard := none }) (v := ?_) rfl (by kernel_rfl) (by kernel_rfl) (by kernel_rfl) (fun _ _ _ h => h) (Or.inl ⟨by rfl, ?_⟩) hHeld ?_
  rotate_left
  · intro w hSw; (try dsimp only at hSw); go_simp; try with_reducible rfl
  try simp only [Act.put, List.setIfInBounds_toArray, List.set_cons_zero, List.set_cons_succ]
  refine wpAnyH_take (i := 6) (oi := { dst := some 37, op := Op.move (Operand.tmp 36), type := 4, pos := "keeps.go:59", after := #[{ on := 5, ground := Ground.data }, { on := 1, ground := Ground.chain }], guard := none }) (v := ?_) rfl (by kernel_rfl) (by kernel_rfl) (by kernel_rfl) (fun _ _ _ h => h) (Or.inl ⟨by rfl, ?_⟩) hHeld ?_
  rotate_left
  · intro w hSw; (try dsimp only at hSw); go_simp; try with_reducible rfl
  try simp only [Act.put, List.setIfInBounds_toArray, List.set_cons_zero, List.set_cons_succ]
  refine wpAnyH_take (i := 7) (oi := { dst := some 38, op := Op.fieldAddr 24 (Operand.tmp 8) 0, type := 0, pos := "keeps.go:59", after := #[{ on := 6, ground := Ground.guard }], guard := some (6, true) }) (v := ?_) rfl (by kernel_rfl) (by kernel_rfl) (by kernel_rfl) (fun _ _ _ h => h) (Or.inl ⟨by rfl, ?_⟩) hHeld ?_
  rotate_left
  · intro w hSw; (try dsimp only at hSw); go_simp; try with_reducible rfl
  try simp only [Act.put, List.setIfInBounds_toArray, List.set_cons_zero, List.set_cons_succ]
  refine wpAnyH_take (i := 8) (oi := { dst := some 39, op := Op.load 3 (Operand.tmp 38), type := 3, pos := "keeps.go:59", after := #[{ on := 7, ground := Ground.data }, { on := 6, ground := Ground.guard }], guard := some (6, true) }) (v := ?_) rfl (by kernel_rfl) (by kernel_rfl) (by kernel_rfl) (fun _ _ _ h => h) (Or.inl ⟨by rfl, ?_⟩) hHeld ?_
  rotate_left
  · intro w hSw; (try dsimp only at hSw); go_simp; try with_reducible rfl
  try simp only [Act.put, List.setIfInBounds_toArray, List.set_cons_zero, List.set_cons_succ]
  refine wpAnyH_take (i := 9) (oi := { dst := some 40, op := Op.fieldAddr 37 (Operand.tmp 3) 3, type := 0, pos := "keeps.go:59", after := #[{ on := 6, ground := Ground.guard }], guard := some (6, true) }) (v := ?_) rfl (by kernel_rfl) (by kernel_rfl) (by kernel_rfl) (fun _ _ _ h => h) (Or.inl ⟨by rfl, ?_⟩) hHeld ?_
  rotate_left
  · intro w hSw; (try dsimp only at hSw); go_simp; try with_reducible rfl
  try simp only [Act.put, List.setIfInBounds_toArray, List.set_cons_zero, List.set_cons_succ]
  refine wpAnyH_take (i := 10) (oi := { dst := some 41, op := Op.fieldAddr 24 (Operand.tmp 40) 0, type := 0, pos := "keeps.go:59", after := #[{ on := 9, ground := Ground.data }, { on := 6, ground := Ground.guard }], guard := some (6, true) }) (v := ?_) rfl (by kernel_rfl) (by kernel_rfl) (by kernel_rfl) (fun _ _ _ h => h) (Or.inl ⟨by rfl, ?_⟩) hHeld ?_
  rotate_left
  · intro w hSw; (try dsimp only at hSw); go_simp; try with_reducible rfl
  try simp only [Act.put, List.setIfInBounds_toArray, List.set_cons_zero, List.set_cons_succ]
  refine wpAnyH_take (i := 11) (oi := { dst := some 42, op := Op.load 3 (Operand.tmp 41), type := 3, pos := "keeps.go:59", after := #[{ on := 10, ground := Ground.data }, { on := 6, ground := Ground.guard }], guard := some (6, true) }) (v := ?_) rfl (by kernel_rfl) (by kernel_rfl) (by kernel_rfl) (fun _ _ _ h => h) (Or.inl ⟨by rfl, ?_⟩) hHeld ?_
  rotate_left
  · intro w hSw; (try dsimp only at hSw); go_simp; try with_reducible rfl
  try simp only [Act.put, List.setIfInBounds_toArray, List.set_cons_zero, List.set_cons_succ]
  refine wpAnyH_take (i := 12) (oi := { dst := some 43, op := Op.binOp BinOp.eql 3 (Operand.tmp 39) (Operand.tmp 42) 3, type := 4, pos := "keeps.go:59", after := #[{ on := 8, ground := Ground.data }, { on := 11, ground := Ground.data }, { on := 6, ground := Ground.guard }], guard := some (6, true) }) (v := ?_) rfl (by kernel_rfl) (by kernel_rfl) (by kernel_rfl) (fun _ _ _ h => h) (Or.inl ⟨by rfl, ?_⟩) hHeld ?_
  rotate_left
  · intro w hSw; (try dsimp only at hSw); go_simp; try with_reducible rfl
  try simp only [Act.put, List.setIfInBounds_toArray, List.set_cons_zero, List.set_cons_succ]
  refine wpAnyH_take (i := 13) (oi := { dst := some 44, op := Op.pick (Operand.tmp 37) (Operand.tmp 43) (Operand.const (Value.bool false)), type := 4, pos := "keeps.go:59", after := #[{ on := 6, ground := Ground.data }, { on := 12, ground := Ground.data }], guard := none }) (v := ?_) rfl (by kernel_rfl) (by kernel_rfl) (by kernel_rfl) (fun _ _ _ h => h) (Or.inl ⟨by rfl, ?_⟩) hHeld ?_
  rotate_left
  · intro w hSw; (try dsimp only at hSw); go_simp; try with_reducible rfl
  try simp only [Act.put, List.setIfInBounds_toArray, List.set_cons_zero, List.set_cons_succ]
  refine wpAnyH_take (i := 14) (oi := { dst := some 45, op := Op.move (Operand.tmp 44), type := 4, pos := "keeps.go:59", after := #[{ on := 13, ground := Ground.data }, { on := 6, ground := Ground.chain }], guard := none }) (v := ?_) rfl (by kernel_rfl) (by kernel_rfl) (by kernel_rfl) (fun _ _ _ h => h) (Or.inl ⟨by rfl, ?_⟩) hHeld ?_
  rotate_left
  · intro w hSw; (try dsimp only at hSw); go_simp; try with_reducible rfl
  try simp only [Act.put, List.setIfInBounds_toArray, List.set_cons_zero, List.set_cons_succ]
  refine wpAnyH_take (i := 15) (oi := { dst := some 46, op := Op.load 24 (Operand.tmp 10), type := 24, pos := "keeps.go:59", after := #[{ on := 14, ground := Ground.guard }], guard := some (14, true) }) (v := ?_) rfl (by kernel_rfl) (by kernel_rfl) (by kernel_rfl) (fun _ _ _ h => h) (Or.inl ⟨by rfl, ?_⟩) hHeld ?_
  rotate_left
  · intro w hSw; (try dsimp only at hSw); go_simp; try with_reducible rfl
  try simp only [Act.put, List.setIfInBounds_toArray, List.set_cons_zero, List.set_cons_succ]
  refine wpAnyH_take (i := 16) (oi := { dst := some 47, op := Op.load 24 (Operand.tmp 8), type := 24, pos := "keeps.go:59", after := #[{ on := 14, ground := Ground.guard }], guard := some (14, true) }) (v := ?_) rfl (by kernel_rfl) (by kernel_rfl) (by kernel_rfl) (fun _ _ _ h => h) (Or.inl ⟨by rfl, ?_⟩) hHeld ?_
  rotate_left
  · intro w hSw; (try dsimp only at hSw); go_simp; try with_reducible rfl
  try simp only [Act.put, List.setIfInBounds_toArray, List.set_cons_zero, List.set_cons_succ]
  refine wpAnyH_ready (rs := [17]) (by kernel_rfl) (by simp) ?_
  refine AllReadyH.cons (o := { dst := some 48, op := Op.call { callee := Callee.value (Operand.func 11), args := #[Operand.tmp 47], argTypes := #[24] }, type := 24, pos := "keeps.go:59", after := #[{ on := 16, ground := Ground.data }, { on := 14, ground := Ground.chain }, { on := 14, ground := Ground.guard }], guard := some (14, true) }) rfl (fun K hK => ?_) AllReadyH.nil
  go_simp
  refine (rev_c _ _ _ _ _ _).mono ?_
  rintro e wR ⟨rfl, hR1⟩
  have hz1 : w5.heap.size ≤ wR.heap.size := (by have q := hR1.size; exact q)
  go_simp
  refine hK.out _ _ (HS.out _ (Below.trans (Below.drew (Below.refl _ _)) hR1)) (fun hHeld2 => ?_)
  clear hK K hHeld
  have hHeld := hHeld2
  clear hHeld2
  try simp only [Act.put, List.setIfInBounds_toArray, List.set_cons_zero, List.set_cons_succ]
  refine wpAnyH_take (i := 18) (oi := { dst := some 49, op := Op.binOp BinOp.eql 24 (Operand.tmp 46) (Operand.tmp 48) 24, type := 4, pos := "keeps.go:59", after := #[{ on := 15, ground := Ground.data }, { on := 17, ground := Ground.data }, { on := 14, ground := Ground.guard }], guard := some (14, true) }) (v := ?_) rfl (by kernel_rfl) (by kernel_rfl) (by kernel_rfl) (fun _ _ _ h => h) (Or.inl ⟨by rfl, ?_⟩) hHeld ?_
  rotate_left
  · intro w hSw; (try dsimp only at hSw); go_simp; try with_reducible rfl
  try simp only [Act.put, List.setIfInBounds_toArray, List.set_cons_zero, List.set_cons_succ]
  refine wpAnyH_take (i := 19) (oi := { dst := some 50, op := Op.pick (Operand.tmp 45) (Operand.tmp 49) (Operand.const (Value.bool false)), type := 4, pos := "keeps.go:59", after := #[{ on := 14, ground := Ground.data }, { on := 18, ground := Ground.data }], guard := none }) (v := ?_) rfl (by kernel_rfl) (by kernel_rfl) (by kernel_rfl) (fun _ _ _ h => h) (Or.inl ⟨by rfl, ?_⟩) hHeld ?_
  rotate_left
  · intro w hSw; (try dsimp only at hSw); go_simp; try with_reducible rfl
  try simp only [Act.put, List.setIfInBounds_toArray, List.set_cons_zero, List.set_cons_succ]
  refine wpAnyH_take (i := 20) (oi := { dst := some 51, op := Op.move (Operand.tmp 50), type := 4, pos := "keeps.go:59", after := #[{ on := 19, ground := Ground.data }, { on := 17, ground := Ground.chain }], guard := none }) (v := ?_) rfl (by kernel_rfl) (by kernel_rfl) (by kernel_rfl) (fun _ _ _ h => h) (Or.inl ⟨by rfl, ?_⟩) hHeld ?_
  rotate_left
  · intro w hSw; (try dsimp only at hSw); go_simp; try with_reducible rfl
  try simp only [Act.put, List.setIfInBounds_toArray, List.set_cons_zero, List.set_cons_succ]
  refine wpAnyH_take (i := 21) (oi := { dst := some 52, op := Op.load 24 (Operand.tmp 8), type := 24, pos := "keeps.go:59", after := #[{ on := 20, ground := Ground.guard }], guard := some (20, true) }) (v := ?_) rfl (by kernel_rfl) (by kernel_rfl) (by kernel_rfl) (fun _ _ _ h => h) (Or.inl ⟨by rfl, ?_⟩) hHeld ?_
  rotate_left
  · intro w hSw; (try dsimp only at hSw); go_simp; try with_reducible rfl
  try simp only [Act.put, List.setIfInBounds_toArray, List.set_cons_zero, List.set_cons_succ]
  refine wpAnyH_take (i := 22) (oi := { dst := some 53, op := Op.fieldAddr 37 (Operand.tmp 3) 3, type := 0, pos := "keeps.go:59", after := #[{ on := 20, ground := Ground.guard }], guard := some (20, true) }) (v := ?_) rfl (by kernel_rfl) (by kernel_rfl) (by kernel_rfl) (fun _ _ _ h => h) (Or.inl ⟨by rfl, ?_⟩) hHeld ?_
  rotate_left
  · intro w hSw; (try dsimp only at hSw); go_simp; try with_reducible rfl
  try simp only [Act.put, List.setIfInBounds_toArray, List.set_cons_zero, List.set_cons_succ]
  refine wpAnyH_take (i := 23) (oi := { dst := some 54, op := Op.load 24 (Operand.tmp 53), type := 24, pos := "keeps.go:59", after := #[{ on := 22, ground := Ground.data }, { on := 20, ground := Ground.guard }], guard := some (20, true) }) (v := ?_) rfl (by kernel_rfl) (by kernel_rfl) (by kernel_rfl) (fun _ _ _ h => h) (Or.inl ⟨by rfl, ?_⟩) hHeld ?_
  rotate_left
  · intro w hSw; (try dsimp only at hSw); go_simp; try with_reducible rfl
  try simp only [Act.put, List.setIfInBounds_toArray, List.set_cons_zero, List.set_cons_succ]
  refine wpAnyH_take (i := 24) (oi := { dst := some 55, op := Op.binOp BinOp.eql 24 (Operand.tmp 52) (Operand.tmp 54) 24, type := 4, pos := "keeps.go:59", after := #[{ on := 21, ground := Ground.data }, { on := 23, ground := Ground.data }, { on := 20, ground := Ground.guard }], guard := some (20, true) }) (v := ?_) rfl (by kernel_rfl) (by kernel_rfl) (by kernel_rfl) (fun _ _ _ h => h) (Or.inl ⟨by rfl, ?_⟩) hHeld ?_
  rotate_left
  · intro w hSw; (try dsimp only at hSw); go_simp; try with_reducible rfl
  try simp only [Act.put, List.setIfInBounds_toArray, List.set_cons_zero, List.set_cons_succ]
  refine wpAnyH_take (i := 25) (oi := { dst := some 56, op := Op.move (Operand.tmp 1), type := 4, pos := "keeps.go:59", after := #[{ on := 20, ground := Ground.guard }], guard := some (20, true) }) (v := ?_) rfl (by kernel_rfl) (by kernel_rfl) (by kernel_rfl) (fun _ _ _ h => h) (Or.inl ⟨by rfl, ?_⟩) hHeld ?_
  rotate_left
  · intro w hSw; (try dsimp only at hSw); go_simp; try with_reducible rfl
  try simp only [Act.put, List.setIfInBounds_toArray, List.set_cons_zero, List.set_cons_succ]
  refine wpAnyH_take (i := 26) (oi := { dst := some 57, op := Op.move (Operand.tmp 2), type := 4, pos := "keeps.go:59", after := #[{ on := 20, ground := Ground.guard }], guard := some (20, true) }) (v := ?_) rfl (by kernel_rfl) (by kernel_rfl) (by kernel_rfl) (fun _ _ _ h => h) (Or.inl ⟨by rfl, ?_⟩) hHeld ?_
  rotate_left
  · intro w hSw; (try dsimp only at hSw); go_simp; try with_reducible rfl
  try simp only [Act.put, List.setIfInBounds_toArray, List.set_cons_zero, List.set_cons_succ]
  refine wpAnyH_take (i := 27) (oi := { dst := some 58, op := Op.binOp BinOp.eql 4 (Operand.tmp 56) (Operand.tmp 57) 4, type := 4, pos := "keeps.go:59", after := #[{ on := 25, ground := Ground.data }, { on := 26, ground := Ground.data }, { on := 20, ground := Ground.guard }], guard := some (20, true) }) (v := ?_) rfl (by kernel_rfl) (by kernel_rfl) (by kernel_rfl) (fun _ _ _ h => h) (Or.inl ⟨by rfl, ?_⟩) hHeld ?_
  rotate_left
  · intro w hSw; (try dsimp only at hSw); go_simp; try with_reducible rfl
  try simp only [Act.put, List.setIfInBounds_toArray, List.set_cons_zero, List.set_cons_succ]
  refine wpAnyH_take (i := 28) (oi := { dst := some 59, op := Op.move (Operand.tmp 58), type := 4, pos := "keeps.go:59", after := #[{ on := 27, ground := Ground.data }, { on := 20, ground := Ground.chain }, { on := 20, ground := Ground.guard }], guard := some (20, true) }) (v := ?_) rfl (by kernel_rfl) (by kernel_rfl) (by kernel_rfl) (fun _ _ _ h => h) (Or.inl ⟨by rfl, ?_⟩) hHeld ?_
  rotate_left
  · intro w hSw; (try dsimp only at hSw); go_simp; try with_reducible rfl
  try simp only [Act.put, List.setIfInBounds_toArray, List.set_cons_zero, List.set_cons_succ]
  refine wpAnyH_take (i := 29) (oi := { dst := some 60, op := Op.fieldAddr 37 (Operand.tmp 3) 3, type := 0, pos := "keeps.go:59", after := #[{ on := 28, ground := Ground.guard }], guard := some (28, false) }) (v := ?_) rfl (by kernel_rfl) (by kernel_rfl) (by kernel_rfl) (fun _ _ _ h => h) (Or.inl ⟨by rfl, ?_⟩) hHeld ?_
  rotate_left
  · intro w hSw; (try dsimp only at hSw); go_simp; try with_reducible rfl
  try simp only [Act.put, List.setIfInBounds_toArray, List.set_cons_zero, List.set_cons_succ]
  refine wpAnyH_take (i := 30) (oi := { dst := some 61, op := Op.load 24 (Operand.tmp 60), type := 24, pos := "keeps.go:59", after := #[{ on := 29, ground := Ground.data }, { on := 28, ground := Ground.guard }], guard := some (28, false) }) (v := ?_) rfl (by kernel_rfl) (by kernel_rfl) (by kernel_rfl) (fun _ _ _ h => h) (Or.inl ⟨by rfl, ?_⟩) hHeld ?_
  rotate_left
  · intro w hSw; (try dsimp only at hSw); go_simp; try with_reducible rfl
  try simp only [Act.put, List.setIfInBounds_toArray, List.set_cons_zero, List.set_cons_succ]
  refine wpAnyH_take (i := 31) (oi := { dst := some 62, op := Op.fieldAddr 37 (Operand.tmp 3) 3, type := 0, pos := "keeps.go:59", after := #[{ on := 28, ground := Ground.guard }], guard := some (28, false) }) (v := ?_) rfl (by kernel_rfl) (by kernel_rfl) (by kernel_rfl) (fun _ _ _ h => h) (Or.inl ⟨by rfl, ?_⟩) hHeld ?_
  rotate_left
  · intro w hSw; (try dsimp only at hSw); go_simp; try with_reducible rfl
  try simp only [Act.put, List.setIfInBounds_toArray, List.set_cons_zero, List.set_cons_succ]
  refine wpAnyH_take (i := 32) (oi := { dst := some 63, op := Op.load 24 (Operand.tmp 62), type := 24, pos := "keeps.go:59", after := #[{ on := 31, ground := Ground.data }, { on := 28, ground := Ground.guard }], guard := some (28, false) }) (v := ?_) rfl (by kernel_rfl) (by kernel_rfl) (by kernel_rfl) (fun _ _ _ h => h) (Or.inl ⟨by rfl, ?_⟩) hHeld ?_
  rotate_left
  · intro w hSw; (try dsimp only at hSw); go_simp; try with_reducible rfl
  try simp only [Act.put, List.setIfInBounds_toArray, List.set_cons_zero, List.set_cons_succ]
  refine wpAnyH_ready (rs := [33]) (by kernel_rfl) (by simp) ?_
  refine AllReadyH.cons (o := { dst := some 64, op := Op.call { callee := Callee.value (Operand.func 11), args := #[Operand.tmp 63], argTypes := #[24] }, type := 24, pos := "keeps.go:59", after := #[{ on := 32, ground := Ground.data }, { on := 28, ground := Ground.chain }, { on := 28, ground := Ground.guard }], guard := some (28, false) }) rfl (fun K hK => ?_) AllReadyH.nil
  go_simp
  refine (rev_c _ _ _ _ _ _).mono ?_
  rintro e wT ⟨rfl, hR2⟩
  skip
  go_simp
  refine hK.out _ _ (HS.out _ (Below.trans (Below.trans (Below.drew (Below.refl _ _)) hR1) (Below.mono hR2 hz1))) (fun hHeld2 => ?_)
  clear hK K hHeld
  have hHeld := hHeld2
  clear hHeld2
  try simp only [Act.put, List.setIfInBounds_toArray, List.set_cons_zero, List.set_cons_succ]
  refine wpAnyH_take (i := 34) (oi := { dst := some 65, op := Op.binOp BinOp.eql 24 (Operand.tmp 61) (Operand.tmp 64) 24, type := 4, pos := "keeps.go:59", after := #[{ on := 30, ground := Ground.data }, { on := 33, ground := Ground.data }, { on := 28, ground := Ground.guard }], guard := some (28, false) }) (v := ?_) rfl (by kernel_rfl) (by kernel_rfl) (by kernel_rfl) (fun _ _ _ h => h) (Or.inl ⟨by rfl, ?_⟩) hHeld ?_
  rotate_left
  · intro w hSw; (try dsimp only at hSw); go_simp; try with_reducible rfl
  try simp only [Act.put, List.setIfInBounds_toArray, List.set_cons_zero, List.set_cons_succ]
  refine wpAnyH_take (i := 35) (oi := { dst := some 66, op := Op.pick (Operand.tmp 59) (Operand.const (Value.bool true)) (Operand.tmp 65), type := 4, pos := "keeps.go:59", after := #[{ on := 28, ground := Ground.data }, { on := 34, ground := Ground.data }, { on := 20, ground := Ground.guard }], guard := some (20, true) }) (v := ?_) rfl (by kernel_rfl) (by kernel_rfl) (by kernel_rfl) (fun _ _ _ h => h) (Or.inl ⟨by rfl, ?_⟩) hHeld ?_
  rotate_left
  · intro w hSw; (try dsimp only at hSw); go_simp; try with_reducible rfl
  try simp only [Act.put, List.setIfInBounds_toArray, List.set_cons_zero, List.set_cons_succ]
  refine wpAnyH_take (i := 36) (oi := { dst := some 67, op := Op.binOp BinOp.eql 4 (Operand.tmp 55) (Operand.tmp 66) 4, type := 4, pos := "keeps.go:59", after := #[{ on := 24, ground := Ground.data }, { on := 35, ground := Ground.data }, { on := 20, ground := Ground.guard }], guard := some (20, true) }) (v := ?_) rfl (by kernel_rfl) (by kernel_rfl) (by kernel_rfl) (fun _ _ _ h => h) (Or.inl ⟨by rfl, ?_⟩) hHeld ?_
  rotate_left
  · intro w hSw; (try dsimp only at hSw); go_simp; try with_reducible rfl
  try simp only [Act.put, List.setIfInBounds_toArray, List.set_cons_zero, List.set_cons_succ]
  refine wpAnyH_take (i := 37) (oi := { dst := some 68, op := Op.pick (Operand.tmp 51) (Operand.tmp 67) (Operand.const (Value.bool false)), type := 4, pos := "keeps.go:59", after := #[{ on := 20, ground := Ground.data }, { on := 36, ground := Ground.data }], guard := none }) (v := ?_) rfl (by kernel_rfl) (by kernel_rfl) (by kernel_rfl) (fun _ _ _ h => h) (Or.inl ⟨by rfl, ?_⟩) hHeld ?_
  rotate_left
  · intro w hSw; (try dsimp only at hSw); go_simp; try with_reducible rfl
  try simp only [Act.put, List.setIfInBounds_toArray, List.set_cons_zero, List.set_cons_succ]
  refine wpAnyH_take (i := 38) (oi := { dst := some 6, op := Op.assign (Operand.tmp 68), type := 4, pos := "keeps.go:59", after := #[{ on := 37, ground := Ground.data }, { on := 33, ground := Ground.chain }, { on := 0, ground := Ground.phase }, { on := 1, ground := Ground.phase }, { on := 2, ground := Ground.phase }, { on := 3, ground := Ground.phase }, { on := 4, ground := Ground.phase }, { on := 5, ground := Ground.phase }, { on := 6, ground := Ground.phase }, { on := 7, ground := Ground.phase }, { on := 8, ground := Ground.phase }, { on := 9, ground := Ground.phase }, { on := 10, ground := Ground.phase }, { on := 11, ground := Ground.phase }, { on := 12, ground := Ground.phase }, { on := 13, ground := Ground.phase }, { on := 14, ground := Ground.phase }, { on := 15, ground := Ground.phase }, { on := 16, ground := Ground.phase }, { on := 17, ground := Ground.phase }, { on := 18, ground := Ground.phase }, { on := 19, ground := Ground.phase }, { on := 20, ground := Ground.phase }, { on := 21, ground := Ground.phase }, { on := 22, ground := Ground.phase }, { on := 23, ground := Ground.phase }, { on := 24, ground := Ground.phase }, { on := 25, ground := Ground.phase }, { on := 26, ground := Ground.phase }, { on := 27, ground := Ground.phase }, { on := 28, ground := Ground.phase }, { on := 29, ground := Ground.phase }, { on := 30, ground := Ground.phase }, { on := 31, ground := Ground.phase }, { on := 32, ground := Ground.phase }, { on := 33, ground := Ground.phase }, { on := 34, ground := Ground.phase }, { on := 35, ground := Ground.phase }, { on := 36, ground := Ground.phase }, { on := 37, ground := Ground.phase }], guard := none }) (v := ?_) rfl (by kernel_rfl) (by kernel_rfl) (by kernel_rfl) (fun _ _ _ h => h) (Or.inl ⟨by rfl, ?_⟩) hHeld ?_
  rotate_left
  · intro w hSw; (try dsimp only at hSw); go_simp; try with_reducible rfl
  try simp only [Act.put, List.setIfInBounds_toArray, List.set_cons_zero, List.set_cons_succ]
  refine wpAnyH_done (by kernel_rfl) ?_ _
  have hb6 := hb5.trans (Below.mono (Below.trans (Below.trans (Below.drew (Below.refl _ _)) hR1) (Below.mono hR2 hz1)) hb5.size)
  clear hHeld HS A5 N5 M5 O5
  go_wp2
  go_ret
  exact ⟨rfl, hb6⟩


set_option maxRecDepth 100000 in
set_option maxHeartbeats 3200000 in
theorem protos_tfe (kd at1 to1 p s d a b fl tl sr ds qt nn : Int) (he : s = d ∧ a = b) (w : World) :
    Calls Try.prog 5 #[.agg #[.int .i64 kd, .int .i64 at1, .int .i64 to1, .int .i64 p, .int .u32 s, .int .u32 d, .int .i64 a, .int .i64 b, .int .i64 fl, .int .i64 tl, .int .u32 sr, .int .u32 ds, .int .i64 qt, .int .i64 nn], .bool true, .bool false] w fun e w' => e = .returned (.bool true) ∧ Below w.heap.size w w' := by
  obtain ⟨rfl, rfl⟩ := he
  have A0 := Has.new w #[.int .i64 kd, .int .i64 at1, .int .i64 to1, .int .i64 p, .int .u32 s, .int .u32 s, .int .i64 a, .int .i64 a, .int .i64 fl, .int .i64 tl, .int .u32 sr, .int .u32 ds, .int .i64 qt, .int .i64 nn] 37
  go_enter Try.func5, Try.ntmps5
  go_wp2_with fail
  refine (examples_c _).mono ?_
  rintro e w1 ⟨rfl, hb⟩
  have hb1 : Below w.heap.size w w1 := ((Below.refl _ _).alloc (Nat.le_refl _) _).trans (hb.mono (by simp))
  have A1 := A0.below hb
  clear A0 hb
  have c1 := A1.cell
  have f1 := A1.free
  have l1 := A1.lt
  have A2 := A1.set 0 (.int .i64 1)
  skip
  simp only [Array.setIfInBounds, List.size_toArray, List.length_cons, List.length_nil, Nat.reduceAdd, Nat.reduceLT, ↓reduceDIte, List.set_toArray, List.set_cons_succ, List.set_cons_zero] at A2
  clear A1
  go_wp2_with fail
  refine (name_rev _ _ _ _ _ _ _ _ _ _ _ _ _ _ _ (by rfl) _).mono ?_
  rintro e w2 ⟨rfl, hb⟩
  have hb2 : Below w.heap.size w w2 := (hb1.setCell (by simp) _).trans (hb.mono (by simpa [World.setCell] using hb1.size))
  have A3 := A2.below hb
  have N3 := Has.new w2 #[.int .i64 p, .int .u32 s, .int .u32 s, .int .i64 a, .int .i64 a] 24
  clear A2 hb hb1 c1 f1 l1
  have c3 := A3.cell
  have l3 := A3.lt
  go_wp2_with fail
  refine (name_rev _ _ _ _ _ _ _ _ _ _ _ _ _ _ _ (by rfl) _).mono ?_
  rintro e w3 ⟨rfl, hb⟩
  have hb3 : Below w.heap.size w w3 := (hb2.alloc hb2.size _).trans (hb.mono (by simp; omega))
  have A4 := (A3.alloc _).below hb
  have N4 := N3.below hb
  have M4 := Has.new w3 #[.int .i64 p, .int .u32 s, .int .u32 s, .int .i64 a, .int .i64 a] 24
  clear A3 N3 hb hb2 c3 l3
  have c4 := A4.cell
  have l4 := A4.lt
  go_wp2_with fail
  refine (name_same _ _ _ _ _ _ _ _ _ _ _ _ _ _ _ (by rfl) _).mono ?_
  rintro e w4 ⟨rfl, hb⟩
  have hb4 : Below w.heap.size w w4 := (hb3.alloc hb3.size _).trans (hb.mono (by simp; omega))
  have A5 := ((A4.alloc _).below hb).alloc (.cells #[.int .i64 p, .int .u32 s, .int .u32 s, .int .i64 a, .int .i64 a] 24)
  have N5 := ((N4.alloc _).below hb).alloc (.cells #[.int .i64 p, .int .u32 s, .int .u32 s, .int .i64 a, .int .i64 a] 24)
  have M5 := (M4.below hb).alloc (.cells #[.int .i64 p, .int .u32 s, .int .u32 s, .int .i64 a, .int .i64 a] 24)
  have O5 := Has.new w4 #[.int .i64 p, .int .u32 s, .int .u32 s, .int .i64 a, .int .i64 a] 24
  have hb5 := hb4.alloc hb4.size (.cells #[.int .i64 p, .int .u32 s, .int .u32 s, .int .i64 a, .int .i64 a] 24)
  clear A4 N4 M4 hb hb3 hb4 c4 l4
  go_wp2_with fail
  obtain ⟨w5, hw5⟩ : ∃ w5, w5 = w4.alloc (.cells #[.int .i64 p, .int .u32 s, .int .u32 s, .int .i64 a, .int .i64 a] 24) := ⟨_, rfl⟩
  rw [← hw5] at A5 N5 M5 O5 hb5 ⊢
  clear hw5
  have HS : Hid (∀ W : World, Below w5.heap.size w5 W → W.cell? ⟨w2.heap.size, 0, none⟩ = some (.int .i64 p) ∧ W.cell? ⟨w2.heap.size, 1, none⟩ = some (.int .u32 s) ∧ W.cell? ⟨w2.heap.size, 2, none⟩ = some (.int .u32 s) ∧ W.cell? ⟨w2.heap.size, 3, none⟩ = some (.int .i64 a) ∧ W.cell? ⟨w2.heap.size, 4, none⟩ = some (.int .i64 a) ∧ W.cell? ⟨w3.heap.size, 0, none⟩ = some (.int .i64 p) ∧ W.cell? ⟨w3.heap.size, 1, none⟩ = some (.int .u32 s) ∧ W.cell? ⟨w3.heap.size, 2, none⟩ = some (.int .u32 s) ∧ W.cell? ⟨w3.heap.size, 3, none⟩ = some (.int .i64 a) ∧ W.cell? ⟨w3.heap.size, 4, none⟩ = some (.int .i64 a) ∧ W.cell? ⟨w4.heap.size, 0, none⟩ = some (.int .i64 p) ∧ W.cell? ⟨w4.heap.size, 1, none⟩ = some (.int .u32 s) ∧ W.cell? ⟨w4.heap.size, 2, none⟩ = some (.int .u32 s) ∧ W.cell? ⟨w4.heap.size, 3, none⟩ = some (.int .i64 a) ∧ W.cell? ⟨w4.heap.size, 4, none⟩ = some (.int .i64 a) ∧ W.cell? ⟨w.heap.size, 3, none⟩ = some (.int .i64 p) ∧ W.cell? ⟨w.heap.size, 4, none⟩ = some (.int .u32 s) ∧ W.cell? ⟨w.heap.size, 5, none⟩ = some (.int .u32 s) ∧ W.cell? ⟨w.heap.size, 6, none⟩ = some (.int .i64 a) ∧ W.cell? ⟨w.heap.size, 7, none⟩ = some (.int .i64 a) ∧ Below w5.heap.size w5 W) := fun W q => ⟨(N5.below q).cell 0, (N5.below q).cell 1, (N5.below q).cell 2, (N5.below q).cell 3, (N5.below q).cell 4, (M5.below q).cell 0, (M5.below q).cell 1, (M5.below q).cell 2, (M5.below q).cell 3, (M5.below q).cell 4, (O5.below q).cell 0, (O5.below q).cell 1, (O5.below q).cell 2, (O5.below q).cell 3, (O5.below q).cell 4, (A5.below q).cell 3, (A5.below q).cell 4, (A5.below q).cell 5, (A5.below q).cell 6, (A5.below q).cell 7, q⟩
  refine wp_region_held_drew (S := fun W => W.cell? ⟨w2.heap.size, 0, none⟩ = some (.int .i64 p) ∧ W.cell? ⟨w2.heap.size, 1, none⟩ = some (.int .u32 s) ∧ W.cell? ⟨w2.heap.size, 2, none⟩ = some (.int .u32 s) ∧ W.cell? ⟨w2.heap.size, 3, none⟩ = some (.int .i64 a) ∧ W.cell? ⟨w2.heap.size, 4, none⟩ = some (.int .i64 a) ∧ W.cell? ⟨w3.heap.size, 0, none⟩ = some (.int .i64 p) ∧ W.cell? ⟨w3.heap.size, 1, none⟩ = some (.int .u32 s) ∧ W.cell? ⟨w3.heap.size, 2, none⟩ = some (.int .u32 s) ∧ W.cell? ⟨w3.heap.size, 3, none⟩ = some (.int .i64 a) ∧ W.cell? ⟨w3.heap.size, 4, none⟩ = some (.int .i64 a) ∧ W.cell? ⟨w4.heap.size, 0, none⟩ = some (.int .i64 p) ∧ W.cell? ⟨w4.heap.size, 1, none⟩ = some (.int .u32 s) ∧ W.cell? ⟨w4.heap.size, 2, none⟩ = some (.int .u32 s) ∧ W.cell? ⟨w4.heap.size, 3, none⟩ = some (.int .i64 a) ∧ W.cell? ⟨w4.heap.size, 4, none⟩ = some (.int .i64 a) ∧ W.cell? ⟨w.heap.size, 3, none⟩ = some (.int .i64 p) ∧ W.cell? ⟨w.heap.size, 4, none⟩ = some (.int .u32 s) ∧ W.cell? ⟨w.heap.size, 5, none⟩ = some (.int .u32 s) ∧ W.cell? ⟨w.heap.size, 6, none⟩ = some (.int .i64 a) ∧ W.cell? ⟨w.heap.size, 7, none⟩ = some (.int .i64 a) ∧ Below w5.heap.size w5 W) (by kernel_rfl) (HS.out _ (Below.drew (Below.refl _ _))) (fun hHeld => ?_)
  refine wpAnyH_take (i := 0) (oi := { dst := some 31, op := Op.move (Operand.tmp 7), type := 4, pos := "keeps.go:59", after := #[], guard := none }) (v := ?_) rfl (by kernel_rfl) (by kernel_rfl) (by kernel_rfl) (fun _ _ _ h => h) (Or.inl ⟨by rfl, ?_⟩) hHeld ?_
  rotate_left
  · intro w hSw; (try dsimp only at hSw); go_simp; try with_reducible rfl
  try simp only [Act.put, List.setIfInBounds_toArray, List.set_cons_zero, List.set_cons_succ]
  refine wpAnyH_take (i := 1) (oi := { dst := some 32, op := Op.move (Operand.tmp 31), type := 4, pos := "keeps.go:59", after := #[{ on := 0, ground := Ground.data }], guard := none }) (v := ?_) rfl (by kernel_rfl) (by kernel_rfl) (by kernel_rfl) (fun _ _ _ h => h) (Or.inl ⟨by rfl, ?_⟩) hHeld ?_
  rotate_left
  · intro w hSw; (try dsimp only at hSw); go_simp; try with_reducible rfl
  try simp only [Act.put, List.setIfInBounds_toArray, List.set_cons_zero, List.set_cons_succ]
  refine wpAnyH_take (i := 2) (oi := { dst := some 33, op := Op.load 24 (Operand.tmp 8), type := 24, pos := "keeps.go:59", after := #[{ on := 1, ground := Ground.guard }], guard := some (1, true) }) (v := ?_) rfl (by kernel_rfl) (by kernel_rfl) (by kernel_rfl) (fun _ _ _ h => h) (Or.inl ⟨by rfl, ?_⟩) hHeld ?_
  rotate_left
  · intro w hSw; (try dsimp only at hSw); go_simp; try with_reducible rfl
  try simp only [Act.put, List.setIfInBounds_toArray, List.set_cons_zero, List.set_cons_succ]
  refine wpAnyH_take (i := 3) (oi := { dst := some 34, op := Op.load 24 (Operand.tmp 9), type := 24, pos := "keeps.go:59", after := #[{ on := 1, ground := Ground.guard }], guard := some (1, true) }) (v := ?_) rfl (by kernel_rfl) (by kernel_rfl) (by kernel_rfl) (fun _ _ _ h => h) (Or.inl ⟨by rfl, ?_⟩) hHeld ?_
  rotate_left
  · intro w hSw; (try dsimp only at hSw); go_simp; try with_reducible rfl
  try simp only [Act.put, List.setIfInBounds_toArray, List.set_cons_zero, List.set_cons_succ]
  refine wpAnyH_take (i := 4) (oi := { dst := some 35, op := Op.binOp BinOp.eql 24 (Operand.tmp 33) (Operand.tmp 34) 24, type := 4, pos := "keeps.go:59", after := #[{ on := 2, ground := Ground.data }, { on := 3, ground := Ground.data }, { on := 1, ground := Ground.guard }], guard := some (1, true) }) (v := ?_) rfl (by kernel_rfl) (by kernel_rfl) (by kernel_rfl) (fun _ _ _ h => h) (Or.inl ⟨by rfl, ?_⟩) hHeld ?_
  rotate_left
  · intro w hSw; (try dsimp only at hSw); go_simp; try with_reducible rfl
  try simp only [Act.put, List.setIfInBounds_toArray, List.set_cons_zero, List.set_cons_succ]
  refine wpAnyH_take (i := 5) (oi := { dst := some 36, op := Op.pick (Operand.tmp 32) (Operand.tmp 35) (Operand.const (Value.bool false)), type := 4, pos := "keeps.go:59", after := #[{ on := 1, ground := Ground.data }, { on := 4, ground := Ground.data }], guard := none }) (v := ?_) rfl (by kernel_rfl) (by kernel_rfl) (by kernel_rfl) (fun _ _ _ h => h) (Or.inl ⟨by rfl, ?_⟩) hHeld ?_
  rotate_left
  · intro w hSw; (try dsimp only at hSw); go_simp; try with_reducible rfl
  try simp only [Act.put, List.setIfInBounds_toArray, List.set_cons_zero, List.set_cons_succ]
  refine wpAnyH_take (i := 6) (oi := { dst := some 37, op := Op.move (Operand.tmp 36), type := 4, pos := "keeps.go:59", after := #[{ on := 5, ground := Ground.data }, { on := 1, ground := Ground.chain }], guard := none }) (v := ?_) rfl (by kernel_rfl) (by kernel_rfl) (by kernel_rfl) (fun _ _ _ h => h) (Or.inl ⟨by rfl, ?_⟩) hHeld ?_
  rotate_left
  · intro w hSw; (try dsimp only at hSw); go_simp; try with_reducible rfl
  try simp only [Act.put, List.setIfInBounds_toArray, List.set_cons_zero, List.set_cons_succ]
  refine wpAnyH_take (i := 7) (oi := { dst := some 38, op := Op.fieldAddr 24 (Operand.tmp 8) 0, type := 0, pos := "keeps.go:59", after := #[{ on := 6, ground := Ground.guard }], guard := some (6, true) }) (v := ?_) rfl (by kernel_rfl) (by kernel_rfl) (by kernel_rfl) (fun _ _ _ h => h) (Or.inl ⟨by rfl, ?_⟩) hHeld ?_
  rotate_left
  · intro w hSw; (try dsimp only at hSw); go_simp; try with_reducible rfl
  try simp only [Act.put, List.setIfInBounds_toArray, List.set_cons_zero, List.set_cons_succ]
  refine wpAnyH_take (i := 8) (oi := { dst := some 39, op := Op.load 3 (Operand.tmp 38), type := 3, pos := "keeps.go:59", after := #[{ on := 7, ground := Ground.data }, { on := 6, ground := Ground.guard }], guard := some (6, true) }) (v := ?_) rfl (by kernel_rfl) (by kernel_rfl) (by kernel_rfl) (fun _ _ _ h => h) (Or.inl ⟨by rfl, ?_⟩) hHeld ?_
  rotate_left
  · intro w hSw; (try dsimp only at hSw); go_simp; try with_reducible rfl
  try simp only [Act.put, List.setIfInBounds_toArray, List.set_cons_zero, List.set_cons_succ]
  refine wpAnyH_take (i := 9) (oi := { dst := some 40, op := Op.fieldAddr 37 (Operand.tmp 3) 3, type := 0, pos := "keeps.go:59", after := #[{ on := 6, ground := Ground.guard }], guard := some (6, true) }) (v := ?_) rfl (by kernel_rfl) (by kernel_rfl) (by kernel_rfl) (fun _ _ _ h => h) (Or.inl ⟨by rfl, ?_⟩) hHeld ?_
  rotate_left
  · intro w hSw; (try dsimp only at hSw); go_simp; try with_reducible rfl
  try simp only [Act.put, List.setIfInBounds_toArray, List.set_cons_zero, List.set_cons_succ]
  refine wpAnyH_take (i := 10) (oi := { dst := some 41, op := Op.fieldAddr 24 (Operand.tmp 40) 0, type := 0, pos := "keeps.go:59", after := #[{ on := 9, ground := Ground.data }, { on := 6, ground := Ground.guard }], guard := some (6, true) }) (v := ?_) rfl (by kernel_rfl) (by kernel_rfl) (by kernel_rfl) (fun _ _ _ h => h) (Or.inl ⟨by rfl, ?_⟩) hHeld ?_
  rotate_left
  · intro w hSw; (try dsimp only at hSw); go_simp; try with_reducible rfl
  try simp only [Act.put, List.setIfInBounds_toArray, List.set_cons_zero, List.set_cons_succ]
  refine wpAnyH_take (i := 11) (oi := { dst := some 42, op := Op.load 3 (Operand.tmp 41), type := 3, pos := "keeps.go:59", after := #[{ on := 10, ground := Ground.data }, { on := 6, ground := Ground.guard }], guard := some (6, true) }) (v := ?_) rfl (by kernel_rfl) (by kernel_rfl) (by kernel_rfl) (fun _ _ _ h => h) (Or.inl ⟨by rfl, ?_⟩) hHeld ?_
  rotate_left
  · intro w hSw; (try dsimp only at hSw); go_simp; try with_reducible rfl
  try simp only [Act.put, List.setIfInBounds_toArray, List.set_cons_zero, List.set_cons_succ]
  refine wpAnyH_take (i := 12) (oi := { dst := some 43, op := Op.binOp BinOp.eql 3 (Operand.tmp 39) (Operand.tmp 42) 3, type := 4, pos := "keeps.go:59", after := #[{ on := 8, ground := Ground.data }, { on := 11, ground := Ground.data }, { on := 6, ground := Ground.guard }], guard := some (6, true) }) (v := ?_) rfl (by kernel_rfl) (by kernel_rfl) (by kernel_rfl) (fun _ _ _ h => h) (Or.inl ⟨by rfl, ?_⟩) hHeld ?_
  rotate_left
  · intro w hSw; (try dsimp only at hSw); go_simp; try with_reducible rfl
  try simp only [Act.put, List.setIfInBounds_toArray, List.set_cons_zero, List.set_cons_succ]
  refine wpAnyH_take (i := 13) (oi := { dst := some 44, op := Op.pick (Operand.tmp 37) (Operand.tmp 43) (Operand.const (Value.bool false)), type := 4, pos := "keeps.go:59", after := #[{ on := 6, ground := Ground.data }, { on := 12, ground := Ground.data }], guard := none }) (v := ?_) rfl (by kernel_rfl) (by kernel_rfl) (by kernel_rfl) (fun _ _ _ h => h) (Or.inl ⟨by rfl, ?_⟩) hHeld ?_
  rotate_left
  · intro w hSw; (try dsimp only at hSw); go_simp; try with_reducible rfl
  try simp only [Act.put, List.setIfInBounds_toArray, List.set_cons_zero, List.set_cons_succ]
  refine wpAnyH_take (i := 14) (oi := { dst := some 45, op := Op.move (Operand.tmp 44), type := 4, pos := "keeps.go:59", after := #[{ on := 13, ground := Ground.data }, { on := 6, ground := Ground.chain }], guard := none }) (v := ?_) rfl (by kernel_rfl) (by kernel_rfl) (by kernel_rfl) (fun _ _ _ h => h) (Or.inl ⟨by rfl, ?_⟩) hHeld ?_
  rotate_left
  · intro w hSw; (try dsimp only at hSw); go_simp; try with_reducible rfl
  try simp only [Act.put, List.setIfInBounds_toArray, List.set_cons_zero, List.set_cons_succ]
  refine wpAnyH_take (i := 15) (oi := { dst := some 46, op := Op.load 24 (Operand.tmp 10), type := 24, pos := "keeps.go:59", after := #[{ on := 14, ground := Ground.guard }], guard := some (14, true) }) (v := ?_) rfl (by kernel_rfl) (by kernel_rfl) (by kernel_rfl) (fun _ _ _ h => h) (Or.inl ⟨by rfl, ?_⟩) hHeld ?_
  rotate_left
  · intro w hSw; (try dsimp only at hSw); go_simp; try with_reducible rfl
  try simp only [Act.put, List.setIfInBounds_toArray, List.set_cons_zero, List.set_cons_succ]
  refine wpAnyH_take (i := 16) (oi := { dst := some 47, op := Op.load 24 (Operand.tmp 8), type := 24, pos := "keeps.go:59", after := #[{ on := 14, ground := Ground.guard }], guard := some (14, true) }) (v := ?_) rfl (by kernel_rfl) (by kernel_rfl) (by kernel_rfl) (fun _ _ _ h => h) (Or.inl ⟨by rfl, ?_⟩) hHeld ?_
  rotate_left
  · intro w hSw; (try dsimp only at hSw); go_simp; try with_reducible rfl
  try simp only [Act.put, List.setIfInBounds_toArray, List.set_cons_zero, List.set_cons_succ]
  refine wpAnyH_ready (rs := [17]) (by kernel_rfl) (by simp) ?_
  refine AllReadyH.cons (o := { dst := some 48, op := Op.call { callee := Callee.value (Operand.func 11), args := #[Operand.tmp 47], argTypes := #[24] }, type := 24, pos := "keeps.go:59", after := #[{ on := 16, ground := Ground.data }, { on := 14, ground := Ground.chain }, { on := 14, ground := Ground.guard }], guard := some (14, true) }) rfl (fun K hK => ?_) AllReadyH.nil
  go_simp
  refine (rev_c _ _ _ _ _ _).mono ?_
  rintro e wR ⟨rfl, hR1⟩
  have hz1 : w5.heap.size ≤ wR.heap.size := (by have q := hR1.size; exact q)
  go_simp
  refine hK.out _ _ (HS.out _ (Below.trans (Below.drew (Below.refl _ _)) hR1)) (fun hHeld2 => ?_)
  clear hK K hHeld
  have hHeld := hHeld2
  clear hHeld2
  try simp only [Act.put, List.setIfInBounds_toArray, List.set_cons_zero, List.set_cons_succ]
  refine wpAnyH_take (i := 18) (oi := { dst := some 49, op := Op.binOp BinOp.eql 24 (Operand.tmp 46) (Operand.tmp 48) 24, type := 4, pos := "keeps.go:59", after := #[{ on := 15, ground := Ground.data }, { on := 17, ground := Ground.data }, { on := 14, ground := Ground.guard }], guard := some (14, true) }) (v := ?_) rfl (by kernel_rfl) (by kernel_rfl) (by kernel_rfl) (fun _ _ _ h => h) (Or.inl ⟨by rfl, ?_⟩) hHeld ?_
  rotate_left
  · intro w hSw; (try dsimp only at hSw); go_simp; try with_reducible rfl
  try simp only [Act.put, List.setIfInBounds_toArray, List.set_cons_zero, List.set_cons_succ]
  refine wpAnyH_take (i := 19) (oi := { dst := some 50, op := Op.pick (Operand.tmp 45) (Operand.tmp 49) (Operand.const (Value.bool false)), type := 4, pos := "keeps.go:59", after := #[{ on := 14, ground := Ground.data }, { on := 18, ground := Ground.data }], guard := none }) (v := ?_) rfl (by kernel_rfl) (by kernel_rfl) (by kernel_rfl) (fun _ _ _ h => h) (Or.inl ⟨by rfl, ?_⟩) hHeld ?_
  rotate_left
  · intro w hSw; (try dsimp only at hSw); go_simp; try with_reducible rfl
  try simp only [Act.put, List.setIfInBounds_toArray, List.set_cons_zero, List.set_cons_succ]
  refine wpAnyH_take (i := 20) (oi := { dst := some 51, op := Op.move (Operand.tmp 50), type := 4, pos := "keeps.go:59", after := #[{ on := 19, ground := Ground.data }, { on := 17, ground := Ground.chain }], guard := none }) (v := ?_) rfl (by kernel_rfl) (by kernel_rfl) (by kernel_rfl) (fun _ _ _ h => h) (Or.inl ⟨by rfl, ?_⟩) hHeld ?_
  rotate_left
  · intro w hSw; (try dsimp only at hSw); go_simp; try with_reducible rfl
  try simp only [Act.put, List.setIfInBounds_toArray, List.set_cons_zero, List.set_cons_succ]
  refine wpAnyH_take (i := 21) (oi := { dst := some 52, op := Op.load 24 (Operand.tmp 8), type := 24, pos := "keeps.go:59", after := #[{ on := 20, ground := Ground.guard }], guard := some (20, true) }) (v := ?_) rfl (by kernel_rfl) (by kernel_rfl) (by kernel_rfl) (fun _ _ _ h => h) (Or.inl ⟨by rfl, ?_⟩) hHeld ?_
  rotate_left
  · intro w hSw; (try dsimp only at hSw); go_simp; try with_reducible rfl
  try simp only [Act.put, List.setIfInBounds_toArray, List.set_cons_zero, List.set_cons_succ]
  refine wpAnyH_take (i := 22) (oi := { dst := some 53, op := Op.fieldAddr 37 (Operand.tmp 3) 3, type := 0, pos := "keeps.go:59", after := #[{ on := 20, ground := Ground.guard }], guard := some (20, true) }) (v := ?_) rfl (by kernel_rfl) (by kernel_rfl) (by kernel_rfl) (fun _ _ _ h => h) (Or.inl ⟨by rfl, ?_⟩) hHeld ?_
  rotate_left
  · intro w hSw; (try dsimp only at hSw); go_simp; try with_reducible rfl
  try simp only [Act.put, List.setIfInBounds_toArray, List.set_cons_zero, List.set_cons_succ]
  refine wpAnyH_take (i := 23) (oi := { dst := some 54, op := Op.load 24 (Operand.tmp 53), type := 24, pos := "keeps.go:59", after := #[{ on := 22, ground := Ground.data }, { on := 20, ground := Ground.guard }], guard := some (20, true) }) (v := ?_) rfl (by kernel_rfl) (by kernel_rfl) (by kernel_rfl) (fun _ _ _ h => h) (Or.inl ⟨by rfl, ?_⟩) hHeld ?_
  rotate_left
  · intro w hSw; (try dsimp only at hSw); go_simp; try with_reducible rfl
  try simp only [Act.put, List.setIfInBounds_toArray, List.set_cons_zero, List.set_cons_succ]
  refine wpAnyH_take (i := 24) (oi := { dst := some 55, op := Op.binOp BinOp.eql 24 (Operand.tmp 52) (Operand.tmp 54) 24, type := 4, pos := "keeps.go:59", after := #[{ on := 21, ground := Ground.data }, { on := 23, ground := Ground.data }, { on := 20, ground := Ground.guard }], guard := some (20, true) }) (v := ?_) rfl (by kernel_rfl) (by kernel_rfl) (by kernel_rfl) (fun _ _ _ h => h) (Or.inl ⟨by rfl, ?_⟩) hHeld ?_
  rotate_left
  · intro w hSw; (try dsimp only at hSw); go_simp; try with_reducible rfl
  try simp only [Act.put, List.setIfInBounds_toArray, List.set_cons_zero, List.set_cons_succ]
  refine wpAnyH_take (i := 25) (oi := { dst := some 56, op := Op.move (Operand.tmp 1), type := 4, pos := "keeps.go:59", after := #[{ on := 20, ground := Ground.guard }], guard := some (20, true) }) (v := ?_) rfl (by kernel_rfl) (by kernel_rfl) (by kernel_rfl) (fun _ _ _ h => h) (Or.inl ⟨by rfl, ?_⟩) hHeld ?_
  rotate_left
  · intro w hSw; (try dsimp only at hSw); go_simp; try with_reducible rfl
  try simp only [Act.put, List.setIfInBounds_toArray, List.set_cons_zero, List.set_cons_succ]
  refine wpAnyH_take (i := 26) (oi := { dst := some 57, op := Op.move (Operand.tmp 2), type := 4, pos := "keeps.go:59", after := #[{ on := 20, ground := Ground.guard }], guard := some (20, true) }) (v := ?_) rfl (by kernel_rfl) (by kernel_rfl) (by kernel_rfl) (fun _ _ _ h => h) (Or.inl ⟨by rfl, ?_⟩) hHeld ?_
  rotate_left
  · intro w hSw; (try dsimp only at hSw); go_simp; try with_reducible rfl
  try simp only [Act.put, List.setIfInBounds_toArray, List.set_cons_zero, List.set_cons_succ]
  refine wpAnyH_take (i := 27) (oi := { dst := some 58, op := Op.binOp BinOp.eql 4 (Operand.tmp 56) (Operand.tmp 57) 4, type := 4, pos := "keeps.go:59", after := #[{ on := 25, ground := Ground.data }, { on := 26, ground := Ground.data }, { on := 20, ground := Ground.guard }], guard := some (20, true) }) (v := ?_) rfl (by kernel_rfl) (by kernel_rfl) (by kernel_rfl) (fun _ _ _ h => h) (Or.inl ⟨by rfl, ?_⟩) hHeld ?_
  rotate_left
  · intro w hSw; (try dsimp only at hSw); go_simp; try with_reducible rfl
  try simp only [Act.put, List.setIfInBounds_toArray, List.set_cons_zero, List.set_cons_succ]
  refine wpAnyH_take (i := 28) (oi := { dst := some 59, op := Op.move (Operand.tmp 58), type := 4, pos := "keeps.go:59", after := #[{ on := 27, ground := Ground.data }, { on := 20, ground := Ground.chain }, { on := 20, ground := Ground.guard }], guard := some (20, true) }) (v := ?_) rfl (by kernel_rfl) (by kernel_rfl) (by kernel_rfl) (fun _ _ _ h => h) (Or.inl ⟨by rfl, ?_⟩) hHeld ?_
  rotate_left
  · intro w hSw; (try dsimp only at hSw); go_simp; try with_reducible rfl
  try simp only [Act.put, List.setIfInBounds_toArray, List.set_cons_zero, List.set_cons_succ]
  refine wpAnyH_take (i := 29) (oi := { dst := some 60, op := Op.fieldAddr 37 (Operand.tmp 3) 3, type := 0, pos := "keeps.go:59", after := #[{ on := 28, ground := Ground.guard }], guard := some (28, false) }) (v := ?_) rfl (by kernel_rfl) (by kernel_rfl) (by kernel_rfl) (fun _ _ _ h => h) (Or.inl ⟨by rfl, ?_⟩) hHeld ?_
  rotate_left
  · intro w hSw; (try dsimp only at hSw); go_simp; try with_reducible rfl
  try simp only [Act.put, List.setIfInBounds_toArray, List.set_cons_zero, List.set_cons_succ]
  refine wpAnyH_take (i := 30) (oi := { dst := some 61, op := Op.load 24 (Operand.tmp 60), type := 24, pos := "keeps.go:59", after := #[{ on := 29, ground := Ground.data }, { on := 28, ground := Ground.guard }], guard := some (28, false) }) (v := ?_) rfl (by kernel_rfl) (by kernel_rfl) (by kernel_rfl) (fun _ _ _ h => h) (Or.inl ⟨by rfl, ?_⟩) hHeld ?_
  rotate_left
  · intro w hSw; (try dsimp only at hSw); go_simp; try with_reducible rfl
  try simp only [Act.put, List.setIfInBounds_toArray, List.set_cons_zero, List.set_cons_succ]
  refine wpAnyH_take (i := 31) (oi := { dst := some 62, op := Op.fieldAddr 37 (Operand.tmp 3) 3, type := 0, pos := "keeps.go:59", after := #[{ on := 28, ground := Ground.guard }], guard := some (28, false) }) (v := ?_) rfl (by kernel_rfl) (by kernel_rfl) (by kernel_rfl) (fun _ _ _ h => h) (Or.inl ⟨by rfl, ?_⟩) hHeld ?_
  rotate_left
  · intro w hSw; (try dsimp only at hSw); go_simp; try with_reducible rfl
  try simp only [Act.put, List.setIfInBounds_toArray, List.set_cons_zero, List.set_cons_succ]
  refine wpAnyH_take (i := 32) (oi := { dst := some 63, op := Op.load 24 (Operand.tmp 62), type := 24, pos := "keeps.go:59", after := #[{ on := 31, ground := Ground.data }, { on := 28, ground := Ground.guard }], guard := some (28, false) }) (v := ?_) rfl (by kernel_rfl) (by kernel_rfl) (by kernel_rfl) (fun _ _ _ h => h) (Or.inl ⟨by rfl, ?_⟩) hHeld ?_
  rotate_left
  · intro w hSw; (try dsimp only at hSw); go_simp; try with_reducible rfl
  try simp only [Act.put, List.setIfInBounds_toArray, List.set_cons_zero, List.set_cons_succ]
  refine wpAnyH_ready (rs := [33]) (by kernel_rfl) (by simp) ?_
  refine AllReadyH.cons (o := { dst := some 64, op := Op.call { callee := Callee.value (Operand.func 11), args := #[Operand.tmp 63], argTypes := #[24] }, type := 24, pos := "keeps.go:59", after := #[{ on := 32, ground := Ground.data }, { on := 28, ground := Ground.chain }, { on := 28, ground := Ground.guard }], guard := some (28, false) }) rfl (fun K hK => ?_) AllReadyH.nil
  go_simp
  refine (rev_c _ _ _ _ _ _).mono ?_
  rintro e wT ⟨rfl, hR2⟩
  skip
  go_simp
  refine hK.out _ _ (HS.out _ (Below.trans (Below.trans (Below.drew (Below.refl _ _)) hR1) (Below.mono hR2 hz1))) (fun hHeld2 => ?_)
  clear hK K hHeld
  have hHeld := hHeld2
  clear hHeld2
  try simp only [Act.put, List.setIfInBounds_toArray, List.set_cons_zero, List.set_cons_succ]
  refine wpAnyH_take (i := 34) (oi := { dst := some 65, op := Op.binOp BinOp.eql 24 (Operand.tmp 61) (Operand.tmp 64) 24, type := 4, pos := "keeps.go:59", after := #[{ on := 30, ground := Ground.data }, { on := 33, ground := Ground.data }, { on := 28, ground := Ground.guard }], guard := some (28, false) }) (v := ?_) rfl (by kernel_rfl) (by kernel_rfl) (by kernel_rfl) (fun _ _ _ h => h) (Or.inl ⟨by rfl, ?_⟩) hHeld ?_
  rotate_left
  · intro w hSw; (try dsimp only at hSw); go_simp; try with_reducible rfl
  try simp only [Act.put, List.setIfInBounds_toArray, List.set_cons_zero, List.set_cons_succ]
  refine wpAnyH_take (i := 35) (oi := { dst := some 66, op := Op.pick (Operand.tmp 59) (Operand.const (Value.bool true)) (Operand.tmp 65), type := 4, pos := "keeps.go:59", after := #[{ on := 28, ground := Ground.data }, { on := 34, ground := Ground.data }, { on := 20, ground := Ground.guard }], guard := some (20, true) }) (v := ?_) rfl (by kernel_rfl) (by kernel_rfl) (by kernel_rfl) (fun _ _ _ h => h) (Or.inl ⟨by rfl, ?_⟩) hHeld ?_
  rotate_left
  · intro w hSw; (try dsimp only at hSw); go_simp; try with_reducible rfl
  try simp only [Act.put, List.setIfInBounds_toArray, List.set_cons_zero, List.set_cons_succ]
  refine wpAnyH_take (i := 36) (oi := { dst := some 67, op := Op.binOp BinOp.eql 4 (Operand.tmp 55) (Operand.tmp 66) 4, type := 4, pos := "keeps.go:59", after := #[{ on := 24, ground := Ground.data }, { on := 35, ground := Ground.data }, { on := 20, ground := Ground.guard }], guard := some (20, true) }) (v := ?_) rfl (by kernel_rfl) (by kernel_rfl) (by kernel_rfl) (fun _ _ _ h => h) (Or.inl ⟨by rfl, ?_⟩) hHeld ?_
  rotate_left
  · intro w hSw; (try dsimp only at hSw); go_simp; try with_reducible rfl
  try simp only [Act.put, List.setIfInBounds_toArray, List.set_cons_zero, List.set_cons_succ]
  refine wpAnyH_take (i := 37) (oi := { dst := some 68, op := Op.pick (Operand.tmp 51) (Operand.tmp 67) (Operand.const (Value.bool false)), type := 4, pos := "keeps.go:59", after := #[{ on := 20, ground := Ground.data }, { on := 36, ground := Ground.data }], guard := none }) (v := ?_) rfl (by kernel_rfl) (by kernel_rfl) (by kernel_rfl) (fun _ _ _ h => h) (Or.inl ⟨by rfl, ?_⟩) hHeld ?_
  rotate_left
  · intro w hSw; (try dsimp only at hSw); go_simp; try with_reducible rfl
  try simp only [Act.put, List.setIfInBounds_toArray, List.set_cons_zero, List.set_cons_succ]
  refine wpAnyH_take (i := 38) (oi := { dst := some 6, op := Op.assign (Operand.tmp 68), type := 4, pos := "keeps.go:59", after := #[{ on := 37, ground := Ground.data }, { on := 33, ground := Ground.chain }, { on := 0, ground := Ground.phase }, { on := 1, ground := Ground.phase }, { on := 2, ground := Ground.phase }, { on := 3, ground := Ground.phase }, { on := 4, ground := Ground.phase }, { on := 5, ground := Ground.phase }, { on := 6, ground := Ground.phase }, { on := 7, ground := Ground.phase }, { on := 8, ground := Ground.phase }, { on := 9, ground := Ground.phase }, { on := 10, ground := Ground.phase }, { on := 11, ground := Ground.phase }, { on := 12, ground := Ground.phase }, { on := 13, ground := Ground.phase }, { on := 14, ground := Ground.phase }, { on := 15, ground := Ground.phase }, { on := 16, ground := Ground.phase }, { on := 17, ground := Ground.phase }, { on := 18, ground := Ground.phase }, { on := 19, ground := Ground.phase }, { on := 20, ground := Ground.phase }, { on := 21, ground := Ground.phase }, { on := 22, ground := Ground.phase }, { on := 23, ground := Ground.phase }, { on := 24, ground := Ground.phase }, { on := 25, ground := Ground.phase }, { on := 26, ground := Ground.phase }, { on := 27, ground := Ground.phase }, { on := 28, ground := Ground.phase }, { on := 29, ground := Ground.phase }, { on := 30, ground := Ground.phase }, { on := 31, ground := Ground.phase }, { on := 32, ground := Ground.phase }, { on := 33, ground := Ground.phase }, { on := 34, ground := Ground.phase }, { on := 35, ground := Ground.phase }, { on := 36, ground := Ground.phase }, { on := 37, ground := Ground.phase }], guard := none }) (v := ?_) rfl (by kernel_rfl) (by kernel_rfl) (by kernel_rfl) (fun _ _ _ h => h) (Or.inl ⟨by rfl, ?_⟩) hHeld ?_
  rotate_left
  · intro w hSw; (try dsimp only at hSw); go_simp; try with_reducible rfl
  try simp only [Act.put, List.setIfInBounds_toArray, List.set_cons_zero, List.set_cons_succ]
  refine wpAnyH_done (by kernel_rfl) ?_ _
  have hb6 := hb5.trans (Below.mono (Below.trans (Below.trans (Below.drew (Below.refl _ _)) hR1) (Below.mono hR2 hz1)) hb5.size)
  clear hHeld HS A5 N5 M5 O5
  go_wp2
  go_ret
  exact ⟨rfl, hb6⟩


set_option maxRecDepth 100000 in
set_option maxHeartbeats 3200000 in
theorem protos_tfn (kd at1 to1 p s d a b fl tl sr ds qt nn : Int) (he : ¬ s = d) (w : World) :
    Calls Try.prog 5 #[.agg #[.int .i64 kd, .int .i64 at1, .int .i64 to1, .int .i64 p, .int .u32 s, .int .u32 d, .int .i64 a, .int .i64 b, .int .i64 fl, .int .i64 tl, .int .u32 sr, .int .u32 ds, .int .i64 qt, .int .i64 nn], .bool true, .bool false] w fun e w' => e = .returned (.bool true) ∧ Below w.heap.size w w' := by
  have he1 : (s == d) = false := by simpa using he
  have he2 : (d == s) = false := by simpa using fun q => he q.symm
  clear he
  have A0 := Has.new w #[.int .i64 kd, .int .i64 at1, .int .i64 to1, .int .i64 p, .int .u32 s, .int .u32 d, .int .i64 a, .int .i64 b, .int .i64 fl, .int .i64 tl, .int .u32 sr, .int .u32 ds, .int .i64 qt, .int .i64 nn] 37
  go_enter Try.func5, Try.ntmps5
  go_wp2_with fail
  refine (examples_c _).mono ?_
  rintro e w1 ⟨rfl, hb⟩
  have hb1 : Below w.heap.size w w1 := ((Below.refl _ _).alloc (Nat.le_refl _) _).trans (hb.mono (by simp))
  have A1 := A0.below hb
  clear A0 hb
  have c1 := A1.cell
  have f1 := A1.free
  have l1 := A1.lt
  have A2 := A1.set 0 (.int .i64 1)
  skip
  simp only [Array.setIfInBounds, List.size_toArray, List.length_cons, List.length_nil, Nat.reduceAdd, Nat.reduceLT, ↓reduceDIte, List.set_toArray, List.set_cons_succ, List.set_cons_zero] at A2
  clear A1
  go_wp2_with fail
  refine (name_rev _ _ _ _ _ _ _ _ _ _ _ _ _ _ _ (by rfl) _).mono ?_
  rintro e w2 ⟨rfl, hb⟩
  have hb2 : Below w.heap.size w w2 := (hb1.setCell (by simp) _).trans (hb.mono (by simpa [World.setCell] using hb1.size))
  have A3 := A2.below hb
  have N3 := Has.new w2 #[.int .i64 p, .int .u32 d, .int .u32 s, .int .i64 b, .int .i64 a] 24
  clear A2 hb hb1 c1 f1 l1
  have c3 := A3.cell
  have l3 := A3.lt
  go_wp2_with fail
  refine (name_rev _ _ _ _ _ _ _ _ _ _ _ _ _ _ _ (by rfl) _).mono ?_
  rintro e w3 ⟨rfl, hb⟩
  have hb3 : Below w.heap.size w w3 := (hb2.alloc hb2.size _).trans (hb.mono (by simp; omega))
  have A4 := (A3.alloc _).below hb
  have N4 := N3.below hb
  have M4 := Has.new w3 #[.int .i64 p, .int .u32 d, .int .u32 s, .int .i64 b, .int .i64 a] 24
  clear A3 N3 hb hb2 c3 l3
  have c4 := A4.cell
  have l4 := A4.lt
  go_wp2_with fail
  refine (name_same _ _ _ _ _ _ _ _ _ _ _ _ _ _ _ (by rfl) _).mono ?_
  rintro e w4 ⟨rfl, hb⟩
  have hb4 : Below w.heap.size w w4 := (hb3.alloc hb3.size _).trans (hb.mono (by simp; omega))
  have A5 := ((A4.alloc _).below hb).alloc (.cells #[.int .i64 p, .int .u32 s, .int .u32 d, .int .i64 a, .int .i64 b] 24)
  have N5 := ((N4.alloc _).below hb).alloc (.cells #[.int .i64 p, .int .u32 s, .int .u32 d, .int .i64 a, .int .i64 b] 24)
  have M5 := (M4.below hb).alloc (.cells #[.int .i64 p, .int .u32 s, .int .u32 d, .int .i64 a, .int .i64 b] 24)
  have O5 := Has.new w4 #[.int .i64 p, .int .u32 s, .int .u32 d, .int .i64 a, .int .i64 b] 24
  have hb5 := hb4.alloc hb4.size (.cells #[.int .i64 p, .int .u32 s, .int .u32 d, .int .i64 a, .int .i64 b] 24)
  clear A4 N4 M4 hb hb3 hb4 c4 l4
  go_wp2_with fail
  obtain ⟨w5, hw5⟩ : ∃ w5, w5 = w4.alloc (.cells #[.int .i64 p, .int .u32 s, .int .u32 d, .int .i64 a, .int .i64 b] 24) := ⟨_, rfl⟩
  rw [← hw5] at A5 N5 M5 O5 hb5 ⊢
  clear hw5
  have HS : Hid (∀ W : World, Below w5.heap.size w5 W → W.cell? ⟨w2.heap.size, 0, none⟩ = some (.int .i64 p) ∧ W.cell? ⟨w2.heap.size, 1, none⟩ = some (.int .u32 d) ∧ W.cell? ⟨w2.heap.size, 2, none⟩ = some (.int .u32 s) ∧ W.cell? ⟨w2.heap.size, 3, none⟩ = some (.int .i64 b) ∧ W.cell? ⟨w2.heap.size, 4, none⟩ = some (.int .i64 a) ∧ W.cell? ⟨w3.heap.size, 0, none⟩ = some (.int .i64 p) ∧ W.cell? ⟨w3.heap.size, 1, none⟩ = some (.int .u32 d) ∧ W.cell? ⟨w3.heap.size, 2, none⟩ = some (.int .u32 s) ∧ W.cell? ⟨w3.heap.size, 3, none⟩ = some (.int .i64 b) ∧ W.cell? ⟨w3.heap.size, 4, none⟩ = some (.int .i64 a) ∧ W.cell? ⟨w4.heap.size, 0, none⟩ = some (.int .i64 p) ∧ W.cell? ⟨w4.heap.size, 1, none⟩ = some (.int .u32 s) ∧ W.cell? ⟨w4.heap.size, 2, none⟩ = some (.int .u32 d) ∧ W.cell? ⟨w4.heap.size, 3, none⟩ = some (.int .i64 a) ∧ W.cell? ⟨w4.heap.size, 4, none⟩ = some (.int .i64 b) ∧ W.cell? ⟨w.heap.size, 3, none⟩ = some (.int .i64 p) ∧ W.cell? ⟨w.heap.size, 4, none⟩ = some (.int .u32 s) ∧ W.cell? ⟨w.heap.size, 5, none⟩ = some (.int .u32 d) ∧ W.cell? ⟨w.heap.size, 6, none⟩ = some (.int .i64 a) ∧ W.cell? ⟨w.heap.size, 7, none⟩ = some (.int .i64 b) ∧ Below w5.heap.size w5 W) := fun W q => ⟨(N5.below q).cell 0, (N5.below q).cell 1, (N5.below q).cell 2, (N5.below q).cell 3, (N5.below q).cell 4, (M5.below q).cell 0, (M5.below q).cell 1, (M5.below q).cell 2, (M5.below q).cell 3, (M5.below q).cell 4, (O5.below q).cell 0, (O5.below q).cell 1, (O5.below q).cell 2, (O5.below q).cell 3, (O5.below q).cell 4, (A5.below q).cell 3, (A5.below q).cell 4, (A5.below q).cell 5, (A5.below q).cell 6, (A5.below q).cell 7, q⟩
  refine wp_region_held_drew (S := fun W => W.cell? ⟨w2.heap.size, 0, none⟩ = some (.int .i64 p) ∧ W.cell? ⟨w2.heap.size, 1, none⟩ = some (.int .u32 d) ∧ W.cell? ⟨w2.heap.size, 2, none⟩ = some (.int .u32 s) ∧ W.cell? ⟨w2.heap.size, 3, none⟩ = some (.int .i64 b) ∧ W.cell? ⟨w2.heap.size, 4, none⟩ = some (.int .i64 a) ∧ W.cell? ⟨w3.heap.size, 0, none⟩ = some (.int .i64 p) ∧ W.cell? ⟨w3.heap.size, 1, none⟩ = some (.int .u32 d) ∧ W.cell? ⟨w3.heap.size, 2, none⟩ = some (.int .u32 s) ∧ W.cell? ⟨w3.heap.size, 3, none⟩ = some (.int .i64 b) ∧ W.cell? ⟨w3.heap.size, 4, none⟩ = some (.int .i64 a) ∧ W.cell? ⟨w4.heap.size, 0, none⟩ = some (.int .i64 p) ∧ W.cell? ⟨w4.heap.size, 1, none⟩ = some (.int .u32 s) ∧ W.cell? ⟨w4.heap.size, 2, none⟩ = some (.int .u32 d) ∧ W.cell? ⟨w4.heap.size, 3, none⟩ = some (.int .i64 a) ∧ W.cell? ⟨w4.heap.size, 4, none⟩ = some (.int .i64 b) ∧ W.cell? ⟨w.heap.size, 3, none⟩ = some (.int .i64 p) ∧ W.cell? ⟨w.heap.size, 4, none⟩ = some (.int .u32 s) ∧ W.cell? ⟨w.heap.size, 5, none⟩ = some (.int .u32 d) ∧ W.cell? ⟨w.heap.size, 6, none⟩ = some (.int .i64 a) ∧ W.cell? ⟨w.heap.size, 7, none⟩ = some (.int .i64 b) ∧ Below w5.heap.size w5 W) (by kernel_rfl) (HS.out _ (Below.drew (Below.refl _ _))) (fun hHeld => ?_)
  refine wpAnyH_take (i := 0) (oi := { dst := some 31, op := Op.move (Operand.tmp 7), type := 4, pos := "keeps.go:59", after := #[], guard := none }) (v := ?_) rfl (by kernel_rfl) (by kernel_rfl) (by kernel_rfl) (fun _ _ _ h => h) (Or.inl ⟨by rfl, ?_⟩) hHeld ?_
  rotate_left
  · intro w hSw; (try dsimp only at hSw); go_simp; try with_reducible rfl
  try simp only [Act.put, List.setIfInBounds_toArray, List.set_cons_zero, List.set_cons_succ]
  refine wpAnyH_take (i := 1) (oi := { dst := some 32, op := Op.move (Operand.tmp 31), type := 4, pos := "keeps.go:59", after := #[{ on := 0, ground := Ground.data }], guard := none }) (v := ?_) rfl (by kernel_rfl) (by kernel_rfl) (by kernel_rfl) (fun _ _ _ h => h) (Or.inl ⟨by rfl, ?_⟩) hHeld ?_
  rotate_left
  · intro w hSw; (try dsimp only at hSw); go_simp; try with_reducible rfl
  try simp only [Act.put, List.setIfInBounds_toArray, List.set_cons_zero, List.set_cons_succ]
  refine wpAnyH_take (i := 2) (oi := { dst := some 33, op := Op.load 24 (Operand.tmp 8), type := 24, pos := "keeps.go:59", after := #[{ on := 1, ground := Ground.guard }], guard := some (1, true) }) (v := ?_) rfl (by kernel_rfl) (by kernel_rfl) (by kernel_rfl) (fun _ _ _ h => h) (Or.inl ⟨by rfl, ?_⟩) hHeld ?_
  rotate_left
  · intro w hSw; (try dsimp only at hSw); go_simp; try with_reducible rfl
  try simp only [Act.put, List.setIfInBounds_toArray, List.set_cons_zero, List.set_cons_succ]
  refine wpAnyH_take (i := 3) (oi := { dst := some 34, op := Op.load 24 (Operand.tmp 9), type := 24, pos := "keeps.go:59", after := #[{ on := 1, ground := Ground.guard }], guard := some (1, true) }) (v := ?_) rfl (by kernel_rfl) (by kernel_rfl) (by kernel_rfl) (fun _ _ _ h => h) (Or.inl ⟨by rfl, ?_⟩) hHeld ?_
  rotate_left
  · intro w hSw; (try dsimp only at hSw); go_simp; try with_reducible rfl
  try simp only [Act.put, List.setIfInBounds_toArray, List.set_cons_zero, List.set_cons_succ]
  refine wpAnyH_take (i := 4) (oi := { dst := some 35, op := Op.binOp BinOp.eql 24 (Operand.tmp 33) (Operand.tmp 34) 24, type := 4, pos := "keeps.go:59", after := #[{ on := 2, ground := Ground.data }, { on := 3, ground := Ground.data }, { on := 1, ground := Ground.guard }], guard := some (1, true) }) (v := ?_) rfl (by kernel_rfl) (by kernel_rfl) (by kernel_rfl) (fun _ _ _ h => h) (Or.inl ⟨by rfl, ?_⟩) hHeld ?_
  rotate_left
  · intro w hSw; (try dsimp only at hSw); go_simp; try with_reducible rfl
  try simp only [Act.put, List.setIfInBounds_toArray, List.set_cons_zero, List.set_cons_succ]
  refine wpAnyH_take (i := 5) (oi := { dst := some 36, op := Op.pick (Operand.tmp 32) (Operand.tmp 35) (Operand.const (Value.bool false)), type := 4, pos := "keeps.go:59", after := #[{ on := 1, ground := Ground.data }, { on := 4, ground := Ground.data }], guard := none }) (v := ?_) rfl (by kernel_rfl) (by kernel_rfl) (by kernel_rfl) (fun _ _ _ h => h) (Or.inl ⟨by rfl, ?_⟩) hHeld ?_
  rotate_left
  · intro w hSw; (try dsimp only at hSw); go_simp; try with_reducible rfl
  try simp only [Act.put, List.setIfInBounds_toArray, List.set_cons_zero, List.set_cons_succ]
  refine wpAnyH_take (i := 6) (oi := { dst := some 37, op := Op.move (Operand.tmp 36), type := 4, pos := "keeps.go:59", after := #[{ on := 5, ground := Ground.data }, { on := 1, ground := Ground.chain }], guard := none }) (v := ?_) rfl (by kernel_rfl) (by kernel_rfl) (by kernel_rfl) (fun _ _ _ h => h) (Or.inl ⟨by rfl, ?_⟩) hHeld ?_
  rotate_left
  · intro w hSw; (try dsimp only at hSw); go_simp; try with_reducible rfl
  try simp only [Act.put, List.setIfInBounds_toArray, List.set_cons_zero, List.set_cons_succ]
  refine wpAnyH_take (i := 7) (oi := { dst := some 38, op := Op.fieldAddr 24 (Operand.tmp 8) 0, type := 0, pos := "keeps.go:59", after := #[{ on := 6, ground := Ground.guard }], guard := some (6, true) }) (v := ?_) rfl (by kernel_rfl) (by kernel_rfl) (by kernel_rfl) (fun _ _ _ h => h) (Or.inl ⟨by rfl, ?_⟩) hHeld ?_
  rotate_left
  · intro w hSw; (try dsimp only at hSw); go_simp; try with_reducible rfl
  try simp only [Act.put, List.setIfInBounds_toArray, List.set_cons_zero, List.set_cons_succ]
  refine wpAnyH_take (i := 8) (oi := { dst := some 39, op := Op.load 3 (Operand.tmp 38), type := 3, pos := "keeps.go:59", after := #[{ on := 7, ground := Ground.data }, { on := 6, ground := Ground.guard }], guard := some (6, true) }) (v := ?_) rfl (by kernel_rfl) (by kernel_rfl) (by kernel_rfl) (fun _ _ _ h => h) (Or.inl ⟨by rfl, ?_⟩) hHeld ?_
  rotate_left
  · intro w hSw; (try dsimp only at hSw); go_simp; try with_reducible rfl
  try simp only [Act.put, List.setIfInBounds_toArray, List.set_cons_zero, List.set_cons_succ]
  refine wpAnyH_take (i := 9) (oi := { dst := some 40, op := Op.fieldAddr 37 (Operand.tmp 3) 3, type := 0, pos := "keeps.go:59", after := #[{ on := 6, ground := Ground.guard }], guard := some (6, true) }) (v := ?_) rfl (by kernel_rfl) (by kernel_rfl) (by kernel_rfl) (fun _ _ _ h => h) (Or.inl ⟨by rfl, ?_⟩) hHeld ?_
  rotate_left
  · intro w hSw; (try dsimp only at hSw); go_simp; try with_reducible rfl
  try simp only [Act.put, List.setIfInBounds_toArray, List.set_cons_zero, List.set_cons_succ]
  refine wpAnyH_take (i := 10) (oi := { dst := some 41, op := Op.fieldAddr 24 (Operand.tmp 40) 0, type := 0, pos := "keeps.go:59", after := #[{ on := 9, ground := Ground.data }, { on := 6, ground := Ground.guard }], guard := some (6, true) }) (v := ?_) rfl (by kernel_rfl) (by kernel_rfl) (by kernel_rfl) (fun _ _ _ h => h) (Or.inl ⟨by rfl, ?_⟩) hHeld ?_
  rotate_left
  · intro w hSw; (try dsimp only at hSw); go_simp; try with_reducible rfl
  try simp only [Act.put, List.setIfInBounds_toArray, List.set_cons_zero, List.set_cons_succ]
  refine wpAnyH_take (i := 11) (oi := { dst := some 42, op := Op.load 3 (Operand.tmp 41), type := 3, pos := "keeps.go:59", after := #[{ on := 10, ground := Ground.data }, { on := 6, ground := Ground.guard }], guard := some (6, true) }) (v := ?_) rfl (by kernel_rfl) (by kernel_rfl) (by kernel_rfl) (fun _ _ _ h => h) (Or.inl ⟨by rfl, ?_⟩) hHeld ?_
  rotate_left
  · intro w hSw; (try dsimp only at hSw); go_simp; try with_reducible rfl
  try simp only [Act.put, List.setIfInBounds_toArray, List.set_cons_zero, List.set_cons_succ]
  refine wpAnyH_take (i := 12) (oi := { dst := some 43, op := Op.binOp BinOp.eql 3 (Operand.tmp 39) (Operand.tmp 42) 3, type := 4, pos := "keeps.go:59", after := #[{ on := 8, ground := Ground.data }, { on := 11, ground := Ground.data }, { on := 6, ground := Ground.guard }], guard := some (6, true) }) (v := ?_) rfl (by kernel_rfl) (by kernel_rfl) (by kernel_rfl) (fun _ _ _ h => h) (Or.inl ⟨by rfl, ?_⟩) hHeld ?_
  rotate_left
  · intro w hSw; (try dsimp only at hSw); go_simp; try with_reducible rfl
  try simp only [Act.put, List.setIfInBounds_toArray, List.set_cons_zero, List.set_cons_succ]
  refine wpAnyH_take (i := 13) (oi := { dst := some 44, op := Op.pick (Operand.tmp 37) (Operand.tmp 43) (Operand.const (Value.bool false)), type := 4, pos := "keeps.go:59", after := #[{ on := 6, ground := Ground.data }, { on := 12, ground := Ground.data }], guard := none }) (v := ?_) rfl (by kernel_rfl) (by kernel_rfl) (by kernel_rfl) (fun _ _ _ h => h) (Or.inl ⟨by rfl, ?_⟩) hHeld ?_
  rotate_left
  · intro w hSw; (try dsimp only at hSw); go_simp; try with_reducible rfl
  try simp only [Act.put, List.setIfInBounds_toArray, List.set_cons_zero, List.set_cons_succ]
  refine wpAnyH_take (i := 14) (oi := { dst := some 45, op := Op.move (Operand.tmp 44), type := 4, pos := "keeps.go:59", after := #[{ on := 13, ground := Ground.data }, { on := 6, ground := Ground.chain }], guard := none }) (v := ?_) rfl (by kernel_rfl) (by kernel_rfl) (by kernel_rfl) (fun _ _ _ h => h) (Or.inl ⟨by rfl, ?_⟩) hHeld ?_
  rotate_left
  · intro w hSw; (try dsimp only at hSw); go_simp; try with_reducible rfl
  try simp only [Act.put, List.setIfInBounds_toArray, List.set_cons_zero, List.set_cons_succ]
  refine wpAnyH_take (i := 15) (oi := { dst := some 46, op := Op.load 24 (Operand.tmp 10), type := 24, pos := "keeps.go:59", after := #[{ on := 14, ground := Ground.guard }], guard := some (14, true) }) (v := ?_) rfl (by kernel_rfl) (by kernel_rfl) (by kernel_rfl) (fun _ _ _ h => h) (Or.inl ⟨by rfl, ?_⟩) hHeld ?_
  rotate_left
  · intro w hSw; (try dsimp only at hSw); go_simp; try with_reducible rfl
  try simp only [Act.put, List.setIfInBounds_toArray, List.set_cons_zero, List.set_cons_succ]
  refine wpAnyH_take (i := 16) (oi := { dst := some 47, op := Op.load 24 (Operand.tmp 8), type := 24, pos := "keeps.go:59", after := #[{ on := 14, ground := Ground.guard }], guard := some (14, true) }) (v := ?_) rfl (by kernel_rfl) (by kernel_rfl) (by kernel_rfl) (fun _ _ _ h => h) (Or.inl ⟨by rfl, ?_⟩) hHeld ?_
  rotate_left
  · intro w hSw; (try dsimp only at hSw); go_simp; try with_reducible rfl
  try simp only [Act.put, List.setIfInBounds_toArray, List.set_cons_zero, List.set_cons_succ]
  refine wpAnyH_ready (rs := [17]) (by kernel_rfl) (by simp) ?_
  refine AllReadyH.cons (o := { dst := some 48, op := Op.call { callee := Callee.value (Operand.func 11), args := #[Operand.tmp 47], argTypes := #[24] }, type := 24, pos := "keeps.go:59", after := #[{ on := 16, ground := Ground.data }, { on := 14, ground := Ground.chain }, { on := 14, ground := Ground.guard }], guard := some (14, true) }) rfl (fun K hK => ?_) AllReadyH.nil
  go_simp
  refine (rev_c _ _ _ _ _ _).mono ?_
  rintro e wR ⟨rfl, hR1⟩
  have hz1 : w5.heap.size ≤ wR.heap.size := (by have q := hR1.size; exact q)
  go_simp
  refine hK.out _ _ (HS.out _ (Below.trans (Below.drew (Below.refl _ _)) hR1)) (fun hHeld2 => ?_)
  clear hK K hHeld
  have hHeld := hHeld2
  clear hHeld2
  try simp only [Act.put, List.setIfInBounds_toArray, List.set_cons_zero, List.set_cons_succ]
  refine wpAnyH_take (i := 18) (oi := { dst := some 49, op := Op.binOp BinOp.eql 24 (Operand.tmp 46) (Operand.tmp 48) 24, type := 4, pos := "keeps.go:59", after := #[{ on := 15, ground := Ground.data }, { on := 17, ground := Ground.data }, { on := 14, ground := Ground.guard }], guard := some (14, true) }) (v := ?_) rfl (by kernel_rfl) (by kernel_rfl) (by kernel_rfl) (fun _ _ _ h => h) (Or.inl ⟨by rfl, ?_⟩) hHeld ?_
  rotate_left
  · intro w hSw; (try dsimp only at hSw); go_simp; try with_reducible rfl
  try simp only [Act.put, List.setIfInBounds_toArray, List.set_cons_zero, List.set_cons_succ]
  refine wpAnyH_take (i := 19) (oi := { dst := some 50, op := Op.pick (Operand.tmp 45) (Operand.tmp 49) (Operand.const (Value.bool false)), type := 4, pos := "keeps.go:59", after := #[{ on := 14, ground := Ground.data }, { on := 18, ground := Ground.data }], guard := none }) (v := ?_) rfl (by kernel_rfl) (by kernel_rfl) (by kernel_rfl) (fun _ _ _ h => h) (Or.inl ⟨by rfl, ?_⟩) hHeld ?_
  rotate_left
  · intro w hSw; (try dsimp only at hSw); go_simp; try with_reducible rfl
  try simp only [Act.put, List.setIfInBounds_toArray, List.set_cons_zero, List.set_cons_succ]
  refine wpAnyH_take (i := 20) (oi := { dst := some 51, op := Op.move (Operand.tmp 50), type := 4, pos := "keeps.go:59", after := #[{ on := 19, ground := Ground.data }, { on := 17, ground := Ground.chain }], guard := none }) (v := ?_) rfl (by kernel_rfl) (by kernel_rfl) (by kernel_rfl) (fun _ _ _ h => h) (Or.inl ⟨by rfl, ?_⟩) hHeld ?_
  rotate_left
  · intro w hSw; (try dsimp only at hSw); go_simp; try with_reducible rfl
  try simp only [Act.put, List.setIfInBounds_toArray, List.set_cons_zero, List.set_cons_succ]
  refine wpAnyH_take (i := 21) (oi := { dst := some 52, op := Op.load 24 (Operand.tmp 8), type := 24, pos := "keeps.go:59", after := #[{ on := 20, ground := Ground.guard }], guard := some (20, true) }) (v := ?_) rfl (by kernel_rfl) (by kernel_rfl) (by kernel_rfl) (fun _ _ _ h => h) (Or.inl ⟨by rfl, ?_⟩) hHeld ?_
  rotate_left
  · intro w hSw; (try dsimp only at hSw); go_simp; try with_reducible rfl
  try simp only [Act.put, List.setIfInBounds_toArray, List.set_cons_zero, List.set_cons_succ]
  refine wpAnyH_take (i := 22) (oi := { dst := some 53, op := Op.fieldAddr 37 (Operand.tmp 3) 3, type := 0, pos := "keeps.go:59", after := #[{ on := 20, ground := Ground.guard }], guard := some (20, true) }) (v := ?_) rfl (by kernel_rfl) (by kernel_rfl) (by kernel_rfl) (fun _ _ _ h => h) (Or.inl ⟨by rfl, ?_⟩) hHeld ?_
  rotate_left
  · intro w hSw; (try dsimp only at hSw); go_simp; try with_reducible rfl
  try simp only [Act.put, List.setIfInBounds_toArray, List.set_cons_zero, List.set_cons_succ]
  refine wpAnyH_take (i := 23) (oi := { dst := some 54, op := Op.load 24 (Operand.tmp 53), type := 24, pos := "keeps.go:59", after := #[{ on := 22, ground := Ground.data }, { on := 20, ground := Ground.guard }], guard := some (20, true) }) (v := ?_) rfl (by kernel_rfl) (by kernel_rfl) (by kernel_rfl) (fun _ _ _ h => h) (Or.inl ⟨by rfl, ?_⟩) hHeld ?_
  rotate_left
  · intro w hSw; (try dsimp only at hSw); go_simp; try with_reducible rfl
  try simp only [Act.put, List.setIfInBounds_toArray, List.set_cons_zero, List.set_cons_succ]
  refine wpAnyH_take (i := 24) (oi := { dst := some 55, op := Op.binOp BinOp.eql 24 (Operand.tmp 52) (Operand.tmp 54) 24, type := 4, pos := "keeps.go:59", after := #[{ on := 21, ground := Ground.data }, { on := 23, ground := Ground.data }, { on := 20, ground := Ground.guard }], guard := some (20, true) }) (v := ?_) rfl (by kernel_rfl) (by kernel_rfl) (by kernel_rfl) (fun _ _ _ h => h) (Or.inl ⟨by rfl, ?_⟩) hHeld ?_
  rotate_left
  · intro w hSw; (try dsimp only at hSw); go_simp; try with_reducible rfl
  try simp only [Act.put, List.setIfInBounds_toArray, List.set_cons_zero, List.set_cons_succ]
  refine wpAnyH_take (i := 25) (oi := { dst := some 56, op := Op.move (Operand.tmp 1), type := 4, pos := "keeps.go:59", after := #[{ on := 20, ground := Ground.guard }], guard := some (20, true) }) (v := ?_) rfl (by kernel_rfl) (by kernel_rfl) (by kernel_rfl) (fun _ _ _ h => h) (Or.inl ⟨by rfl, ?_⟩) hHeld ?_
  rotate_left
  · intro w hSw; (try dsimp only at hSw); go_simp; try with_reducible rfl
  try simp only [Act.put, List.setIfInBounds_toArray, List.set_cons_zero, List.set_cons_succ]
  refine wpAnyH_take (i := 26) (oi := { dst := some 57, op := Op.move (Operand.tmp 2), type := 4, pos := "keeps.go:59", after := #[{ on := 20, ground := Ground.guard }], guard := some (20, true) }) (v := ?_) rfl (by kernel_rfl) (by kernel_rfl) (by kernel_rfl) (fun _ _ _ h => h) (Or.inl ⟨by rfl, ?_⟩) hHeld ?_
  rotate_left
  · intro w hSw; (try dsimp only at hSw); go_simp; try with_reducible rfl
  try simp only [Act.put, List.setIfInBounds_toArray, List.set_cons_zero, List.set_cons_succ]
  refine wpAnyH_take (i := 27) (oi := { dst := some 58, op := Op.binOp BinOp.eql 4 (Operand.tmp 56) (Operand.tmp 57) 4, type := 4, pos := "keeps.go:59", after := #[{ on := 25, ground := Ground.data }, { on := 26, ground := Ground.data }, { on := 20, ground := Ground.guard }], guard := some (20, true) }) (v := ?_) rfl (by kernel_rfl) (by kernel_rfl) (by kernel_rfl) (fun _ _ _ h => h) (Or.inl ⟨by rfl, ?_⟩) hHeld ?_
  rotate_left
  · intro w hSw; (try dsimp only at hSw); go_simp; try with_reducible rfl
  try simp only [Act.put, List.setIfInBounds_toArray, List.set_cons_zero, List.set_cons_succ]
  refine wpAnyH_take (i := 28) (oi := { dst := some 59, op := Op.move (Operand.tmp 58), type := 4, pos := "keeps.go:59", after := #[{ on := 27, ground := Ground.data }, { on := 20, ground := Ground.chain }, { on := 20, ground := Ground.guard }], guard := some (20, true) }) (v := ?_) rfl (by kernel_rfl) (by kernel_rfl) (by kernel_rfl) (fun _ _ _ h => h) (Or.inl ⟨by rfl, ?_⟩) hHeld ?_
  rotate_left
  · intro w hSw; (try dsimp only at hSw); go_simp; try with_reducible rfl
  try simp only [Act.put, List.setIfInBounds_toArray, List.set_cons_zero, List.set_cons_succ]
  refine wpAnyH_take (i := 29) (oi := { dst := some 60, op := Op.fieldAddr 37 (Operand.tmp 3) 3, type := 0, pos := "keeps.go:59", after := #[{ on := 28, ground := Ground.guard }], guard := some (28, false) }) (v := ?_) rfl (by kernel_rfl) (by kernel_rfl) (by kernel_rfl) (fun _ _ _ h => h) (Or.inl ⟨by rfl, ?_⟩) hHeld ?_
  rotate_left
  · intro w hSw; (try dsimp only at hSw); go_simp; try with_reducible rfl
  try simp only [Act.put, List.setIfInBounds_toArray, List.set_cons_zero, List.set_cons_succ]
  refine wpAnyH_take (i := 30) (oi := { dst := some 61, op := Op.load 24 (Operand.tmp 60), type := 24, pos := "keeps.go:59", after := #[{ on := 29, ground := Ground.data }, { on := 28, ground := Ground.guard }], guard := some (28, false) }) (v := ?_) rfl (by kernel_rfl) (by kernel_rfl) (by kernel_rfl) (fun _ _ _ h => h) (Or.inl ⟨by rfl, ?_⟩) hHeld ?_
  rotate_left
  · intro w hSw; (try dsimp only at hSw); go_simp; try with_reducible rfl
  try simp only [Act.put, List.setIfInBounds_toArray, List.set_cons_zero, List.set_cons_succ]
  refine wpAnyH_take (i := 31) (oi := { dst := some 62, op := Op.fieldAddr 37 (Operand.tmp 3) 3, type := 0, pos := "keeps.go:59", after := #[{ on := 28, ground := Ground.guard }], guard := some (28, false) }) (v := ?_) rfl (by kernel_rfl) (by kernel_rfl) (by kernel_rfl) (fun _ _ _ h => h) (Or.inl ⟨by rfl, ?_⟩) hHeld ?_
  rotate_left
  · intro w hSw; (try dsimp only at hSw); go_simp; try with_reducible rfl
  try simp only [Act.put, List.setIfInBounds_toArray, List.set_cons_zero, List.set_cons_succ]
  refine wpAnyH_take (i := 32) (oi := { dst := some 63, op := Op.load 24 (Operand.tmp 62), type := 24, pos := "keeps.go:59", after := #[{ on := 31, ground := Ground.data }, { on := 28, ground := Ground.guard }], guard := some (28, false) }) (v := ?_) rfl (by kernel_rfl) (by kernel_rfl) (by kernel_rfl) (fun _ _ _ h => h) (Or.inl ⟨by rfl, ?_⟩) hHeld ?_
  rotate_left
  · intro w hSw; (try dsimp only at hSw); go_simp; try with_reducible rfl
  try simp only [Act.put, List.setIfInBounds_toArray, List.set_cons_zero, List.set_cons_succ]
  refine wpAnyH_ready (rs := [33]) (by kernel_rfl) (by simp) ?_
  refine AllReadyH.cons (o := { dst := some 64, op := Op.call { callee := Callee.value (Operand.func 11), args := #[Operand.tmp 63], argTypes := #[24] }, type := 24, pos := "keeps.go:59", after := #[{ on := 32, ground := Ground.data }, { on := 28, ground := Ground.chain }, { on := 28, ground := Ground.guard }], guard := some (28, false) }) rfl (fun K hK => ?_) AllReadyH.nil
  go_simp
  refine (rev_c _ _ _ _ _ _).mono ?_
  rintro e wT ⟨rfl, hR2⟩
  skip
  go_simp
  refine hK.out _ _ (HS.out _ (Below.trans (Below.trans (Below.drew (Below.refl _ _)) hR1) (Below.mono hR2 hz1))) (fun hHeld2 => ?_)
  clear hK K hHeld
  have hHeld := hHeld2
  clear hHeld2
  try simp only [Act.put, List.setIfInBounds_toArray, List.set_cons_zero, List.set_cons_succ]
  refine wpAnyH_take (i := 34) (oi := { dst := some 65, op := Op.binOp BinOp.eql 24 (Operand.tmp 61) (Operand.tmp 64) 24, type := 4, pos := "keeps.go:59", after := #[{ on := 30, ground := Ground.data }, { on := 33, ground := Ground.data }, { on := 28, ground := Ground.guard }], guard := some (28, false) }) (v := ?_) rfl (by kernel_rfl) (by kernel_rfl) (by kernel_rfl) (fun _ _ _ h => h) (Or.inl ⟨by rfl, ?_⟩) hHeld ?_
  rotate_left
  · intro w hSw; (try dsimp only at hSw); go_simp; try with_reducible rfl
  try simp only [Act.put, List.setIfInBounds_toArray, List.set_cons_zero, List.set_cons_succ]
  refine wpAnyH_take (i := 35) (oi := { dst := some 66, op := Op.pick (Operand.tmp 59) (Operand.const (Value.bool true)) (Operand.tmp 65), type := 4, pos := "keeps.go:59", after := #[{ on := 28, ground := Ground.data }, { on := 34, ground := Ground.data }, { on := 20, ground := Ground.guard }], guard := some (20, true) }) (v := ?_) rfl (by kernel_rfl) (by kernel_rfl) (by kernel_rfl) (fun _ _ _ h => h) (Or.inl ⟨by rfl, ?_⟩) hHeld ?_
  rotate_left
  · intro w hSw; (try dsimp only at hSw); go_simp; try with_reducible rfl
  try simp only [Act.put, List.setIfInBounds_toArray, List.set_cons_zero, List.set_cons_succ]
  refine wpAnyH_take (i := 36) (oi := { dst := some 67, op := Op.binOp BinOp.eql 4 (Operand.tmp 55) (Operand.tmp 66) 4, type := 4, pos := "keeps.go:59", after := #[{ on := 24, ground := Ground.data }, { on := 35, ground := Ground.data }, { on := 20, ground := Ground.guard }], guard := some (20, true) }) (v := ?_) rfl (by kernel_rfl) (by kernel_rfl) (by kernel_rfl) (fun _ _ _ h => h) (Or.inl ⟨by rfl, ?_⟩) hHeld ?_
  rotate_left
  · intro w hSw; (try dsimp only at hSw); go_simp; try with_reducible rfl
  try simp only [Act.put, List.setIfInBounds_toArray, List.set_cons_zero, List.set_cons_succ]
  refine wpAnyH_take (i := 37) (oi := { dst := some 68, op := Op.pick (Operand.tmp 51) (Operand.tmp 67) (Operand.const (Value.bool false)), type := 4, pos := "keeps.go:59", after := #[{ on := 20, ground := Ground.data }, { on := 36, ground := Ground.data }], guard := none }) (v := ?_) rfl (by kernel_rfl) (by kernel_rfl) (by kernel_rfl) (fun _ _ _ h => h) (Or.inl ⟨by rfl, ?_⟩) hHeld ?_
  rotate_left
  · intro w hSw; (try dsimp only at hSw); go_simp; try with_reducible rfl
  try simp only [Act.put, List.setIfInBounds_toArray, List.set_cons_zero, List.set_cons_succ]
  refine wpAnyH_take (i := 38) (oi := { dst := some 6, op := Op.assign (Operand.tmp 68), type := 4, pos := "keeps.go:59", after := #[{ on := 37, ground := Ground.data }, { on := 33, ground := Ground.chain }, { on := 0, ground := Ground.phase }, { on := 1, ground := Ground.phase }, { on := 2, ground := Ground.phase }, { on := 3, ground := Ground.phase }, { on := 4, ground := Ground.phase }, { on := 5, ground := Ground.phase }, { on := 6, ground := Ground.phase }, { on := 7, ground := Ground.phase }, { on := 8, ground := Ground.phase }, { on := 9, ground := Ground.phase }, { on := 10, ground := Ground.phase }, { on := 11, ground := Ground.phase }, { on := 12, ground := Ground.phase }, { on := 13, ground := Ground.phase }, { on := 14, ground := Ground.phase }, { on := 15, ground := Ground.phase }, { on := 16, ground := Ground.phase }, { on := 17, ground := Ground.phase }, { on := 18, ground := Ground.phase }, { on := 19, ground := Ground.phase }, { on := 20, ground := Ground.phase }, { on := 21, ground := Ground.phase }, { on := 22, ground := Ground.phase }, { on := 23, ground := Ground.phase }, { on := 24, ground := Ground.phase }, { on := 25, ground := Ground.phase }, { on := 26, ground := Ground.phase }, { on := 27, ground := Ground.phase }, { on := 28, ground := Ground.phase }, { on := 29, ground := Ground.phase }, { on := 30, ground := Ground.phase }, { on := 31, ground := Ground.phase }, { on := 32, ground := Ground.phase }, { on := 33, ground := Ground.phase }, { on := 34, ground := Ground.phase }, { on := 35, ground := Ground.phase }, { on := 36, ground := Ground.phase }, { on := 37, ground := Ground.phase }], guard := none }) (v := ?_) rfl (by kernel_rfl) (by kernel_rfl) (by kernel_rfl) (fun _ _ _ h => h) (Or.inl ⟨by rfl, ?_⟩) hHeld ?_
  rotate_left
  · intro w hSw; (try dsimp only at hSw); go_simp; try with_reducible rfl
  try simp only [Act.put, List.setIfInBounds_toArray, List.set_cons_zero, List.set_cons_succ]
  refine wpAnyH_done (by kernel_rfl) ?_ _
  have hb6 := hb5.trans (Below.mono (Below.trans (Below.trans (Below.drew (Below.refl _ _)) hR1) (Below.mono hR2 hz1)) hb5.size)
  clear hHeld HS A5 N5 M5 O5
  go_wp2
  go_ret
  exact ⟨rfl, hb6⟩


set_option maxRecDepth 100000 in
set_option maxHeartbeats 3200000 in
theorem protos_tfm (kd at1 to1 p s d a b fl tl sr ds qt nn : Int) (he : s = d ∧ ¬ a = b) (w : World) :
    Calls Try.prog 5 #[.agg #[.int .i64 kd, .int .i64 at1, .int .i64 to1, .int .i64 p, .int .u32 s, .int .u32 d, .int .i64 a, .int .i64 b, .int .i64 fl, .int .i64 tl, .int .u32 sr, .int .u32 ds, .int .i64 qt, .int .i64 nn], .bool true, .bool false] w fun e w' => e = .returned (.bool true) ∧ Below w.heap.size w w' := by
  obtain ⟨rfl, he⟩ := he
  have he1 : (a == b) = false := by simpa using he
  have he2 : (b == a) = false := by simpa using fun q => he q.symm
  clear he
  have A0 := Has.new w #[.int .i64 kd, .int .i64 at1, .int .i64 to1, .int .i64 p, .int .u32 s, .int .u32 s, .int .i64 a, .int .i64 b, .int .i64 fl, .int .i64 tl, .int .u32 sr, .int .u32 ds, .int .i64 qt, .int .i64 nn] 37
  go_enter Try.func5, Try.ntmps5
  go_wp2_with fail
  refine (examples_c _).mono ?_
  rintro e w1 ⟨rfl, hb⟩
  have hb1 : Below w.heap.size w w1 := ((Below.refl _ _).alloc (Nat.le_refl _) _).trans (hb.mono (by simp))
  have A1 := A0.below hb
  clear A0 hb
  have c1 := A1.cell
  have f1 := A1.free
  have l1 := A1.lt
  have A2 := A1.set 0 (.int .i64 1)
  skip
  simp only [Array.setIfInBounds, List.size_toArray, List.length_cons, List.length_nil, Nat.reduceAdd, Nat.reduceLT, ↓reduceDIte, List.set_toArray, List.set_cons_succ, List.set_cons_zero] at A2
  clear A1
  go_wp2_with fail
  refine (name_rev _ _ _ _ _ _ _ _ _ _ _ _ _ _ _ (by rfl) _).mono ?_
  rintro e w2 ⟨rfl, hb⟩
  have hb2 : Below w.heap.size w w2 := (hb1.setCell (by simp) _).trans (hb.mono (by simpa [World.setCell] using hb1.size))
  have A3 := A2.below hb
  have N3 := Has.new w2 #[.int .i64 p, .int .u32 s, .int .u32 s, .int .i64 b, .int .i64 a] 24
  clear A2 hb hb1 c1 f1 l1
  have c3 := A3.cell
  have l3 := A3.lt
  go_wp2_with fail
  refine (name_rev _ _ _ _ _ _ _ _ _ _ _ _ _ _ _ (by rfl) _).mono ?_
  rintro e w3 ⟨rfl, hb⟩
  have hb3 : Below w.heap.size w w3 := (hb2.alloc hb2.size _).trans (hb.mono (by simp; omega))
  have A4 := (A3.alloc _).below hb
  have N4 := N3.below hb
  have M4 := Has.new w3 #[.int .i64 p, .int .u32 s, .int .u32 s, .int .i64 b, .int .i64 a] 24
  clear A3 N3 hb hb2 c3 l3
  have c4 := A4.cell
  have l4 := A4.lt
  go_wp2_with fail
  refine (name_same _ _ _ _ _ _ _ _ _ _ _ _ _ _ _ (by rfl) _).mono ?_
  rintro e w4 ⟨rfl, hb⟩
  have hb4 : Below w.heap.size w w4 := (hb3.alloc hb3.size _).trans (hb.mono (by simp; omega))
  have A5 := ((A4.alloc _).below hb).alloc (.cells #[.int .i64 p, .int .u32 s, .int .u32 s, .int .i64 a, .int .i64 b] 24)
  have N5 := ((N4.alloc _).below hb).alloc (.cells #[.int .i64 p, .int .u32 s, .int .u32 s, .int .i64 a, .int .i64 b] 24)
  have M5 := (M4.below hb).alloc (.cells #[.int .i64 p, .int .u32 s, .int .u32 s, .int .i64 a, .int .i64 b] 24)
  have O5 := Has.new w4 #[.int .i64 p, .int .u32 s, .int .u32 s, .int .i64 a, .int .i64 b] 24
  have hb5 := hb4.alloc hb4.size (.cells #[.int .i64 p, .int .u32 s, .int .u32 s, .int .i64 a, .int .i64 b] 24)
  clear A4 N4 M4 hb hb3 hb4 c4 l4
  go_wp2_with fail
  obtain ⟨w5, hw5⟩ : ∃ w5, w5 = w4.alloc (.cells #[.int .i64 p, .int .u32 s, .int .u32 s, .int .i64 a, .int .i64 b] 24) := ⟨_, rfl⟩
  rw [← hw5] at A5 N5 M5 O5 hb5 ⊢
  clear hw5
  have HS : Hid (∀ W : World, Below w5.heap.size w5 W → W.cell? ⟨w2.heap.size, 0, none⟩ = some (.int .i64 p) ∧ W.cell? ⟨w2.heap.size, 1, none⟩ = some (.int .u32 s) ∧ W.cell? ⟨w2.heap.size, 2, none⟩ = some (.int .u32 s) ∧ W.cell? ⟨w2.heap.size, 3, none⟩ = some (.int .i64 b) ∧ W.cell? ⟨w2.heap.size, 4, none⟩ = some (.int .i64 a) ∧ W.cell? ⟨w3.heap.size, 0, none⟩ = some (.int .i64 p) ∧ W.cell? ⟨w3.heap.size, 1, none⟩ = some (.int .u32 s) ∧ W.cell? ⟨w3.heap.size, 2, none⟩ = some (.int .u32 s) ∧ W.cell? ⟨w3.heap.size, 3, none⟩ = some (.int .i64 b) ∧ W.cell? ⟨w3.heap.size, 4, none⟩ = some (.int .i64 a) ∧ W.cell? ⟨w4.heap.size, 0, none⟩ = some (.int .i64 p) ∧ W.cell? ⟨w4.heap.size, 1, none⟩ = some (.int .u32 s) ∧ W.cell? ⟨w4.heap.size, 2, none⟩ = some (.int .u32 s) ∧ W.cell? ⟨w4.heap.size, 3, none⟩ = some (.int .i64 a) ∧ W.cell? ⟨w4.heap.size, 4, none⟩ = some (.int .i64 b) ∧ W.cell? ⟨w.heap.size, 3, none⟩ = some (.int .i64 p) ∧ W.cell? ⟨w.heap.size, 4, none⟩ = some (.int .u32 s) ∧ W.cell? ⟨w.heap.size, 5, none⟩ = some (.int .u32 s) ∧ W.cell? ⟨w.heap.size, 6, none⟩ = some (.int .i64 a) ∧ W.cell? ⟨w.heap.size, 7, none⟩ = some (.int .i64 b) ∧ Below w5.heap.size w5 W) := fun W q => ⟨(N5.below q).cell 0, (N5.below q).cell 1, (N5.below q).cell 2, (N5.below q).cell 3, (N5.below q).cell 4, (M5.below q).cell 0, (M5.below q).cell 1, (M5.below q).cell 2, (M5.below q).cell 3, (M5.below q).cell 4, (O5.below q).cell 0, (O5.below q).cell 1, (O5.below q).cell 2, (O5.below q).cell 3, (O5.below q).cell 4, (A5.below q).cell 3, (A5.below q).cell 4, (A5.below q).cell 5, (A5.below q).cell 6, (A5.below q).cell 7, q⟩
  refine wp_region_held_drew (S := fun W => W.cell? ⟨w2.heap.size, 0, none⟩ = some (.int .i64 p) ∧ W.cell? ⟨w2.heap.size, 1, none⟩ = some (.int .u32 s) ∧ W.cell? ⟨w2.heap.size, 2, none⟩ = some (.int .u32 s) ∧ W.cell? ⟨w2.heap.size, 3, none⟩ = some (.int .i64 b) ∧ W.cell? ⟨w2.heap.size, 4, none⟩ = some (.int .i64 a) ∧ W.cell? ⟨w3.heap.size, 0, none⟩ = some (.int .i64 p) ∧ W.cell? ⟨w3.heap.size, 1, none⟩ = some (.int .u32 s) ∧ W.cell? ⟨w3.heap.size, 2, none⟩ = some (.int .u32 s) ∧ W.cell? ⟨w3.heap.size, 3, none⟩ = some (.int .i64 b) ∧ W.cell? ⟨w3.heap.size, 4, none⟩ = some (.int .i64 a) ∧ W.cell? ⟨w4.heap.size, 0, none⟩ = some (.int .i64 p) ∧ W.cell? ⟨w4.heap.size, 1, none⟩ = some (.int .u32 s) ∧ W.cell? ⟨w4.heap.size, 2, none⟩ = some (.int .u32 s) ∧ W.cell? ⟨w4.heap.size, 3, none⟩ = some (.int .i64 a) ∧ W.cell? ⟨w4.heap.size, 4, none⟩ = some (.int .i64 b) ∧ W.cell? ⟨w.heap.size, 3, none⟩ = some (.int .i64 p) ∧ W.cell? ⟨w.heap.size, 4, none⟩ = some (.int .u32 s) ∧ W.cell? ⟨w.heap.size, 5, none⟩ = some (.int .u32 s) ∧ W.cell? ⟨w.heap.size, 6, none⟩ = some (.int .i64 a) ∧ W.cell? ⟨w.heap.size, 7, none⟩ = some (.int .i64 b) ∧ Below w5.heap.size w5 W) (by kernel_rfl) (HS.out _ (Below.drew (Below.refl _ _))) (fun hHeld => ?_)
  refine wpAnyH_take (i := 0) (oi := { dst := some 31, op := Op.move (Operand.tmp 7), type := 4, pos := "keeps.go:59", after := #[], guard := none }) (v := ?_) rfl (by kernel_rfl) (by kernel_rfl) (by kernel_rfl) (fun _ _ _ h => h) (Or.inl ⟨by rfl, ?_⟩) hHeld ?_
  rotate_left
  · intro w hSw; (try dsimp only at hSw); go_simp; try with_reducible rfl
  try simp only [Act.put, List.setIfInBounds_toArray, List.set_cons_zero, List.set_cons_succ]
  refine wpAnyH_take (i := 1) (oi := { dst := some 32, op := Op.move (Operand.tmp 31), type := 4, pos := "keeps.go:59", after := #[{ on := 0, ground := Ground.data }], guard := none }) (v := ?_) rfl (by kernel_rfl) (by kernel_rfl) (by kernel_rfl) (fun _ _ _ h => h) (Or.inl ⟨by rfl, ?_⟩) hHeld ?_
  rotate_left
  · intro w hSw; (try dsimp only at hSw); go_simp; try with_reducible rfl
  try simp only [Act.put, List.setIfInBounds_toArray, List.set_cons_zero, List.set_cons_succ]
  refine wpAnyH_take (i := 2) (oi := { dst := some 33, op := Op.load 24 (Operand.tmp 8), type := 24, pos := "keeps.go:59", after := #[{ on := 1, ground := Ground.guard }], guard := some (1, true) }) (v := ?_) rfl (by kernel_rfl) (by kernel_rfl) (by kernel_rfl) (fun _ _ _ h => h) (Or.inl ⟨by rfl, ?_⟩) hHeld ?_
  rotate_left
  · intro w hSw; (try dsimp only at hSw); go_simp; try with_reducible rfl
  try simp only [Act.put, List.setIfInBounds_toArray, List.set_cons_zero, List.set_cons_succ]
  refine wpAnyH_take (i := 3) (oi := { dst := some 34, op := Op.load 24 (Operand.tmp 9), type := 24, pos := "keeps.go:59", after := #[{ on := 1, ground := Ground.guard }], guard := some (1, true) }) (v := ?_) rfl (by kernel_rfl) (by kernel_rfl) (by kernel_rfl) (fun _ _ _ h => h) (Or.inl ⟨by rfl, ?_⟩) hHeld ?_
  rotate_left
  · intro w hSw; (try dsimp only at hSw); go_simp; try with_reducible rfl
  try simp only [Act.put, List.setIfInBounds_toArray, List.set_cons_zero, List.set_cons_succ]
  refine wpAnyH_take (i := 4) (oi := { dst := some 35, op := Op.binOp BinOp.eql 24 (Operand.tmp 33) (Operand.tmp 34) 24, type := 4, pos := "keeps.go:59", after := #[{ on := 2, ground := Ground.data }, { on := 3, ground := Ground.data }, { on := 1, ground := Ground.guard }], guard := some (1, true) }) (v := ?_) rfl (by kernel_rfl) (by kernel_rfl) (by kernel_rfl) (fun _ _ _ h => h) (Or.inl ⟨by rfl, ?_⟩) hHeld ?_
  rotate_left
  · intro w hSw; (try dsimp only at hSw); go_simp; try with_reducible rfl
  try simp only [Act.put, List.setIfInBounds_toArray, List.set_cons_zero, List.set_cons_succ]
  refine wpAnyH_take (i := 5) (oi := { dst := some 36, op := Op.pick (Operand.tmp 32) (Operand.tmp 35) (Operand.const (Value.bool false)), type := 4, pos := "keeps.go:59", after := #[{ on := 1, ground := Ground.data }, { on := 4, ground := Ground.data }], guard := none }) (v := ?_) rfl (by kernel_rfl) (by kernel_rfl) (by kernel_rfl) (fun _ _ _ h => h) (Or.inl ⟨by rfl, ?_⟩) hHeld ?_
  rotate_left
  · intro w hSw; (try dsimp only at hSw); go_simp; try with_reducible rfl
  try simp only [Act.put, List.setIfInBounds_toArray, List.set_cons_zero, List.set_cons_succ]
  refine wpAnyH_take (i := 6) (oi := { dst := some 37, op := Op.move (Operand.tmp 36), type := 4, pos := "keeps.go:59", after := #[{ on := 5, ground := Ground.data }, { on := 1, ground := Ground.chain }], guard := none }) (v := ?_) rfl (by kernel_rfl) (by kernel_rfl) (by kernel_rfl) (fun _ _ _ h => h) (Or.inl ⟨by rfl, ?_⟩) hHeld ?_
  rotate_left
  · intro w hSw; (try dsimp only at hSw); go_simp; try with_reducible rfl
  try simp only [Act.put, List.setIfInBounds_toArray, List.set_cons_zero, List.set_cons_succ]
  refine wpAnyH_take (i := 7) (oi := { dst := some 38, op := Op.fieldAddr 24 (Operand.tmp 8) 0, type := 0, pos := "keeps.go:59", after := #[{ on := 6, ground := Ground.guard }], guard := some (6, true) }) (v := ?_) rfl (by kernel_rfl) (by kernel_rfl) (by kernel_rfl) (fun _ _ _ h => h) (Or.inl ⟨by rfl, ?_⟩) hHeld ?_
  rotate_left
  · intro w hSw; (try dsimp only at hSw); go_simp; try with_reducible rfl
  try simp only [Act.put, List.setIfInBounds_toArray, List.set_cons_zero, List.set_cons_succ]
  refine wpAnyH_take (i := 8) (oi := { dst := some 39, op := Op.load 3 (Operand.tmp 38), type := 3, pos := "keeps.go:59", after := #[{ on := 7, ground := Ground.data }, { on := 6, ground := Ground.guard }], guard := some (6, true) }) (v := ?_) rfl (by kernel_rfl) (by kernel_rfl) (by kernel_rfl) (fun _ _ _ h => h) (Or.inl ⟨by rfl, ?_⟩) hHeld ?_
  rotate_left
  · intro w hSw; (try dsimp only at hSw); go_simp; try with_reducible rfl
  try simp only [Act.put, List.setIfInBounds_toArray, List.set_cons_zero, List.set_cons_succ]
  refine wpAnyH_take (i := 9) (oi := { dst := some 40, op := Op.fieldAddr 37 (Operand.tmp 3) 3, type := 0, pos := "keeps.go:59", after := #[{ on := 6, ground := Ground.guard }], guard := some (6, true) }) (v := ?_) rfl (by kernel_rfl) (by kernel_rfl) (by kernel_rfl) (fun _ _ _ h => h) (Or.inl ⟨by rfl, ?_⟩) hHeld ?_
  rotate_left
  · intro w hSw; (try dsimp only at hSw); go_simp; try with_reducible rfl
  try simp only [Act.put, List.setIfInBounds_toArray, List.set_cons_zero, List.set_cons_succ]
  refine wpAnyH_take (i := 10) (oi := { dst := some 41, op := Op.fieldAddr 24 (Operand.tmp 40) 0, type := 0, pos := "keeps.go:59", after := #[{ on := 9, ground := Ground.data }, { on := 6, ground := Ground.guard }], guard := some (6, true) }) (v := ?_) rfl (by kernel_rfl) (by kernel_rfl) (by kernel_rfl) (fun _ _ _ h => h) (Or.inl ⟨by rfl, ?_⟩) hHeld ?_
  rotate_left
  · intro w hSw; (try dsimp only at hSw); go_simp; try with_reducible rfl
  try simp only [Act.put, List.setIfInBounds_toArray, List.set_cons_zero, List.set_cons_succ]
  refine wpAnyH_take (i := 11) (oi := { dst := some 42, op := Op.load 3 (Operand.tmp 41), type := 3, pos := "keeps.go:59", after := #[{ on := 10, ground := Ground.data }, { on := 6, ground := Ground.guard }], guard := some (6, true) }) (v := ?_) rfl (by kernel_rfl) (by kernel_rfl) (by kernel_rfl) (fun _ _ _ h => h) (Or.inl ⟨by rfl, ?_⟩) hHeld ?_
  rotate_left
  · intro w hSw; (try dsimp only at hSw); go_simp; try with_reducible rfl
  try simp only [Act.put, List.setIfInBounds_toArray, List.set_cons_zero, List.set_cons_succ]
  refine wpAnyH_take (i := 12) (oi := { dst := some 43, op := Op.binOp BinOp.eql 3 (Operand.tmp 39) (Operand.tmp 42) 3, type := 4, pos := "keeps.go:59", after := #[{ on := 8, ground := Ground.data }, { on := 11, ground := Ground.data }, { on := 6, ground := Ground.guard }], guard := some (6, true) }) (v := ?_) rfl (by kernel_rfl) (by kernel_rfl) (by kernel_rfl) (fun _ _ _ h => h) (Or.inl ⟨by rfl, ?_⟩) hHeld ?_
  rotate_left
  · intro w hSw; (try dsimp only at hSw); go_simp; try with_reducible rfl
  try simp only [Act.put, List.setIfInBounds_toArray, List.set_cons_zero, List.set_cons_succ]
  refine wpAnyH_take (i := 13) (oi := { dst := some 44, op := Op.pick (Operand.tmp 37) (Operand.tmp 43) (Operand.const (Value.bool false)), type := 4, pos := "keeps.go:59", after := #[{ on := 6, ground := Ground.data }, { on := 12, ground := Ground.data }], guard := none }) (v := ?_) rfl (by kernel_rfl) (by kernel_rfl) (by kernel_rfl) (fun _ _ _ h => h) (Or.inl ⟨by rfl, ?_⟩) hHeld ?_
  rotate_left
  · intro w hSw; (try dsimp only at hSw); go_simp; try with_reducible rfl
  try simp only [Act.put, List.setIfInBounds_toArray, List.set_cons_zero, List.set_cons_succ]
  refine wpAnyH_take (i := 14) (oi := { dst := some 45, op := Op.move (Operand.tmp 44), type := 4, pos := "keeps.go:59", after := #[{ on := 13, ground := Ground.data }, { on := 6, ground := Ground.chain }], guard := none }) (v := ?_) rfl (by kernel_rfl) (by kernel_rfl) (by kernel_rfl) (fun _ _ _ h => h) (Or.inl ⟨by rfl, ?_⟩) hHeld ?_
  rotate_left
  · intro w hSw; (try dsimp only at hSw); go_simp; try with_reducible rfl
  try simp only [Act.put, List.setIfInBounds_toArray, List.set_cons_zero, List.set_cons_succ]
  refine wpAnyH_take (i := 15) (oi := { dst := some 46, op := Op.load 24 (Operand.tmp 10), type := 24, pos := "keeps.go:59", after := #[{ on := 14, ground := Ground.guard }], guard := some (14, true) }) (v := ?_) rfl (by kernel_rfl) (by kernel_rfl) (by kernel_rfl) (fun _ _ _ h => h) (Or.inl ⟨by rfl, ?_⟩) hHeld ?_
  rotate_left
  · intro w hSw; (try dsimp only at hSw); go_simp; try with_reducible rfl
  try simp only [Act.put, List.setIfInBounds_toArray, List.set_cons_zero, List.set_cons_succ]
  refine wpAnyH_take (i := 16) (oi := { dst := some 47, op := Op.load 24 (Operand.tmp 8), type := 24, pos := "keeps.go:59", after := #[{ on := 14, ground := Ground.guard }], guard := some (14, true) }) (v := ?_) rfl (by kernel_rfl) (by kernel_rfl) (by kernel_rfl) (fun _ _ _ h => h) (Or.inl ⟨by rfl, ?_⟩) hHeld ?_
  rotate_left
  · intro w hSw; (try dsimp only at hSw); go_simp; try with_reducible rfl
  try simp only [Act.put, List.setIfInBounds_toArray, List.set_cons_zero, List.set_cons_succ]
  refine wpAnyH_ready (rs := [17]) (by kernel_rfl) (by simp) ?_
  refine AllReadyH.cons (o := { dst := some 48, op := Op.call { callee := Callee.value (Operand.func 11), args := #[Operand.tmp 47], argTypes := #[24] }, type := 24, pos := "keeps.go:59", after := #[{ on := 16, ground := Ground.data }, { on := 14, ground := Ground.chain }, { on := 14, ground := Ground.guard }], guard := some (14, true) }) rfl (fun K hK => ?_) AllReadyH.nil
  go_simp
  refine (rev_c _ _ _ _ _ _).mono ?_
  rintro e wR ⟨rfl, hR1⟩
  have hz1 : w5.heap.size ≤ wR.heap.size := (by have q := hR1.size; exact q)
  go_simp
  refine hK.out _ _ (HS.out _ (Below.trans (Below.drew (Below.refl _ _)) hR1)) (fun hHeld2 => ?_)
  clear hK K hHeld
  have hHeld := hHeld2
  clear hHeld2
  try simp only [Act.put, List.setIfInBounds_toArray, List.set_cons_zero, List.set_cons_succ]
  refine wpAnyH_take (i := 18) (oi := { dst := some 49, op := Op.binOp BinOp.eql 24 (Operand.tmp 46) (Operand.tmp 48) 24, type := 4, pos := "keeps.go:59", after := #[{ on := 15, ground := Ground.data }, { on := 17, ground := Ground.data }, { on := 14, ground := Ground.guard }], guard := some (14, true) }) (v := ?_) rfl (by kernel_rfl) (by kernel_rfl) (by kernel_rfl) (fun _ _ _ h => h) (Or.inl ⟨by rfl, ?_⟩) hHeld ?_
  rotate_left
  · intro w hSw; (try dsimp only at hSw); go_simp; try with_reducible rfl
  try simp only [Act.put, List.setIfInBounds_toArray, List.set_cons_zero, List.set_cons_succ]
  refine wpAnyH_take (i := 19) (oi := { dst := some 50, op := Op.pick (Operand.tmp 45) (Operand.tmp 49) (Operand.const (Value.bool false)), type := 4, pos := "keeps.go:59", after := #[{ on := 14, ground := Ground.data }, { on := 18, ground := Ground.data }], guard := none }) (v := ?_) rfl (by kernel_rfl) (by kernel_rfl) (by kernel_rfl) (fun _ _ _ h => h) (Or.inl ⟨by rfl, ?_⟩) hHeld ?_
  rotate_left
  · intro w hSw; (try dsimp only at hSw); go_simp; try with_reducible rfl
  try simp only [Act.put, List.setIfInBounds_toArray, List.set_cons_zero, List.set_cons_succ]
  refine wpAnyH_take (i := 20) (oi := { dst := some 51, op := Op.move (Operand.tmp 50), type := 4, pos := "keeps.go:59", after := #[{ on := 19, ground := Ground.data }, { on := 17, ground := Ground.chain }], guard := none }) (v := ?_) rfl (by kernel_rfl) (by kernel_rfl) (by kernel_rfl) (fun _ _ _ h => h) (Or.inl ⟨by rfl, ?_⟩) hHeld ?_
  rotate_left
  · intro w hSw; (try dsimp only at hSw); go_simp; try with_reducible rfl
  try simp only [Act.put, List.setIfInBounds_toArray, List.set_cons_zero, List.set_cons_succ]
  refine wpAnyH_take (i := 21) (oi := { dst := some 52, op := Op.load 24 (Operand.tmp 8), type := 24, pos := "keeps.go:59", after := #[{ on := 20, ground := Ground.guard }], guard := some (20, true) }) (v := ?_) rfl (by kernel_rfl) (by kernel_rfl) (by kernel_rfl) (fun _ _ _ h => h) (Or.inl ⟨by rfl, ?_⟩) hHeld ?_
  rotate_left
  · intro w hSw; (try dsimp only at hSw); go_simp; try with_reducible rfl
  try simp only [Act.put, List.setIfInBounds_toArray, List.set_cons_zero, List.set_cons_succ]
  refine wpAnyH_take (i := 22) (oi := { dst := some 53, op := Op.fieldAddr 37 (Operand.tmp 3) 3, type := 0, pos := "keeps.go:59", after := #[{ on := 20, ground := Ground.guard }], guard := some (20, true) }) (v := ?_) rfl (by kernel_rfl) (by kernel_rfl) (by kernel_rfl) (fun _ _ _ h => h) (Or.inl ⟨by rfl, ?_⟩) hHeld ?_
  rotate_left
  · intro w hSw; (try dsimp only at hSw); go_simp; try with_reducible rfl
  try simp only [Act.put, List.setIfInBounds_toArray, List.set_cons_zero, List.set_cons_succ]
  refine wpAnyH_take (i := 23) (oi := { dst := some 54, op := Op.load 24 (Operand.tmp 53), type := 24, pos := "keeps.go:59", after := #[{ on := 22, ground := Ground.data }, { on := 20, ground := Ground.guard }], guard := some (20, true) }) (v := ?_) rfl (by kernel_rfl) (by kernel_rfl) (by kernel_rfl) (fun _ _ _ h => h) (Or.inl ⟨by rfl, ?_⟩) hHeld ?_
  rotate_left
  · intro w hSw; (try dsimp only at hSw); go_simp; try with_reducible rfl
  try simp only [Act.put, List.setIfInBounds_toArray, List.set_cons_zero, List.set_cons_succ]
  refine wpAnyH_take (i := 24) (oi := { dst := some 55, op := Op.binOp BinOp.eql 24 (Operand.tmp 52) (Operand.tmp 54) 24, type := 4, pos := "keeps.go:59", after := #[{ on := 21, ground := Ground.data }, { on := 23, ground := Ground.data }, { on := 20, ground := Ground.guard }], guard := some (20, true) }) (v := ?_) rfl (by kernel_rfl) (by kernel_rfl) (by kernel_rfl) (fun _ _ _ h => h) (Or.inl ⟨by rfl, ?_⟩) hHeld ?_
  rotate_left
  · intro w hSw; (try dsimp only at hSw); go_simp; try with_reducible rfl
  try simp only [Act.put, List.setIfInBounds_toArray, List.set_cons_zero, List.set_cons_succ]
  refine wpAnyH_take (i := 25) (oi := { dst := some 56, op := Op.move (Operand.tmp 1), type := 4, pos := "keeps.go:59", after := #[{ on := 20, ground := Ground.guard }], guard := some (20, true) }) (v := ?_) rfl (by kernel_rfl) (by kernel_rfl) (by kernel_rfl) (fun _ _ _ h => h) (Or.inl ⟨by rfl, ?_⟩) hHeld ?_
  rotate_left
  · intro w hSw; (try dsimp only at hSw); go_simp; try with_reducible rfl
  try simp only [Act.put, List.setIfInBounds_toArray, List.set_cons_zero, List.set_cons_succ]
  refine wpAnyH_take (i := 26) (oi := { dst := some 57, op := Op.move (Operand.tmp 2), type := 4, pos := "keeps.go:59", after := #[{ on := 20, ground := Ground.guard }], guard := some (20, true) }) (v := ?_) rfl (by kernel_rfl) (by kernel_rfl) (by kernel_rfl) (fun _ _ _ h => h) (Or.inl ⟨by rfl, ?_⟩) hHeld ?_
  rotate_left
  · intro w hSw; (try dsimp only at hSw); go_simp; try with_reducible rfl
  try simp only [Act.put, List.setIfInBounds_toArray, List.set_cons_zero, List.set_cons_succ]
  refine wpAnyH_take (i := 27) (oi := { dst := some 58, op := Op.binOp BinOp.eql 4 (Operand.tmp 56) (Operand.tmp 57) 4, type := 4, pos := "keeps.go:59", after := #[{ on := 25, ground := Ground.data }, { on := 26, ground := Ground.data }, { on := 20, ground := Ground.guard }], guard := some (20, true) }) (v := ?_) rfl (by kernel_rfl) (by kernel_rfl) (by kernel_rfl) (fun _ _ _ h => h) (Or.inl ⟨by rfl, ?_⟩) hHeld ?_
  rotate_left
  · intro w hSw; (try dsimp only at hSw); go_simp; try with_reducible rfl
  try simp only [Act.put, List.setIfInBounds_toArray, List.set_cons_zero, List.set_cons_succ]
  refine wpAnyH_take (i := 28) (oi := { dst := some 59, op := Op.move (Operand.tmp 58), type := 4, pos := "keeps.go:59", after := #[{ on := 27, ground := Ground.data }, { on := 20, ground := Ground.chain }, { on := 20, ground := Ground.guard }], guard := some (20, true) }) (v := ?_) rfl (by kernel_rfl) (by kernel_rfl) (by kernel_rfl) (fun _ _ _ h => h) (Or.inl ⟨by rfl, ?_⟩) hHeld ?_
  rotate_left
  · intro w hSw; (try dsimp only at hSw); go_simp; try with_reducible rfl
  try simp only [Act.put, List.setIfInBounds_toArray, List.set_cons_zero, List.set_cons_succ]
  refine wpAnyH_take (i := 29) (oi := { dst := some 60, op := Op.fieldAddr 37 (Operand.tmp 3) 3, type := 0, pos := "keeps.go:59", after := #[{ on := 28, ground := Ground.guard }], guard := some (28, false) }) (v := ?_) rfl (by kernel_rfl) (by kernel_rfl) (by kernel_rfl) (fun _ _ _ h => h) (Or.inl ⟨by rfl, ?_⟩) hHeld ?_
  rotate_left
  · intro w hSw; (try dsimp only at hSw); go_simp; try with_reducible rfl
  try simp only [Act.put, List.setIfInBounds_toArray, List.set_cons_zero, List.set_cons_succ]
  refine wpAnyH_take (i := 30) (oi := { dst := some 61, op := Op.load 24 (Operand.tmp 60), type := 24, pos := "keeps.go:59", after := #[{ on := 29, ground := Ground.data }, { on := 28, ground := Ground.guard }], guard := some (28, false) }) (v := ?_) rfl (by kernel_rfl) (by kernel_rfl) (by kernel_rfl) (fun _ _ _ h => h) (Or.inl ⟨by rfl, ?_⟩) hHeld ?_
  rotate_left
  · intro w hSw; (try dsimp only at hSw); go_simp; try with_reducible rfl
  try simp only [Act.put, List.setIfInBounds_toArray, List.set_cons_zero, List.set_cons_succ]
  refine wpAnyH_take (i := 31) (oi := { dst := some 62, op := Op.fieldAddr 37 (Operand.tmp 3) 3, type := 0, pos := "keeps.go:59", after := #[{ on := 28, ground := Ground.guard }], guard := some (28, false) }) (v := ?_) rfl (by kernel_rfl) (by kernel_rfl) (by kernel_rfl) (fun _ _ _ h => h) (Or.inl ⟨by rfl, ?_⟩) hHeld ?_
  rotate_left
  · intro w hSw; (try dsimp only at hSw); go_simp; try with_reducible rfl
  try simp only [Act.put, List.setIfInBounds_toArray, List.set_cons_zero, List.set_cons_succ]
  refine wpAnyH_take (i := 32) (oi := { dst := some 63, op := Op.load 24 (Operand.tmp 62), type := 24, pos := "keeps.go:59", after := #[{ on := 31, ground := Ground.data }, { on := 28, ground := Ground.guard }], guard := some (28, false) }) (v := ?_) rfl (by kernel_rfl) (by kernel_rfl) (by kernel_rfl) (fun _ _ _ h => h) (Or.inl ⟨by rfl, ?_⟩) hHeld ?_
  rotate_left
  · intro w hSw; (try dsimp only at hSw); go_simp; try with_reducible rfl
  try simp only [Act.put, List.setIfInBounds_toArray, List.set_cons_zero, List.set_cons_succ]
  refine wpAnyH_ready (rs := [33]) (by kernel_rfl) (by simp) ?_
  refine AllReadyH.cons (o := { dst := some 64, op := Op.call { callee := Callee.value (Operand.func 11), args := #[Operand.tmp 63], argTypes := #[24] }, type := 24, pos := "keeps.go:59", after := #[{ on := 32, ground := Ground.data }, { on := 28, ground := Ground.chain }, { on := 28, ground := Ground.guard }], guard := some (28, false) }) rfl (fun K hK => ?_) AllReadyH.nil
  go_simp
  refine (rev_c _ _ _ _ _ _).mono ?_
  rintro e wT ⟨rfl, hR2⟩
  skip
  go_simp
  refine hK.out _ _ (HS.out _ (Below.trans (Below.trans (Below.drew (Below.refl _ _)) hR1) (Below.mono hR2 hz1))) (fun hHeld2 => ?_)
  clear hK K hHeld
  have hHeld := hHeld2
  clear hHeld2
  try simp only [Act.put, List.setIfInBounds_toArray, List.set_cons_zero, List.set_cons_succ]
  refine wpAnyH_take (i := 34) (oi := { dst := some 65, op := Op.binOp BinOp.eql 24 (Operand.tmp 61) (Operand.tmp 64) 24, type := 4, pos := "keeps.go:59", after := #[{ on := 30, ground := Ground.data }, { on := 33, ground := Ground.data }, { on := 28, ground := Ground.guard }], guard := some (28, false) }) (v := ?_) rfl (by kernel_rfl) (by kernel_rfl) (by kernel_rfl) (fun _ _ _ h => h) (Or.inl ⟨by rfl, ?_⟩) hHeld ?_
  rotate_left
  · intro w hSw; (try dsimp only at hSw); go_simp; try with_reducible rfl
  try simp only [Act.put, List.setIfInBounds_toArray, List.set_cons_zero, List.set_cons_succ]
  refine wpAnyH_take (i := 35) (oi := { dst := some 66, op := Op.pick (Operand.tmp 59) (Operand.const (Value.bool true)) (Operand.tmp 65), type := 4, pos := "keeps.go:59", after := #[{ on := 28, ground := Ground.data }, { on := 34, ground := Ground.data }, { on := 20, ground := Ground.guard }], guard := some (20, true) }) (v := ?_) rfl (by kernel_rfl) (by kernel_rfl) (by kernel_rfl) (fun _ _ _ h => h) (Or.inl ⟨by rfl, ?_⟩) hHeld ?_
  rotate_left
  · intro w hSw; (try dsimp only at hSw); go_simp; try with_reducible rfl
  try simp only [Act.put, List.setIfInBounds_toArray, List.set_cons_zero, List.set_cons_succ]
  refine wpAnyH_take (i := 36) (oi := { dst := some 67, op := Op.binOp BinOp.eql 4 (Operand.tmp 55) (Operand.tmp 66) 4, type := 4, pos := "keeps.go:59", after := #[{ on := 24, ground := Ground.data }, { on := 35, ground := Ground.data }, { on := 20, ground := Ground.guard }], guard := some (20, true) }) (v := ?_) rfl (by kernel_rfl) (by kernel_rfl) (by kernel_rfl) (fun _ _ _ h => h) (Or.inl ⟨by rfl, ?_⟩) hHeld ?_
  rotate_left
  · intro w hSw; (try dsimp only at hSw); go_simp; try with_reducible rfl
  try simp only [Act.put, List.setIfInBounds_toArray, List.set_cons_zero, List.set_cons_succ]
  refine wpAnyH_take (i := 37) (oi := { dst := some 68, op := Op.pick (Operand.tmp 51) (Operand.tmp 67) (Operand.const (Value.bool false)), type := 4, pos := "keeps.go:59", after := #[{ on := 20, ground := Ground.data }, { on := 36, ground := Ground.data }], guard := none }) (v := ?_) rfl (by kernel_rfl) (by kernel_rfl) (by kernel_rfl) (fun _ _ _ h => h) (Or.inl ⟨by rfl, ?_⟩) hHeld ?_
  rotate_left
  · intro w hSw; (try dsimp only at hSw); go_simp; try with_reducible rfl
  try simp only [Act.put, List.setIfInBounds_toArray, List.set_cons_zero, List.set_cons_succ]
  refine wpAnyH_take (i := 38) (oi := { dst := some 6, op := Op.assign (Operand.tmp 68), type := 4, pos := "keeps.go:59", after := #[{ on := 37, ground := Ground.data }, { on := 33, ground := Ground.chain }, { on := 0, ground := Ground.phase }, { on := 1, ground := Ground.phase }, { on := 2, ground := Ground.phase }, { on := 3, ground := Ground.phase }, { on := 4, ground := Ground.phase }, { on := 5, ground := Ground.phase }, { on := 6, ground := Ground.phase }, { on := 7, ground := Ground.phase }, { on := 8, ground := Ground.phase }, { on := 9, ground := Ground.phase }, { on := 10, ground := Ground.phase }, { on := 11, ground := Ground.phase }, { on := 12, ground := Ground.phase }, { on := 13, ground := Ground.phase }, { on := 14, ground := Ground.phase }, { on := 15, ground := Ground.phase }, { on := 16, ground := Ground.phase }, { on := 17, ground := Ground.phase }, { on := 18, ground := Ground.phase }, { on := 19, ground := Ground.phase }, { on := 20, ground := Ground.phase }, { on := 21, ground := Ground.phase }, { on := 22, ground := Ground.phase }, { on := 23, ground := Ground.phase }, { on := 24, ground := Ground.phase }, { on := 25, ground := Ground.phase }, { on := 26, ground := Ground.phase }, { on := 27, ground := Ground.phase }, { on := 28, ground := Ground.phase }, { on := 29, ground := Ground.phase }, { on := 30, ground := Ground.phase }, { on := 31, ground := Ground.phase }, { on := 32, ground := Ground.phase }, { on := 33, ground := Ground.phase }, { on := 34, ground := Ground.phase }, { on := 35, ground := Ground.phase }, { on := 36, ground := Ground.phase }, { on := 37, ground := Ground.phase }], guard := none }) (v := ?_) rfl (by kernel_rfl) (by kernel_rfl) (by kernel_rfl) (fun _ _ _ h => h) (Or.inl ⟨by rfl, ?_⟩) hHeld ?_
  rotate_left
  · intro w hSw; (try dsimp only at hSw); go_simp; try with_reducible rfl
  try simp only [Act.put, List.setIfInBounds_toArray, List.set_cons_zero, List.set_cons_succ]
  refine wpAnyH_done (by kernel_rfl) ?_ _
  have hb6 := hb5.trans (Below.mono (Below.trans (Below.trans (Below.drew (Below.refl _ _)) hR1) (Below.mono hR2 hz1)) hb5.size)
  clear hHeld HS A5 N5 M5 O5
  go_wp2
  go_ret
  exact ⟨rfl, hb6⟩

end Go.Proofs.Ytabekppniampmaa
