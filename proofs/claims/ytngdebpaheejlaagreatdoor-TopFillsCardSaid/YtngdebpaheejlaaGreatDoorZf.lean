/- The program's TCP headers (chapter 5): Parse, of the one segment that is asked for; ends, Classify of it. The one TCP frame: ends, Classify. The ends of a flow's packet (chapter 21): Plain, Name. A packet with other ends (chapter 10): its length, and what Fill needs of it. A packet that is turned (chapter 10): open, Plain. A client's packet with other ends (chapter 10): Plain. -/
import Derived.Test.YtngdebpaheejlaaGreatDoorZe
import Derived.Test.YtngdebpaheejlaaGreatDoorZc
import Derived.BigRegion
import Derived.Deep.QuietTactic
import Derived.BigQuiet
import Derived.Deep.RegionWith
import Derived.Deep.RegionHeld3
namespace Go.Proofs.YtngdebpaheejlaaGreatDoor
open Go.RowKit Go.Shelf
set_option linter.unusedSimpArgs false
set_option linter.unusedVariables false
attribute [local go_sem] bs_app bs_size bs_bt bs_extract numB_len zz_bs z_bs e_bs
theorem topts_c (w : World) : Calls Tryz.prog 168 #[.string (bs [])] w fun e w' => e = .returned (.bool true) ∧ w = w' := by
  have hn := nil_list
  go_enter Tryz.func168, Tryz.ntmps168
  go_wp2_with fail
  go_loopw [3] (fun i wr => i = .int .i64 0 ∧ w = wr) (fun i _ => 0)
  case atStart => exact ⟨rfl, rfl⟩
  case round =>
    obtain ⟨rfl, rfl⟩ := hrel
    go_wp2_with fail
    go_ret
    exact ⟨rfl, rfl⟩
/-- The one segment. -/
def tl : List Nat := segT 10 100 1 80 2
theorem tl_byt : Byt tl := segT_byt _ _ _ _ _
theorem tl_len : tl.length = 20 := segT_len _ _ _ _ _
theorem tl_12 : bt tl 12 = 80 := by decide +kernel
theorem tl_v : valAt tl 0 2 = 1 ∧ valAt tl 2 2 = 80 ∧ valAt tl 4 4 = 7 ∧ valAt tl 8 4 = 0 ∧ valAt tl 12 2 = 20482 ∧ valAt tl 14 2 = 9 ∧ valAt tl 18 2 = 0 := by decide +kernel
theorem zero275 (W : World) : (zeroValue 275).run Tryz.prog W = .ok (.agg #[.int .i64 0, .int .i64 0, .int .u32 0, .int .u32 0, .int .i64 0, .int .i64 0, .int .i64 0, .string (bs [])]) W := by kernel_rfl
/-- A TCP header that is being read. -/
def hA : Nat → Array Value
  | 0 => #[.int .i64 0, .int .i64 0, .int .u32 0, .int .u32 0, .int .i64 0, .int .i64 0, .int .i64 0, .string (bs [])]
  | 1 => #[.int .i64 1, .int .i64 0, .int .u32 0, .int .u32 0, .int .i64 0, .int .i64 0, .int .i64 0, .string (bs [])]
  | 2 => #[.int .i64 1, .int .i64 80, .int .u32 0, .int .u32 0, .int .i64 0, .int .i64 0, .int .i64 0, .string (bs [])]
  | 3 => #[.int .i64 1, .int .i64 80, .int .u32 0, .int .u32 0, .int .i64 0, .int .i64 0, .int .i64 0, .string (bs [])]
  | 4 => #[.int .i64 1, .int .i64 80, .int .u32 0, .int .u32 0, .int .i64 0, .int .i64 0, .int .i64 0, .string (bs [])]
  | 5 => #[.int .i64 1, .int .i64 80, .int .u32 0, .int .u32 0, .int .i64 20482, .int .i64 0, .int .i64 0, .string (bs [])]
  | _ => #[.int .i64 1, .int .i64 80, .int .u32 0, .int .u32 0, .int .i64 20482, .int .i64 9, .int .i64 0, .string (bs [])]
def sA : Nat → Int
  | 0 => 0
  | 1 => 0
  | 2 => 0
  | _ => 7
def atA : Nat → Int
  | 0 => 0
  | 1 => 2
  | 2 => 4
  | 3 => 8
  | 4 => 12
  | 5 => 14
  | _ => 16
def rowP (n : Nat) : Array Value := #[.pointer (some ⟨n, 0, none⟩), .int .i64 2, .pointer (some ⟨n, 1, none⟩), .int .i64 2, .pointer (some ⟨n + 1, 0, none⟩), .int .i64 4, .pointer (some ⟨n + 2, 0, none⟩), .int .i64 4, .pointer (some ⟨n, 4, none⟩), .int .i64 2, .pointer (some ⟨n, 5, none⟩), .int .i64 2]
set_option maxRecDepth 100000 in
set_option maxHeartbeats 3200000 in
theorem tparse_c (w : World) :
    Calls Tryz.prog 123 #[.string (bs tl)] w fun e w' => e = .returned (.tuple #[.agg #[.int .i64 1, .int .i64 80, .int .u32 7, .int .u32 0, .int .i64 2, .int .i64 9, .int .i64 0, .string (bs [])], .string (bs []), .int .i64 0]) ∧ Below w.heap.size w w' := by
  have hB := Lib.hid tl_byt
  have hbt : ∀ h, ((bs tl)[12]'h).toNat = 80 := fun h => by rw [bs_bt tl_byt, tl_12]
  have hl := tl_len
  have hz := zero275
  have hd0 : (tl.take 20).drop 20 = [] := by apply List.drop_eq_nil_of_le; simp [tl_len]
  have hd1 : tl.drop 20 = [] := by apply List.drop_eq_nil_of_le; simp [tl_len]
  have HG := Lib.hid (fun a s v (h1 : 1 ≤ s) (h2 : s ≤ 4) (hx : a + s ≤ tl.length) (hv : valAt tl a s = v) (W : World) => show Calls Tryz.prog 109 #[.string (bs tl), .int .i64 a, .int .i64 s] W fun e w' => e = .returned (.tuple #[.int .i64 (v : Nat), .bool true]) ∧ Below W.heap.size W w' by rw [← hv]; exact pget_c tl tl_byt a s h1 h2 (by rw [tl_len]; decide) hx W)
  have G0 := Lib.hid (HG.out 0 2 1 (by decide) (by decide) (by rw [tl_len]; decide) tl_v.1)
  have G1 := Lib.hid (HG.out 2 2 80 (by decide) (by decide) (by rw [tl_len]; decide) tl_v.2.1)
  have G2 := Lib.hid (HG.out 4 4 7 (by decide) (by decide) (by rw [tl_len]; decide) tl_v.2.2.1)
  have G3 := Lib.hid (HG.out 8 4 0 (by decide) (by decide) (by rw [tl_len]; decide) tl_v.2.2.2.1)
  have G4 := Lib.hid (HG.out 12 2 20482 (by decide) (by decide) (by rw [tl_len]; decide) tl_v.2.2.2.2.1)
  have G5 := Lib.hid (HG.out 14 2 9 (by decide) (by decide) (by rw [tl_len]; decide) tl_v.2.2.2.2.2.1)
  have G6 := Lib.hid (HG.out 18 2 0 (by decide) (by decide) (by rw [tl_len]; decide) tl_v.2.2.2.2.2.2)
  go_enter Tryz.func123, Tryz.ntmps123
  go_wp2_with fail
  refine (topts_c _).mono ?_
  rintro e w' ⟨rfl, rfl⟩
  go_wp2_with fail
  obtain ⟨n, hn⟩ : ∃ n, w.heap.size = n := ⟨_, rfl⟩
  rw [hn]
  have hH0 : Has ((((w.alloc (.cells (hA 0) 275)).alloc (.cells #[.int .i64 0] 3)).alloc (.cells #[.int .i64 0] 3)).alloc (.cells (rowP n) 317)) n 275 (hA 0) := (((has_at (w := w) (xs := hA 0) (t := 275) (b := n) hn.symm).alloc _).alloc _).alloc _
  have hS0 : Has ((((w.alloc (.cells (hA 0) 275)).alloc (.cells #[.int .i64 0] 3)).alloc (.cells #[.int .i64 0] 3)).alloc (.cells (rowP n) 317)) (n + 1) 3 #[.int .i64 0] := ((has_at (w := w.alloc (.cells (hA 0) 275)) (xs := #[.int .i64 0]) (t := 3) (b := n + 1) (by simp [hn])).alloc (.cells #[.int .i64 0] 3)).alloc (.cells (rowP n) 317)
  have hK0 : Has ((((w.alloc (.cells (hA 0) 275)).alloc (.cells #[.int .i64 0] 3)).alloc (.cells #[.int .i64 0] 3)).alloc (.cells (rowP n) 317)) (n + 2) 3 #[.int .i64 0] := (has_at (w := (w.alloc (.cells (hA 0) 275)).alloc (.cells #[.int .i64 0] 3)) (xs := #[.int .i64 0]) (t := 3) (b := n + 2) (by simp [hn])).alloc (.cells (rowP n) 317)
  have hR0 : Has ((((w.alloc (.cells (hA 0) 275)).alloc (.cells #[.int .i64 0] 3)).alloc (.cells #[.int .i64 0] 3)).alloc (.cells (rowP n) 317)) (n + 3) 317 (rowP n) := (has_at (w := ((w.alloc (.cells (hA 0) 275)).alloc (.cells #[.int .i64 0] 3)).alloc (.cells #[.int .i64 0] 3)) (xs := rowP n) (t := 317) (b := n + 3) (by simp [hn]))
  have B0 : Below n w ((((w.alloc (.cells (hA 0) 275)).alloc (.cells #[.int .i64 0] 3)).alloc (.cells #[.int .i64 0] 3)).alloc (.cells (rowP n) 317)) := by
    exact ((((Below.refl _ _).alloc (by omega) _).alloc (by simp; omega) _).alloc (by simp; omega) _).alloc (by simp; omega) _
  go_loopw [8, 49] (fun a i wr => ∃ j : Nat, j ≤ 6 ∧ i = .int .i64 j ∧ a = .int .i64 (atA j) ∧ Has wr n 275 (hA j) ∧ Has wr (n + 1) 3 #[.int .i64 (sA j)] ∧ Has wr (n + 2) 3 #[.int .i64 0] ∧ Has wr (n + 3) 317 (rowP n) ∧ Below n w wr) (fun _ i _ => 6 - (intOf i).toNat)
  case atStart => exact ⟨0, by omega, rfl, rfl, hH0, hS0, hK0, hR0, B0⟩
  case round =>
    obtain ⟨j, hj, rfl, rfl, hH, hS, hK, hR, hb⟩ := hrel
    clear hH0 hS0 hK0 hR0 B0
    have hz := hR.lt
    rcases (show j = 0 ∨ j = 1 ∨ j = 2 ∨ j = 3 ∨ j = 4 ∨ j = 5 ∨ j = 6 by omega) with rfl | rfl | rfl | rfl | rfl | rfl | rfl
    · have c0 := hR.cell 0
      have c1 := hR.cell 1
      simp [rowP] at c0 c1
      simp only [atA, sA, hA] at *
      go_wp2_with fail
      have hX := Has.new wr #[.pointer (some ⟨n, 0, none⟩), .int .i64 2] 317
      have hH1 := hH.alloc (.cells #[.pointer (some ⟨n, 0, none⟩), .int .i64 2] 317)
      have hS1 := hS.alloc (.cells #[.pointer (some ⟨n, 0, none⟩), .int .i64 2] 317)
      have hK1 := hK.alloc (.cells #[.pointer (some ⟨n, 0, none⟩), .int .i64 2] 317)
      have hR1 := hR.alloc (.cells #[.pointer (some ⟨n, 0, none⟩), .int .i64 2] 317)
      obtain ⟨w1, hw1⟩ : ∃ w1, w1 = wr.alloc (.cells #[.pointer (some ⟨n, 0, none⟩), .int .i64 2] 317) := ⟨_, rfl⟩
      rw [← hw1] at hX hH1 hS1 hK1 hR1
      have hb1 : Hid (Below n w w1) := by show Below n w w1; rw [hw1]; exact hb.alloc (by have := hb.size; omega) _
      have hs1 : w1.heap.size = wr.heap.size + 1 := by rw [hw1]; simp
      have x0 : ∀ V : Gr w1, V.1.cell? ⟨wr.heap.size, 0, none⟩ = some (.pointer (some ⟨n, 0, none⟩)) := fun V => (V.has hX).cell 0
      have x1 : ∀ V : Gr w1, V.1.cell? ⟨wr.heap.size, 1, none⟩ = some (.int .i64 2) := fun V => (V.has hX).cell 1
      rw [← hw1]
      refine wp_region_grows_mid 11 (by kernel_rfl) (by kernel_rfl) ?_
      simp only [List.take_succ_cons, List.take_zero, List.drop_succ_cons, List.drop_zero]
      repeat (go_big_quiet_step (first | (go_at_call 109; exact grows_call _ (G0.out _))))
      refine wpQuiet_nil ?_
      intro V
      have y0 := (V.has hH1).cell 0
      have z0 := (V.has hH1).free 0
      simp at y0
      go_wp2_with fail
      rename_i hK9
      refine hK9 _ _ ?_
      have hX2 := V.has hX
      have hH2 := V.has hH1
      have hS2 := V.has hS1
      have hK2 := V.has hK1
      have hR2 := V.has hR1
      have hb2 : Hid (Below n w V.1) := hb1.out.trans (V.2.mono (by have := hb1.out.size; omega))
      have hX3 := hX2.setOther (c := n) 0 (by omega) (.int .i64 1)
      have e1 := hX3.cell 1
      simp at e1
      go_wp2_with fail
      go_roundw
      case rel => exact ⟨1, by decide, rfl, rfl, by have := hH2.set 0 (.int .i64 1); simpa [hA] using this, hS2.setOther (c := n) 0 (by omega) _, hK2.setOther (c := n) 0 (by omega) _, hR2.setOther (c := n) 0 (by omega) _, hb2.out.setCell (p := ⟨n, 0, none⟩) (by show n ≤ n; omega) _⟩
      case measure => simp [intOf]
    · have c0 := hR.cell 2
      have c1 := hR.cell 3
      simp [rowP] at c0 c1
      simp only [atA, sA, hA] at *
      go_wp2_with fail
      have hX := Has.new wr #[.pointer (some ⟨n, 1, none⟩), .int .i64 2] 317
      have hH1 := hH.alloc (.cells #[.pointer (some ⟨n, 1, none⟩), .int .i64 2] 317)
      have hS1 := hS.alloc (.cells #[.pointer (some ⟨n, 1, none⟩), .int .i64 2] 317)
      have hK1 := hK.alloc (.cells #[.pointer (some ⟨n, 1, none⟩), .int .i64 2] 317)
      have hR1 := hR.alloc (.cells #[.pointer (some ⟨n, 1, none⟩), .int .i64 2] 317)
      obtain ⟨w1, hw1⟩ : ∃ w1, w1 = wr.alloc (.cells #[.pointer (some ⟨n, 1, none⟩), .int .i64 2] 317) := ⟨_, rfl⟩
      rw [← hw1] at hX hH1 hS1 hK1 hR1
      have hb1 : Hid (Below n w w1) := by show Below n w w1; rw [hw1]; exact hb.alloc (by have := hb.size; omega) _
      have hs1 : w1.heap.size = wr.heap.size + 1 := by rw [hw1]; simp
      have x0 : ∀ V : Gr w1, V.1.cell? ⟨wr.heap.size, 0, none⟩ = some (.pointer (some ⟨n, 1, none⟩)) := fun V => (V.has hX).cell 0
      have x1 : ∀ V : Gr w1, V.1.cell? ⟨wr.heap.size, 1, none⟩ = some (.int .i64 2) := fun V => (V.has hX).cell 1
      rw [← hw1]
      refine wp_region_grows_mid 11 (by kernel_rfl) (by kernel_rfl) ?_
      simp only [List.take_succ_cons, List.take_zero, List.drop_succ_cons, List.drop_zero]
      repeat (go_big_quiet_step (first | (go_at_call 109; exact grows_call _ (G1.out _))))
      refine wpQuiet_nil ?_
      intro V
      have y0 := (V.has hH1).cell 1
      have z0 := (V.has hH1).free 1
      simp at y0
      go_wp2_with fail
      rename_i hK9
      refine hK9 _ _ ?_
      have hX2 := V.has hX
      have hH2 := V.has hH1
      have hS2 := V.has hS1
      have hK2 := V.has hK1
      have hR2 := V.has hR1
      have hb2 : Hid (Below n w V.1) := hb1.out.trans (V.2.mono (by have := hb1.out.size; omega))
      have hX3 := hX2.setOther (c := n) 1 (by omega) (.int .i64 80)
      have e1 := hX3.cell 1
      simp at e1
      go_wp2_with fail
      go_roundw
      case rel => exact ⟨2, by decide, rfl, rfl, by have := hH2.set 1 (.int .i64 80); simpa [hA] using this, hS2.setOther (c := n) 1 (by omega) _, hK2.setOther (c := n) 1 (by omega) _, hR2.setOther (c := n) 1 (by omega) _, hb2.out.setCell (p := ⟨n, 1, none⟩) (by show n ≤ n; omega) _⟩
      case measure => simp [intOf]
    · have c0 := hR.cell 4
      have c1 := hR.cell 5
      simp [rowP] at c0 c1
      simp only [atA, sA, hA] at *
      go_wp2_with fail
      have hX := Has.new wr #[.pointer (some ⟨n + 1, 0, none⟩), .int .i64 4] 317
      have hH1 := hH.alloc (.cells #[.pointer (some ⟨n + 1, 0, none⟩), .int .i64 4] 317)
      have hS1 := hS.alloc (.cells #[.pointer (some ⟨n + 1, 0, none⟩), .int .i64 4] 317)
      have hK1 := hK.alloc (.cells #[.pointer (some ⟨n + 1, 0, none⟩), .int .i64 4] 317)
      have hR1 := hR.alloc (.cells #[.pointer (some ⟨n + 1, 0, none⟩), .int .i64 4] 317)
      obtain ⟨w1, hw1⟩ : ∃ w1, w1 = wr.alloc (.cells #[.pointer (some ⟨n + 1, 0, none⟩), .int .i64 4] 317) := ⟨_, rfl⟩
      rw [← hw1] at hX hH1 hS1 hK1 hR1
      have hb1 : Hid (Below n w w1) := by show Below n w w1; rw [hw1]; exact hb.alloc (by have := hb.size; omega) _
      have hs1 : w1.heap.size = wr.heap.size + 1 := by rw [hw1]; simp
      have x0 : ∀ V : Gr w1, V.1.cell? ⟨wr.heap.size, 0, none⟩ = some (.pointer (some ⟨n + 1, 0, none⟩)) := fun V => (V.has hX).cell 0
      have x1 : ∀ V : Gr w1, V.1.cell? ⟨wr.heap.size, 1, none⟩ = some (.int .i64 4) := fun V => (V.has hX).cell 1
      rw [← hw1]
      refine wp_region_grows_mid 11 (by kernel_rfl) (by kernel_rfl) ?_
      simp only [List.take_succ_cons, List.take_zero, List.drop_succ_cons, List.drop_zero]
      repeat (go_big_quiet_step (first | (go_at_call 109; exact grows_call _ (G2.out _))))
      refine wpQuiet_nil ?_
      intro V
      have y0 := (V.has hS1).cell 0
      have z0 := (V.has hS1).free 0
      simp at y0
      go_wp2_with fail
      rename_i hK9
      refine hK9 _ _ ?_
      have hX2 := V.has hX
      have hH2 := V.has hH1
      have hS2 := V.has hS1
      have hK2 := V.has hK1
      have hR2 := V.has hR1
      have hb2 : Hid (Below n w V.1) := hb1.out.trans (V.2.mono (by have := hb1.out.size; omega))
      have hX3 := hX2.setOther (c := n + 1) 0 (by omega) (.int .i64 7)
      have e1 := hX3.cell 1
      simp at e1
      go_wp2_with fail
      go_roundw
      case rel => exact ⟨3, by decide, rfl, rfl, hH2.setOther (c := n + 1) 0 (by omega) _, by have := hS2.set 0 (.int .i64 7); simpa [sA] using this, hK2.setOther (c := n + 1) 0 (by omega) _, hR2.setOther (c := n + 1) 0 (by omega) _, hb2.out.setCell (p := ⟨n + 1, 0, none⟩) (by show n ≤ n + 1; omega) _⟩
      case measure => simp [intOf]
    · have c0 := hR.cell 6
      have c1 := hR.cell 7
      simp [rowP] at c0 c1
      simp only [atA, sA, hA] at *
      go_wp2_with fail
      have hX := Has.new wr #[.pointer (some ⟨n + 2, 0, none⟩), .int .i64 4] 317
      have hH1 := hH.alloc (.cells #[.pointer (some ⟨n + 2, 0, none⟩), .int .i64 4] 317)
      have hS1 := hS.alloc (.cells #[.pointer (some ⟨n + 2, 0, none⟩), .int .i64 4] 317)
      have hK1 := hK.alloc (.cells #[.pointer (some ⟨n + 2, 0, none⟩), .int .i64 4] 317)
      have hR1 := hR.alloc (.cells #[.pointer (some ⟨n + 2, 0, none⟩), .int .i64 4] 317)
      obtain ⟨w1, hw1⟩ : ∃ w1, w1 = wr.alloc (.cells #[.pointer (some ⟨n + 2, 0, none⟩), .int .i64 4] 317) := ⟨_, rfl⟩
      rw [← hw1] at hX hH1 hS1 hK1 hR1
      have hb1 : Hid (Below n w w1) := by show Below n w w1; rw [hw1]; exact hb.alloc (by have := hb.size; omega) _
      have hs1 : w1.heap.size = wr.heap.size + 1 := by rw [hw1]; simp
      have x0 : ∀ V : Gr w1, V.1.cell? ⟨wr.heap.size, 0, none⟩ = some (.pointer (some ⟨n + 2, 0, none⟩)) := fun V => (V.has hX).cell 0
      have x1 : ∀ V : Gr w1, V.1.cell? ⟨wr.heap.size, 1, none⟩ = some (.int .i64 4) := fun V => (V.has hX).cell 1
      rw [← hw1]
      refine wp_region_grows_mid 11 (by kernel_rfl) (by kernel_rfl) ?_
      simp only [List.take_succ_cons, List.take_zero, List.drop_succ_cons, List.drop_zero]
      repeat (go_big_quiet_step (first | (go_at_call 109; exact grows_call _ (G3.out _))))
      refine wpQuiet_nil ?_
      intro V
      have y0 := (V.has hK1).cell 0
      have z0 := (V.has hK1).free 0
      simp at y0
      go_wp2_with fail
      rename_i hK9
      refine hK9 _ _ ?_
      have hX2 := V.has hX
      have hH2 := V.has hH1
      have hS2 := V.has hS1
      have hK2 := V.has hK1
      have hR2 := V.has hR1
      have hb2 : Hid (Below n w V.1) := hb1.out.trans (V.2.mono (by have := hb1.out.size; omega))
      have hX3 := hX2.setOther (c := n + 2) 0 (by omega) (.int .i64 0)
      have e1 := hX3.cell 1
      simp at e1
      go_wp2_with fail
      go_roundw
      case rel => exact ⟨4, by decide, rfl, rfl, hH2.setOther (c := n + 2) 0 (by omega) _, hS2.setOther (c := n + 2) 0 (by omega) _, by have := hK2.set 0 (.int .i64 0); simpa using this, hR2.setOther (c := n + 2) 0 (by omega) _, hb2.out.setCell (p := ⟨n + 2, 0, none⟩) (by show n ≤ n + 2; omega) _⟩
      case measure => simp [intOf]
    · have c0 := hR.cell 8
      have c1 := hR.cell 9
      simp [rowP] at c0 c1
      simp only [atA, sA, hA] at *
      go_wp2_with fail
      have hX := Has.new wr #[.pointer (some ⟨n, 4, none⟩), .int .i64 2] 317
      have hH1 := hH.alloc (.cells #[.pointer (some ⟨n, 4, none⟩), .int .i64 2] 317)
      have hS1 := hS.alloc (.cells #[.pointer (some ⟨n, 4, none⟩), .int .i64 2] 317)
      have hK1 := hK.alloc (.cells #[.pointer (some ⟨n, 4, none⟩), .int .i64 2] 317)
      have hR1 := hR.alloc (.cells #[.pointer (some ⟨n, 4, none⟩), .int .i64 2] 317)
      obtain ⟨w1, hw1⟩ : ∃ w1, w1 = wr.alloc (.cells #[.pointer (some ⟨n, 4, none⟩), .int .i64 2] 317) := ⟨_, rfl⟩
      rw [← hw1] at hX hH1 hS1 hK1 hR1
      have hb1 : Hid (Below n w w1) := by show Below n w w1; rw [hw1]; exact hb.alloc (by have := hb.size; omega) _
      have hs1 : w1.heap.size = wr.heap.size + 1 := by rw [hw1]; simp
      have x0 : ∀ V : Gr w1, V.1.cell? ⟨wr.heap.size, 0, none⟩ = some (.pointer (some ⟨n, 4, none⟩)) := fun V => (V.has hX).cell 0
      have x1 : ∀ V : Gr w1, V.1.cell? ⟨wr.heap.size, 1, none⟩ = some (.int .i64 2) := fun V => (V.has hX).cell 1
      rw [← hw1]
      refine wp_region_grows_mid 11 (by kernel_rfl) (by kernel_rfl) ?_
      simp only [List.take_succ_cons, List.take_zero, List.drop_succ_cons, List.drop_zero]
      repeat (go_big_quiet_step (first | (go_at_call 109; exact grows_call _ (G4.out _))))
      refine wpQuiet_nil ?_
      intro V
      have y0 := (V.has hH1).cell 4
      have z0 := (V.has hH1).free 4
      simp at y0
      go_wp2_with fail
      rename_i hK9
      refine hK9 _ _ ?_
      have hX2 := V.has hX
      have hH2 := V.has hH1
      have hS2 := V.has hS1
      have hK2 := V.has hK1
      have hR2 := V.has hR1
      have hb2 : Hid (Below n w V.1) := hb1.out.trans (V.2.mono (by have := hb1.out.size; omega))
      have hX3 := hX2.setOther (c := n) 4 (by omega) (.int .i64 20482)
      have e1 := hX3.cell 1
      simp at e1
      go_wp2_with fail
      go_roundw
      case rel => exact ⟨5, by decide, rfl, rfl, by have := hH2.set 4 (.int .i64 20482); simpa [hA] using this, hS2.setOther (c := n) 4 (by omega) _, hK2.setOther (c := n) 4 (by omega) _, hR2.setOther (c := n) 4 (by omega) _, hb2.out.setCell (p := ⟨n, 4, none⟩) (by show n ≤ n; omega) _⟩
      case measure => simp [intOf]
    · have c0 := hR.cell 10
      have c1 := hR.cell 11
      simp [rowP] at c0 c1
      simp only [atA, sA, hA] at *
      go_wp2_with fail
      have hX := Has.new wr #[.pointer (some ⟨n, 5, none⟩), .int .i64 2] 317
      have hH1 := hH.alloc (.cells #[.pointer (some ⟨n, 5, none⟩), .int .i64 2] 317)
      have hS1 := hS.alloc (.cells #[.pointer (some ⟨n, 5, none⟩), .int .i64 2] 317)
      have hK1 := hK.alloc (.cells #[.pointer (some ⟨n, 5, none⟩), .int .i64 2] 317)
      have hR1 := hR.alloc (.cells #[.pointer (some ⟨n, 5, none⟩), .int .i64 2] 317)
      obtain ⟨w1, hw1⟩ : ∃ w1, w1 = wr.alloc (.cells #[.pointer (some ⟨n, 5, none⟩), .int .i64 2] 317) := ⟨_, rfl⟩
      rw [← hw1] at hX hH1 hS1 hK1 hR1
      have hb1 : Hid (Below n w w1) := by show Below n w w1; rw [hw1]; exact hb.alloc (by have := hb.size; omega) _
      have hs1 : w1.heap.size = wr.heap.size + 1 := by rw [hw1]; simp
      have x0 : ∀ V : Gr w1, V.1.cell? ⟨wr.heap.size, 0, none⟩ = some (.pointer (some ⟨n, 5, none⟩)) := fun V => (V.has hX).cell 0
      have x1 : ∀ V : Gr w1, V.1.cell? ⟨wr.heap.size, 1, none⟩ = some (.int .i64 2) := fun V => (V.has hX).cell 1
      rw [← hw1]
      refine wp_region_grows_mid 11 (by kernel_rfl) (by kernel_rfl) ?_
      simp only [List.take_succ_cons, List.take_zero, List.drop_succ_cons, List.drop_zero]
      repeat (go_big_quiet_step (first | (go_at_call 109; exact grows_call _ (G5.out _))))
      refine wpQuiet_nil ?_
      intro V
      have y0 := (V.has hH1).cell 5
      have z0 := (V.has hH1).free 5
      simp at y0
      go_wp2_with fail
      rename_i hK9
      refine hK9 _ _ ?_
      have hX2 := V.has hX
      have hH2 := V.has hH1
      have hS2 := V.has hS1
      have hK2 := V.has hK1
      have hR2 := V.has hR1
      have hb2 : Hid (Below n w V.1) := hb1.out.trans (V.2.mono (by have := hb1.out.size; omega))
      have hX3 := hX2.setOther (c := n) 5 (by omega) (.int .i64 9)
      have e1 := hX3.cell 1
      simp at e1
      go_wp2_with fail
      go_roundw
      case rel => exact ⟨6, by decide, rfl, rfl, by have := hH2.set 5 (.int .i64 9); simpa [hA] using this, hS2.setOther (c := n) 5 (by omega) _, hK2.setOther (c := n) 5 (by omega) _, hR2.setOther (c := n) 5 (by omega) _, hb2.out.setCell (p := ⟨n, 5, none⟩) (by show n ≤ n; omega) _⟩
      case measure => simp [intOf]
    · have hs0 := hS.cell 0
      have hk0 := hK.cell 0
      have h40 := hH.cell 4
      have f4 := hH.free 4
      have f6 := hH.free 6
      simp [hA, sA] at hs0 hk0 h40
      simp only [atA, sA, hA] at *
      have hba : bits BinOp.and IntKind.i64 20482 4095 = 2 := by decide
      go_wp2_with fail
      refine (G6.out _).mono ?_
      rintro e w1 ⟨rfl, hb1⟩
      have hH1 := hH.below hb1
      have hS1 := hS.below hb1
      have hK1 := hK.below hb1
      have B1 := Lib.hid (hb.trans (hb1.mono (by have := hb.size; omega)))
      have c0 := hH1.cell 0
      have f0 := hH1.free 0
      have c1 := hH1.cell 1
      have f1 := hH1.free 1
      have c2 := hH1.cell 2
      have f2 := hH1.free 2
      have c3 := hH1.cell 3
      have f3 := hH1.free 3
      have c4 := hH1.cell 4
      have f4 := hH1.free 4
      have c5 := hH1.cell 5
      have f5 := hH1.free 5
      have c6 := hH1.cell 6
      have f6 := hH1.free 6
      have c7 := hH1.cell 7
      have f7 := hH1.free 7
      simp at c0 c1 c2 c3 c4 c5 c6 c7
      go_wp2_with fail
      have hH2 := (hH1.set 6 (.int .i64 0)).set 4 (.int .i64 2)
      have hS2 := (hS1.setOther (c := n) 6 (by omega) (.int .i64 0)).setOther (c := n) 4 (by omega) (.int .i64 2)
      have hK2 := (hK1.setOther (c := n) 6 (by omega) (.int .i64 0)).setOther (c := n) 4 (by omega) (.int .i64 2)
      have B2 := Lib.hid ((B1.out.setCell (p := ⟨n, 6, none⟩) (Nat.le_refl _) (.int .i64 0)).setCell (p := ⟨n, 4, none⟩) (Nat.le_refl _) (.int .i64 2))
      simp at hH2
      obtain ⟨w2, hw2⟩ : ∃ w2, w2 = (w1.setCell ⟨n, 6, none⟩ (.int .i64 0)).setCell ⟨n, 4, none⟩ (.int .i64 2) := ⟨_, rfl⟩
      rw [← hw2] at hH2 hS2 hK2 B2 ⊢
      clear c0 f0 c1 f1 c2 f2 c3 f3 c4 f4 c5 f5 c6 f6 c7 f7
      clear hw2 hH1 hS1 hK1 B1 hb1
      have hs0 := hS2.cell 0
      have hk0 := hK2.cell 0
      simp at hs0 hk0
      have c0 := hH2.cell 0
      have f0 := hH2.free 0
      have c1 := hH2.cell 1
      have f1 := hH2.free 1
      have c2 := hH2.cell 2
      have f2 := hH2.free 2
      have c3 := hH2.cell 3
      have f3 := hH2.free 3
      have c4 := hH2.cell 4
      have f4 := hH2.free 4
      have c5 := hH2.cell 5
      have f5 := hH2.free 5
      have c6 := hH2.cell 6
      have f6 := hH2.free 6
      have c7 := hH2.cell 7
      have f7 := hH2.free 7
      simp at c0 c1 c2 c3 c4 c5 c6 c7
      go_region
      have hH3 := (((hH2.set 2 (.int .u32 7)).set 3 (.int .u32 0)).set 7 (.string (bs []))).drew
      have B3 := Lib.hid (((B2.out.setCell (p := ⟨n, 2, none⟩) (Nat.le_refl _) (.int .u32 7)).setCell (p := ⟨n, 3, none⟩) (Nat.le_refl _) (.int .u32 0)).setCell (p := ⟨n, 7, none⟩) (Nat.le_refl _) (.string (bs []))).drew
      simp at hH3
      obtain ⟨w3, hw3⟩ : ∃ w3, w3 = (((w2.setCell ⟨n, 2, none⟩ (.int .u32 7)).setCell ⟨n, 3, none⟩ (.int .u32 0)).setCell ⟨n, 7, none⟩ (.string (bs []))).drew := ⟨_, rfl⟩
      rw [show (.string ByteArray.empty : Value) = .string (bs []) from rfl]
      rw [← hw3] at hH3 B3 ⊢
      clear c0 f0 c1 f1 c2 f2 c3 f3 c4 f4 c5 f5 c6 f6 c7 f7
      clear hw3 hH2 hS2 hK2 B2 hs0 hk0
      have c0 := hH3.cell 0
      have f0 := hH3.free 0
      have c1 := hH3.cell 1
      have f1 := hH3.free 1
      have c2 := hH3.cell 2
      have f2 := hH3.free 2
      have c3 := hH3.cell 3
      have f3 := hH3.free 3
      have c4 := hH3.cell 4
      have f4 := hH3.free 4
      have c5 := hH3.cell 5
      have f5 := hH3.free 5
      have c6 := hH3.cell 6
      have f6 := hH3.free 6
      have c7 := hH3.cell 7
      have f7 := hH3.free 7
      simp at c0 c1 c2 c3 c4 c5 c6 c7
      go_wp2_with fail
      go_region
      have hH4 := ((((((((hH3.set 0 (.int .i64 1)).set 1 (.int .i64 80)).set 2 (.int .u32 7)).set 3 (.int .u32 0)).set 4 (.int .i64 2)).set 5 (.int .i64 9)).set 6 (.int .i64 0)).set 7 (.string (bs []))).drew
      have B4 := Lib.hid ((((((((B3.out.setCell (p := ⟨n, 0, none⟩) (Nat.le_refl _) (.int .i64 1)).setCell (p := ⟨n, 1, none⟩) (Nat.le_refl _) (.int .i64 80)).setCell (p := ⟨n, 2, none⟩) (Nat.le_refl _) (.int .u32 7)).setCell (p := ⟨n, 3, none⟩) (Nat.le_refl _) (.int .u32 0)).setCell (p := ⟨n, 4, none⟩) (Nat.le_refl _) (.int .i64 2)).setCell (p := ⟨n, 5, none⟩) (Nat.le_refl _) (.int .i64 9)).setCell (p := ⟨n, 6, none⟩) (Nat.le_refl _) (.int .i64 0)).setCell (p := ⟨n, 7, none⟩) (Nat.le_refl _) (.string (bs []))).drew
      simp at hH4
      obtain ⟨w4, hw4⟩ : ∃ w4, w4 = ((((((((w3.setCell ⟨n, 0, none⟩ (.int .i64 1)).setCell ⟨n, 1, none⟩ (.int .i64 80)).setCell ⟨n, 2, none⟩ (.int .u32 7)).setCell ⟨n, 3, none⟩ (.int .u32 0)).setCell ⟨n, 4, none⟩ (.int .i64 2)).setCell ⟨n, 5, none⟩ (.int .i64 9)).setCell ⟨n, 6, none⟩ (.int .i64 0)).setCell ⟨n, 7, none⟩ (.string (bs []))).drew := ⟨_, rfl⟩
      rw [← hw4] at hH4 B4 ⊢
      clear c0 f0 c1 f1 c2 f2 c3 f3 c4 f4 c5 f5 c6 f6 c7 f7
      clear hw4 hH3 B3
      have c0 := hH4.cell 0
      have f0 := hH4.free 0
      have c1 := hH4.cell 1
      have f1 := hH4.free 1
      have c2 := hH4.cell 2
      have f2 := hH4.free 2
      have c3 := hH4.cell 3
      have f3 := hH4.free 3
      have c4 := hH4.cell 4
      have f4 := hH4.free 4
      have c5 := hH4.cell 5
      have f5 := hH4.free 5
      have c6 := hH4.cell 6
      have f6 := hH4.free 6
      have c7 := hH4.cell 7
      have f7 := hH4.free 7
      simp at c0 c1 c2 c3 c4 c5 c6 c7
      go_wp2_with fail
      refine bodyPost_ret (v := .tuple #[.agg #[.int .i64 1, .int .i64 80, .int .u32 7, .int .u32 0, .int .i64 2, .int .i64 9, .int .i64 0, .string (bs [])], .string (bs []), .int .i64 0]) ?_ rfl ⟨rfl, by rw [hn]; exact B4.out⟩
      simp [results, Tryz.f123, go_sem, c0, c1, c2, c3, c4, c5, c6, c7, hd1]
      rfl
end Go.Proofs.YtngdebpaheejlaaGreatDoor
namespace Go.Proofs.YtngdebpaheejlaaGreatDoor
open Go.RowKit Go.Shelf
set_option linter.unusedSimpArgs false
set_option linter.unusedVariables false
attribute [local go_sem] bs_app bs_size bs_bt bs_extract numB_len zz_bs z_bs e_bs
theorem Chg.setNew {S : Nat → Prop} {w w' : World} (h : Chg S w w') {b : Nat} (hb : w.heap.size ≤ b) (i : Nat) (v : Value) : Chg S w (w'.setCell ⟨b, i, none⟩ v) :=
  ⟨h.os, h.tape, h.output, by simpa using h.size, fun k hk hn => (Below.heap_setCell w' ⟨b, i, none⟩ v k (by show k ≠ b; omega)).trans (h.block k hk hn)⟩
/-- The one frame. -/
def fl : List Nat := ipB 5 64 6 10 100 tl
theorem fl_len : fl.length = 40 := by decide +kernel
theorem fl_drop : fl.drop 20 = tl := by decide +kernel
theorem fl_v : valAt fl 1 1 = 0 ∧ valAt fl 4 2 = 5 ∧ valAt fl 6 2 = 0 ∧ valAt fl 8 1 = 64 ∧ valAt fl 9 1 = 6 ∧ valAt fl 12 4 = 10 ∧ valAt fl 16 4 = 100 := by decide +kernel
theorem fl_hdr : Hdr fl := ⟨by unfold Byt; decide +kernel, by decide +kernel, by decide +kernel, by decide +kernel, by decide +kernel, by decide +kernel⟩
theorem tl_seg : Seg 6 16 tl := ⟨tl_byt, by decide +kernel, by decide +kernel, by decide +kernel, .inl ⟨rfl, rfl⟩⟩
theorem tl_ok : ps8 6 10 100 tl = 65535 := by decide +kernel
set_option maxRecDepth 100000 in
set_option maxHeartbeats 1600000 in
theorem ends_t (pb : Nat) (t s d ttl : Int) (w : World) (hp : Has w pb 137 (pkt t 6 s d 0 0 0 ttl)) :
    Calls Tryz.prog 77 #[.pointer (some ⟨pb, 0, none⟩), .string (bs tl)] w fun e w' => e = .returned (.int .i64 0) ∧ Has w' pb 137 (pkt t 6 s d 1 80 2 ttl) ∧ Chg (fun b => b = pb) w w' := by
  have HU := Lib.hid tparse_c
  have hz := zero275
  have c3 := hp.cell 3
  simp [pkt] at c3
  have hl := hp.lt
  go_enter Tryz.func77, Tryz.ntmps77
  go_wp2_with fail
  refine (HU.out _).mono ?_
  rintro e w1 ⟨rfl, hb1⟩
  have hp1 := (hp.alloc _).below hb1
  have hq1 := (Has.new w #[.int .i64 0, .int .i64 0, .int .u32 0, .int .u32 0, .int .i64 0, .int .i64 0, .int .i64 0, .string (bs [])] 275).below hb1
  have k1 : Hid (Chg (fun b => b = pb) w w1) := ((Chg.refl _ w).alloc _).trans (Chg.of_below hb1)
  clear hp hb1
  simp [pkt] at hp1
  have q0 := hq1.cell 0
  have r0 := hq1.free 0
  have q1 := hq1.cell 1
  have r1 := hq1.free 1
  have q2 := hq1.cell 2
  have r2 := hq1.free 2
  have q3 := hq1.cell 3
  have r3 := hq1.free 3
  have q4 := hq1.cell 4
  have r4 := hq1.free 4
  have q5 := hq1.cell 5
  have r5 := hq1.free 5
  have q6 := hq1.cell 6
  have r6 := hq1.free 6
  have q7 := hq1.cell 7
  have r7 := hq1.free 7
  simp at q0 q1 q2 q3 q4 q5 q6 q7
  have c6 := hp1.cell 6
  have c7 := hp1.cell 7
  have c8 := hp1.cell 8
  have f6 := hp1.free 6
  have f7 := hp1.free 7
  have f8 := hp1.free 8
  simp at c6 c7 c8
  go_wp2_with fail
  have hq2 := ((((((((hq1.set 0 (.int .i64 1)).set 1 (.int .i64 80)).set 2 (.int .u32 7)).set 3 (.int .u32 0)).set 4 (.int .i64 2)).set 5 (.int .i64 9)).set 6 (.int .i64 0)).set 7 (.string (bs [])))
  have hp2 := ((((((((hp1.setOther (c := w.heap.size) 0 (by omega) (.int .i64 1)).setOther (c := w.heap.size) 1 (by omega) (.int .i64 80)).setOther (c := w.heap.size) 2 (by omega) (.int .u32 7)).setOther (c := w.heap.size) 3 (by omega) (.int .u32 0)).setOther (c := w.heap.size) 4 (by omega) (.int .i64 2)).setOther (c := w.heap.size) 5 (by omega) (.int .i64 9)).setOther (c := w.heap.size) 6 (by omega) (.int .i64 0)).setOther (c := w.heap.size) 7 (by omega) (.string (bs [])))
  simp at hq2
  obtain ⟨w2, hw2⟩ : ∃ w2, w2 = ((((((((w1.setCell ⟨w.heap.size, 0, none⟩ (.int .i64 1)).setCell ⟨w.heap.size, 1, none⟩ (.int .i64 80)).setCell ⟨w.heap.size, 2, none⟩ (.int .u32 7)).setCell ⟨w.heap.size, 3, none⟩ (.int .u32 0)).setCell ⟨w.heap.size, 4, none⟩ (.int .i64 2)).setCell ⟨w.heap.size, 5, none⟩ (.int .i64 9)).setCell ⟨w.heap.size, 6, none⟩ (.int .i64 0)).setCell ⟨w.heap.size, 7, none⟩ (.string (bs []))) := ⟨_, rfl⟩
  have k2 := Lib.hid ((((((((k1.out.setNew (b := w.heap.size) (Nat.le_refl _) 0 (.int .i64 1)).setNew (b := w.heap.size) (Nat.le_refl _) 1 (.int .i64 80)).setNew (b := w.heap.size) (Nat.le_refl _) 2 (.int .u32 7)).setNew (b := w.heap.size) (Nat.le_refl _) 3 (.int .u32 0)).setNew (b := w.heap.size) (Nat.le_refl _) 4 (.int .i64 2)).setNew (b := w.heap.size) (Nat.le_refl _) 5 (.int .i64 9)).setNew (b := w.heap.size) (Nat.le_refl _) 6 (.int .i64 0)).setNew (b := w.heap.size) (Nat.le_refl _) 7 (.string (bs [])))
  rw [← hw2] at hq2 hp2 k2 ⊢
  clear hw2 hp1 hq1 k1 q0 r0 q1 r1 q2 r2 q3 r3 q4 r4 q5 r5 q6 r6 q7 r7 c6 c7 c8 f6 f7 f8
  have q0 := hq2.cell 0
  have q1 := hq2.cell 1
  have q4 := hq2.cell 4
  simp at q0 q1 q4
  have c6 := hp2.cell 6
  have c7 := hp2.cell 7
  have c8 := hp2.cell 8
  have f6 := hp2.free 6
  have f7 := hp2.free 7
  have f8 := hp2.free 8
  simp at c6 c7 c8
  go_region
  go_wp2_with fail
  go_ret
  refine ⟨rfl, ?_, ((((k2.out.set rfl 8 _).set rfl 6 _).set rfl 7 _).drew)⟩
  have := (((hp2.set 8 (.int .i64 2)).set 6 (.int .i64 1)).set 7 (.int .i64 80)).drew
  simpa [pkt] using this
set_option maxRecDepth 100000 in
set_option maxHeartbeats 3200000 in
theorem classify_t (w : World) :
    Calls Tryz.prog 41 #[.string (bs fl)] w fun e w' => e = .returned (.tuple #[.agg (pkt 40 6 10 100 1 80 2 64), .int .i64 0]) ∧ Below w.heap.size w w' := by
  have HP := Lib.hid (parse4_c fl fl_hdr)
  have HZ := Lib.hid (size4_c fl fl_hdr)
  have HE := Lib.hid (fun pb W hp => ends_t pb 40 10 100 64 W hp)
  have HV := Lib.hid (verify8_c 6 16 10 100 tl tl_seg (by decide) (by decide) tl_ok)
  unfold hdrV at HP
  rw [fl_v.1, fl_v.2.1, fl_v.2.2.1, fl_v.2.2.2.1, fl_v.2.2.2.2.1, fl_v.2.2.2.2.2.1, fl_v.2.2.2.2.2.2, fl_drop] at HP
  rw [fl_len] at HZ
  obtain ⟨body, hbody⟩ : ∃ body, tl = body := ⟨_, rfl⟩
  rw [hbody] at HP HE HV
  have hz := zero137
  clear hbody
  go_enter Tryz.func41, Tryz.ntmps41
  go_wp2_with fail
  refine (HP.out _).mono ?_
  rintro e w1 ⟨rfl, hb1⟩
  have hr1 : Has w1 w.heap.size 137 #[.int .i64 0, .int .i64 0, .int .i64 0, .int .i64 0, .int .u32 0, .int .u32 0, .int .i64 0, .int .i64 0, .int .i64 0, .int .i64 0, .int .u32 0, .int .u32 0, .int .i64 0, .int .i64 0] := (Has.new w _ _).below hb1
  have B1 : Hid (Below w.heap.size w w1) := ((Below.refl _ _).alloc (Nat.le_refl _) _).trans (hb1.mono (by simp))
  have q1 := hb1.size
  simp at q1
  clear hb1
  go_wp2_with fail
  refine (HZ.out _).mono ?_
  rintro e w2 ⟨rfl, hb2⟩
  have hr2 : Has w2 w.heap.size 137 #[.int .i64 0, .int .i64 0, .int .i64 0, .int .i64 0, .int .u32 0, .int .u32 0, .int .i64 0, .int .i64 0, .int .i64 0, .int .i64 0, .int .u32 0, .int .u32 0, .int .i64 0, .int .i64 0] := ((hr1.alloc _).alloc _).below hb2
  have hh2 : Has w2 w1.heap.size 207 #[.int .i64 0, .int .i64 5, .int .i64 0, .int .i64 0, .int .i64 64, .int .i64 6, .int .u32 10, .int .u32 100, .string (bs [])] := ((Has.new w1 _ _).alloc _).below hb2
  have hp2 : Has w2 (w1.heap.size + 1) 137 #[.int .i64 1, .int .i64 0, .int .i64 0, .int .i64 6, .int .u32 10, .int .u32 100, .int .i64 0, .int .i64 0, .int .i64 0, .int .i64 64, .int .u32 10, .int .u32 100, .int .i64 0, .int .i64 0] := Has.below (has_at (by simp)) hb2
  have B2 : Hid (Below w.heap.size w w2) := ((B1.out.alloc B1.out.size _).alloc (by simp; have := B1.out.size; omega) _).trans (hb2.mono (by simp; have := B1.out.size; omega))
  have q2 := hb2.size
  simp at q2
  have k1 := hp2.cell 1
  have k2 := hp2.cell 2
  have m1 := hp2.free 1
  have m2 := hp2.free 2
  simp at k1 k2
  clear hb2 hr1 B1
  have hn1 : w.heap.size ≠ w1.heap.size + 1 := by omega
  have hn2 : w1.heap.size ≠ w1.heap.size + 1 := by omega
  have hr3 := (hr2.setOther 1 hn1 (.int .i64 20)).setOther 2 hn1 (.int .i64 40)
  have hh3 := (hh2.setOther 1 hn2 (.int .i64 20)).setOther 2 hn2 (.int .i64 40)
  have hp3 := (hp2.set 1 (.int .i64 20)).set 2 (.int .i64 40)
  have B3 := Lib.hid ((B2.out.setCell (p := ⟨w1.heap.size + 1, 1, none⟩) (by simp; omega) (.int .i64 20)).setCell (p := ⟨w1.heap.size + 1, 2, none⟩) (by simp; omega) (.int .i64 40))
  simp at hp3
  have h2 := hh3.cell 2
  have h3 := hh3.cell 3
  have h5 := hh3.cell 5
  simp at h2 h3 h5
  have hb0 : bits BinOp.and IntKind.i64 0 1 = 0 := by decide
  clear hr2 hh2 hp2 B2
  go_wp2_with fail
  refine (HE.out _ _ (by simpa [pkt] using hp3)).mono ?_
  rintro e w4 ⟨rfl, hp4, hc4⟩
  have hr4 : Has w4 w.heap.size 137 #[.int .i64 0, .int .i64 0, .int .i64 0, .int .i64 0, .int .u32 0, .int .u32 0, .int .i64 0, .int .i64 0, .int .i64 0, .int .i64 0, .int .u32 0, .int .u32 0, .int .i64 0, .int .i64 0] := (hc4.block _ hr3.lt hn1).trans hr3
  have hh4 : Has w4 w1.heap.size 207 #[.int .i64 0, .int .i64 5, .int .i64 0, .int .i64 0, .int .i64 64, .int .i64 6, .int .u32 10, .int .u32 100, .string (bs [])] := (hc4.block _ hh3.lt hn2).trans hh3
  have B4 := Lib.hid (B3.out.trans (hc4.below (fun b hb => by rw [hb]; omega) (by have := B3.out.size; simpa using this)))
  have h5 := hh4.cell 5
  have h6 := hh4.cell 6
  have h7 := hh4.cell 7
  simp at h5 h6 h7
  clear hc4 hr3 hh3 hp3 B3
  go_wp2_with fail
  refine (HV.out _).mono ?_
  rintro e w5 ⟨rfl, hb5⟩
  have hr6 := hr4.below hb5
  have hp6 : Has w5 (w1.heap.size + 1) 137 #[.int .i64 1, .int .i64 20, .int .i64 40, .int .i64 6, .int .u32 10, .int .u32 100, .int .i64 1, .int .i64 80, .int .i64 2, .int .i64 64, .int .u32 10, .int .u32 100, .int .i64 0, .int .i64 0] := by have := hp4.below hb5; simpa [pkt] using this
  have B6 := Lib.hid (B4.out.trans (hb5.mono B4.out.size))
  obtain ⟨w6, hw6⟩ : ∃ w6, w6 = w5 := ⟨_, rfl⟩
  rw [← hw6] at hr6 hp6 B6 ⊢
  clear hb5 hr4 hh4 hp4 B4 hw6
  have r0 := hr6.cell 0
  have s0 := hr6.free 0
  have p0 := hp6.cell 0
  have r1 := hr6.cell 1
  have s1 := hr6.free 1
  have p1 := hp6.cell 1
  have r2 := hr6.cell 2
  have s2 := hr6.free 2
  have p2 := hp6.cell 2
  have r3 := hr6.cell 3
  have s3 := hr6.free 3
  have p3 := hp6.cell 3
  have r4 := hr6.cell 4
  have s4 := hr6.free 4
  have p4 := hp6.cell 4
  have r5 := hr6.cell 5
  have s5 := hr6.free 5
  have p5 := hp6.cell 5
  have r6 := hr6.cell 6
  have s6 := hr6.free 6
  have p6 := hp6.cell 6
  have r7 := hr6.cell 7
  have s7 := hr6.free 7
  have p7 := hp6.cell 7
  have r8 := hr6.cell 8
  have s8 := hr6.free 8
  have p8 := hp6.cell 8
  have r9 := hr6.cell 9
  have s9 := hr6.free 9
  have p9 := hp6.cell 9
  have r10 := hr6.cell 10
  have s10 := hr6.free 10
  have p10 := hp6.cell 10
  have r11 := hr6.cell 11
  have s11 := hr6.free 11
  have p11 := hp6.cell 11
  have r12 := hr6.cell 12
  have s12 := hr6.free 12
  have p12 := hp6.cell 12
  have r13 := hr6.cell 13
  have s13 := hr6.free 13
  have p13 := hp6.cell 13
  simp at r0 r1 r2 r3 r4 r5 r6 r7 r8 r9 r10 r11 r12 r13 p0 p1 p2 p3 p4 p5 p6 p7 p8 p9 p10 p11 p12 p13
  go_wp2_with fail
  have hr7 := ((((((((((((((hr6.set 0 (.int .i64 1)).set 1 (.int .i64 20)).set 2 (.int .i64 40)).set 3 (.int .i64 6)).set 4 (.int .u32 10)).set 5 (.int .u32 100)).set 6 (.int .i64 1)).set 7 (.int .i64 80)).set 8 (.int .i64 2)).set 9 (.int .i64 64)).set 10 (.int .u32 10)).set 11 (.int .u32 100)).set 12 (.int .i64 0)).set 13 (.int .i64 0))
  have B7 := Lib.hid ((((((((((((((B6.out.setCell (p := ⟨w.heap.size, 0, none⟩) (Nat.le_refl _) (.int .i64 1)).setCell (p := ⟨w.heap.size, 1, none⟩) (Nat.le_refl _) (.int .i64 20)).setCell (p := ⟨w.heap.size, 2, none⟩) (Nat.le_refl _) (.int .i64 40)).setCell (p := ⟨w.heap.size, 3, none⟩) (Nat.le_refl _) (.int .i64 6)).setCell (p := ⟨w.heap.size, 4, none⟩) (Nat.le_refl _) (.int .u32 10)).setCell (p := ⟨w.heap.size, 5, none⟩) (Nat.le_refl _) (.int .u32 100)).setCell (p := ⟨w.heap.size, 6, none⟩) (Nat.le_refl _) (.int .i64 1)).setCell (p := ⟨w.heap.size, 7, none⟩) (Nat.le_refl _) (.int .i64 80)).setCell (p := ⟨w.heap.size, 8, none⟩) (Nat.le_refl _) (.int .i64 2)).setCell (p := ⟨w.heap.size, 9, none⟩) (Nat.le_refl _) (.int .i64 64)).setCell (p := ⟨w.heap.size, 10, none⟩) (Nat.le_refl _) (.int .u32 10)).setCell (p := ⟨w.heap.size, 11, none⟩) (Nat.le_refl _) (.int .u32 100)).setCell (p := ⟨w.heap.size, 12, none⟩) (Nat.le_refl _) (.int .i64 0)).setCell (p := ⟨w.heap.size, 13, none⟩) (Nat.le_refl _) (.int .i64 0))
  simp at hr7
  obtain ⟨w7, hw7⟩ : ∃ w7, w7 = ((((((((((((((w6.setCell ⟨w.heap.size, 0, none⟩ (.int .i64 1)).setCell ⟨w.heap.size, 1, none⟩ (.int .i64 20)).setCell ⟨w.heap.size, 2, none⟩ (.int .i64 40)).setCell ⟨w.heap.size, 3, none⟩ (.int .i64 6)).setCell ⟨w.heap.size, 4, none⟩ (.int .u32 10)).setCell ⟨w.heap.size, 5, none⟩ (.int .u32 100)).setCell ⟨w.heap.size, 6, none⟩ (.int .i64 1)).setCell ⟨w.heap.size, 7, none⟩ (.int .i64 80)).setCell ⟨w.heap.size, 8, none⟩ (.int .i64 2)).setCell ⟨w.heap.size, 9, none⟩ (.int .i64 64)).setCell ⟨w.heap.size, 10, none⟩ (.int .u32 10)).setCell ⟨w.heap.size, 11, none⟩ (.int .u32 100)).setCell ⟨w.heap.size, 12, none⟩ (.int .i64 0)).setCell ⟨w.heap.size, 13, none⟩ (.int .i64 0)) := ⟨_, rfl⟩
  rw [← hw7] at hr7 B7 ⊢
  clear hw7 r0 s0 p0 r1 s1 p1 r2 s2 p2 r3 s3 p3 r4 s4 p4 r5 s5 p5 r6 s6 p6 r7 s7 p7 r8 s8 p8 r9 s9 p9 r10 s10 p10 r11 s11 p11 r12 s12 p12 r13 s13 p13 hr6 hp6 B6
  have c0 := hr7.cell 0
  have c1 := hr7.cell 1
  have c2 := hr7.cell 2
  have c3 := hr7.cell 3
  have c4 := hr7.cell 4
  have c5 := hr7.cell 5
  have c6 := hr7.cell 6
  have c7 := hr7.cell 7
  have c8 := hr7.cell 8
  have c9 := hr7.cell 9
  have c10 := hr7.cell 10
  have c11 := hr7.cell 11
  have c12 := hr7.cell 12
  have c13 := hr7.cell 13
  simp at c0 c1 c2 c3 c4 c5 c6 c7 c8 c9 c10 c11 c12 c13
  refine bodyPost_ret (v := .tuple #[.agg #[.int .i64 1, .int .i64 20, .int .i64 40, .int .i64 6, .int .u32 10, .int .u32 100, .int .i64 1, .int .i64 80, .int .i64 2, .int .i64 64, .int .u32 10, .int .u32 100, .int .i64 0, .int .i64 0], .int .i64 0]) ?_ rfl ⟨by simp [pkt], B7.out⟩
  simp [results, Tryz.f41, go_sem, c0, c1, c2, c3, c4, c5, c6, c7, c8, c9, c10, c11, c12, c13]
end Go.Proofs.YtngdebpaheejlaaGreatDoor
namespace Go.Proofs.YtngdebpaheejlaaGreatDoor
open Go.RowKit
set_option linter.unusedSimpArgs false
set_option linter.unusedVariables false
theorem qends_c (p s d a b : Int) (w : World) :
    Calls Tryz.prog 145 #[.agg #[.int .i64 p, .int .u32 s, .int .u32 d, .int .i64 a, .int .i64 b]] w fun e w' => e = .returned (.agg #[.int .u32 s, .int .u32 d, .int .i64 a, .int .i64 b]) ∧ Below w.heap.size w w' := by
  go_enter Tryz.func145, Tryz.ntmps145
  go_wp2
  exact bodyPost_ret (by simp [results, Tryz.f145, go_sem]) rfl ⟨rfl, ((Below.refl _ _).alloc (Nat.le_refl _) _).alloc (by simp) _⟩
/-- A flow in a box. -/
structure Boxed (w : World) (k : Nat) (cp cs cd ca cb bp bs bd ba bb : Int) : Prop where
  c0 : w.cell? ⟨k, 0, none⟩ = some (.int .i64 cp)
  c1 : w.cell? ⟨k, 1, none⟩ = some (.int .u32 cs)
  c2 : w.cell? ⟨k, 2, none⟩ = some (.int .u32 cd)
  c3 : w.cell? ⟨k, 3, none⟩ = some (.int .i64 ca)
  c4 : w.cell? ⟨k, 4, none⟩ = some (.int .i64 cb)
  c5 : w.cell? ⟨k, 5, none⟩ = some (.int .i64 bp)
  c6 : w.cell? ⟨k, 6, none⟩ = some (.int .u32 bs)
  c7 : w.cell? ⟨k, 7, none⟩ = some (.int .u32 bd)
  c8 : w.cell? ⟨k, 8, none⟩ = some (.int .i64 ba)
  c9 : w.cell? ⟨k, 9, none⟩ = some (.int .i64 bb)
theorem p1_c (k : Nat) (cp cs cd ca cb bp bs bd ba bb : Int) (w : World) (hk : k < w.heap.size) (h : Boxed w k cp cs cd ca cb bp bs bd ba bb) :
    Calls Tryz.prog 155 #[.pointer (some ⟨k, 0, none⟩)] w fun e w' => e = .returned (.agg #[.int .i64 bp, .int .u32 bs, .int .u32 bd, .int .i64 ba, .int .i64 bb]) ∧ Below w.heap.size w w' := by
  obtain ⟨c0, c1, c2, c3, c4, c5, c6, c7, c8, c9⟩ := h
  go_enter Tryz.func155, Tryz.ntmps155
  go_wp2
  exact bodyPost_ret (by simp [results, Tryz.f155, go_sem]) rfl ⟨rfl, ((Below.refl _ _).alloc (Nat.le_refl _) _)⟩
theorem Boxed.below {w w1 : World} {k : Nat} {cp cs cd ca cb bp bs bd ba bb : Int} (h : Boxed w k cp cs cd ca cb bp bs bd ba bb) (hb : Below w.heap.size w w1) (hk : k < w.heap.size) : Boxed w1 k cp cs cd ca cb bp bs bd ba bb := by
  obtain ⟨hc, _⟩ := bcell hb
  obtain ⟨c0, c1, c2, c3, c4, c5, c6, c7, c8, c9⟩ := h
  constructor <;> (rw [hc _ _ hk]; assumption)
theorem Boxed.alloc {w : World} {k : Nat} {cp cs cd ca cb bp bs bd ba bb : Int} (h : Boxed w k cp cs cd ca cb bp bs bd ba bb) (o : Obj) (hk : k < w.heap.size) : Boxed (w.alloc o) k cp cs cd ca cb bp bs bd ba bb :=
  h.below ((Below.refl _ _).alloc (Nat.le_refl _) _) hk
/-- 'pick': one of two closures. -/
theorem pick_pf (k : Nat) (cp cs cd ca cb bp bs bd ba bb : Int) (w : World) (hk : k < w.heap.size) (h : Boxed w k cp cs cd ca cb bp bs bd ba bb) :
    Calls Tryz.prog 142 #[.bool false, .func (.func 155) #[] #[.pointer (some ⟨k, 0, none⟩)], .func (.func 156) #[] #[.pointer (some ⟨k, 0, none⟩)]] w fun e w' => e = .returned (.agg #[.int .i64 bp, .int .u32 bs, .int .u32 bd, .int .i64 ba, .int .i64 bb]) ∧ Below w.heap.size w w' := by
  have h1 := h.alloc (.cells #[.int .i64 0, .int .u32 0, .int .u32 0, .int .i64 0, .int .i64 0] 97) hk
  clear h
  go_enter Tryz.func142, Tryz.ntmps142
  go_wp2_with fail
  refine (p1_c k cp cs cd ca cb bp bs bd ba bb _ (by simp; omega) h1).mono ?_
  rintro e w1 ⟨rfl, hb⟩
  have hz := hb.size
  obtain ⟨hc, hf⟩ := bcell hb
  simp at hz hc hf
  clear h1
  go_wp2
  refine bodyPost_ret (by simp [results, Tryz.f142, go_sem, hc]) rfl ⟨rfl, ?_⟩
  have hb2 : Below w.heap.size w w1 := ((Below.refl _ _).alloc (Nat.le_refl _) _).trans (hb.mono (by simp))
  exact ((((hb2.setCell (by simp) _).setCell (by simp) _).setCell (by simp) _).setCell (by simp) _).setCell (by simp) _
def flowV (cp cs cd ca cb bp bs bd ba bb sv be st : Int) (dsr : Bool) : Value := .agg #[.int .i64 cp, .int .u32 cs, .int .u32 cd, .int .i64 ca, .int .i64 cb, .int .i64 bp, .int .u32 bs, .int .u32 bd, .int .i64 ba, .int .i64 bb, .int .i64 sv, .int .i64 be, .int .i64 st, .bool dsr]
theorem boxed_new (w : World) (cp cs cd ca cb bp bs bd ba bb sv be st : Int) (dsr : Bool) :
    Boxed (w.alloc (.cells #[.int .i64 cp, .int .u32 cs, .int .u32 cd, .int .i64 ca, .int .i64 cb, .int .i64 bp, .int .u32 bs, .int .u32 bd, .int .i64 ba, .int .i64 bb, .int .i64 sv, .int .i64 be, .int .i64 st, .bool dsr] 99)) w.heap.size cp cs cd ca cb bp bs bd ba bb := by
  constructor <;> simp
set_option maxHeartbeats 400000 in
theorem qplain_c (cp cs cd ca cb bp bs bd ba bb sv be st : Int) (dsr : Bool) (w : World) :
    Calls Tryz.prog 91 #[flowV cp cs cd ca cb bp bs bd ba bb sv be st dsr, .bool false] w
     fun e w' => e = .returned (.agg #[.int .u32 bs, .int .u32 bd, .int .i64 ba, .int .i64 bb]) ∧ Below w.heap.size w w' := by
  have hmf : ∀ (fn : Fn) (first cap : Array Value) (w : World), (Instr.makeFunc fn first cap).run Tryz.prog w = .ok (.func fn first cap) w := fun _ _ _ _ => rfl
  have hbx := boxed_new w cp cs cd ca cb bp bs bd ba bb sv be st dsr
  unfold flowV
  go_enter Tryz.func91, Tryz.ntmps91
  go_wp2_with fail
  refine (pick_pf _ cp cs cd ca cb bp bs bd ba bb _ ?_ ?_).mono ?_
  · simp; omega
  · exact (hbx.alloc _ (by simp))
  rintro e w1 ⟨rfl, hb⟩
  have hb1 : Below w.heap.size w w1 := (((Below.refl _ _).alloc (Nat.le_refl _) _).alloc (by simp) _).trans (hb.mono (by simp; omega))
  have hz := hb.size
  obtain ⟨hc, hf⟩ := bcell hb
  clear hbx
  simp at hz
  have f4 : ∀ o, w1.frozen? ⟨w.heap.size + 1, o, none⟩ = false := fun o => by rw [hf _ _ (by simp)]; simp
  have c0 : w1.cell? ⟨w.heap.size + 1, 0, none⟩ = some (.int .u32 0) := by rw [hc _ _ (by simp)]; simp
  have c1 : w1.cell? ⟨w.heap.size + 1, 1, none⟩ = some (.int .u32 0) := by rw [hc _ _ (by simp)]; simp
  have c2 : w1.cell? ⟨w.heap.size + 1, 2, none⟩ = some (.int .i64 0) := by rw [hc _ _ (by simp)]; simp
  have c3 : w1.cell? ⟨w.heap.size + 1, 3, none⟩ = some (.int .i64 0) := by rw [hc _ _ (by simp)]; simp
  clear hb hc hf
  go_wp2_with fail
  refine (qends_c _ _ _ _ _ _).mono ?_
  rintro e w2 ⟨rfl, hb2⟩
  have g : ∀ o, w2.frozen? ⟨w.heap.size + 1, o, none⟩ = false := fun o => by rw [hb2.frozen (by simp; omega)]; exact f4 o
  have e0 := (hb2.cell (p := ⟨w.heap.size + 1, 0, none⟩) (by simp; omega)).trans c0
  have e1 := (hb2.cell (p := ⟨w.heap.size + 1, 1, none⟩) (by simp; omega)).trans c1
  have e2 := (hb2.cell (p := ⟨w.heap.size + 1, 2, none⟩) (by simp; omega)).trans c2
  have e3 := (hb2.cell (p := ⟨w.heap.size + 1, 3, none⟩) (by simp; omega)).trans c3
  have HB : Hid (Below w.heap.size w w2) := hb1.trans (hb2.mono hb1.size)
  clear hb1 hb2 c0 c1 c2 c3 f4
  go_wp2
  exact bodyPost_ret (by simp [results, Tryz.f91, go_sem, e0, e1, e2, e3]) rfl ⟨rfl, (((HB.out.setCell (by simp) _).setCell (by simp) _).setCell (by simp) _).setCell (by simp) _⟩
/-- A client's packet is found by its own ends. -/
theorem name_c (t p s d sp dp fl ttl : Int) (w : World) :
    Calls Tryz.prog 45 #[.agg (pkt t p s d sp dp fl ttl), .bool false] w fun e w' => e = .returned (tupV p s d sp dp) ∧ Below w.heap.size w w' := by
  unfold pkt tupV
  go_enter Tryz.func45, Tryz.ntmps45
  go_wp2_with fail
  exact bodyPost_ret (by simp [results, Tryz.f45, go_sem]) rfl ⟨rfl, (((Below.refl _ _).alloc (Nat.le_refl _) _).alloc (by simp) _).alloc (by simp; omega) _⟩
end Go.Proofs.YtngdebpaheejlaaGreatDoor
namespace Go.Proofs.YtngdebpaheejlaaGreatDoor
open Go.RowKit Go.Shelf
set_option linter.unusedSimpArgs false
set_option linter.unusedVariables false
attribute [local go_sem] bs_app bs_size bs_bt bs_extract numB_len zz_bs z_bs e_bs
/-- As long as it was, and the same from 24 on. -/
structure Kp (l l' : List Nat) : Prop where
  byt : Byt l'
  len : l'.length = l.length
  keep : ∀ i, 24 ≤ i → bt l' i = bt l i
theorem Kp.refl {l : List Nat} (h : Byt l) : Kp l l := ⟨h, rfl, fun _ _ => rfl⟩
theorem Kp.trans {l l1 l2 : List Nat} (h : Kp l l1) (k : Kp l1 l2) : Kp l l2 := ⟨k.byt, k.len.trans h.len, fun i hi => (k.keep i hi).trans (h.keep i hi)⟩
theorem setZ_kp {l : List Nat} (h : Byt l) (size at_ n : Nat) (h24 : 24 ≤ l.length) (hx : at_ + size ≤ 24) : Kp l (setZ size l at_ n) := by
  refine ⟨setZ_byt size h _ _, setZ_len size l at_ n (by omega), fun i hi => ?_⟩
  have hq : l.length = (l.length - at_ - size) + at_ + size := by omega
  have h1 : (l.take at_).length = at_ := by simp; omega
  have e : i = at_ + size + (i - at_ - size) := by omega
  unfold bt setZ
  rw [List.getD_eq_getElem?_getD, List.getD_eq_getElem?_getD, List.getElem?_append_right (by simp [numB_len]; omega)]
  simp only [List.length_append, numB_len, h1, List.getElem?_drop]
  rw [show at_ + size + (i - (at_ + size)) = i by omega]
theorem pset_any (l : List Nat) (hl : Byt l) (at_ size n : Nat) (hs : size = 1 ∨ size = 2 ∨ size = 4) (hn : n < 256 ^ size) (hlen : l.length ≤ 4000) (hx : at_ + size ≤ l.length) (w : World) :
    Calls Tryz.prog 170 #[.string (bs l), .int .i64 at_, .int .i64 size, .int .i64 n] w fun e w' => e = .returned (.tuple #[.string (bs (setZ size l at_ n)), .bool true]) ∧ Below w.heap.size w w' := by
  rcases hs with rfl | rfl | rfl
  · exact pset_1 l hl at_ n hn hlen hx w
  · exact pset_2 l hl at_ n hn hlen hx w
  · exact pset_4 l hl at_ n hn hlen hx w
set_option maxRecDepth 100000 in
theorem bput_c (bb : Nat) (l : List Nat) (hl : Byt l) (h24 : 24 ≤ l.length) (hlen : l.length ≤ 1500) (at_ size n : Nat) (hs : size = 1 ∨ size = 2 ∨ size = 4) (hn : n < 256 ^ size) (hx : at_ + size ≤ 24) (w : World) (hb : Has w bb 307 #[.string (bs l)]) :
    Calls Tryz.prog 150 #[.pointer (some ⟨bb, 0, none⟩), .int .i64 at_, .int .i64 size, .int .i64 n] w fun e w' => e = .returned (.tuple #[]) ∧ ∃ l', Kp l l' ∧ Has w' bb 307 #[.string (bs l')] ∧ Chg (fun b => b = bb) w w' := by
  have HS := Lib.hid (pset_any l hl at_ size n hs hn (by omega) (by omega))
  have HK := Lib.hid (setZ_kp hl size at_ n h24 hx)
  have c0 := hb.cell 0
  simp at c0
  obtain ⟨m, hm⟩ : ∃ m, setZ size l at_ n = m := ⟨_, rfl⟩
  rw [hm] at HS HK
  clear hm
  go_enter Tryz.func150, Tryz.ntmps150
  go_wp2_with fail
  refine (HS.out _).mono ?_
  rintro e w1 ⟨rfl, hb1⟩
  have hb' := hb.below hb1
  have c0 := hb'.cell 0
  have f0 := hb'.free 0
  simp at c0
  go_wp2_with fail
  refine bodyPost_end (v := .tuple #[]) (by simp [results, Tryz.f150, go_sem]) rfl ?_
  refine ⟨rfl, m, HK.out, ?_, (Chg.of_below hb1 : Chg (fun b => b = bb) w w1).set rfl _ _⟩
  have := hb'.set 0 (.string (bs m))
  simpa using this
set_option maxRecDepth 100000 in
theorem bget_c (bb : Nat) (l : List Nat) (hl : Byt l) (hlen : l.length ≤ 1500) (at_ size : Nat) (h1 : 1 ≤ size) (h2 : size ≤ 4) (hx : at_ + size ≤ l.length) (w : World) (hb : Has w bb 307 #[.string (bs l)]) :
    Calls Tryz.prog 151 #[.pointer (some ⟨bb, 0, none⟩), .int .i64 at_, .int .i64 size] w fun e w' => e = .returned (.int .i64 (valAt l at_ size : Nat)) ∧ Below w.heap.size w w' := by
  have HS := Lib.hid (pget_c l hl at_ size h1 h2 (by omega) hx)
  have c0 := hb.cell 0
  simp at c0
  go_enter Tryz.func151, Tryz.ntmps151
  go_wp2_with fail
  refine (HS.out _).mono ?_
  rintro e w1 ⟨rfl, hb1⟩
  go_wp2_with fail
  go_ret
  exact ⟨rfl, hb1⟩
set_option maxRecDepth 100000 in
theorem bcheck_c (bb : Nat) (l : List Nat) (hl : Byt l) (h24 : 24 ≤ l.length) (hlen : l.length ≤ 1500) (w : World) (hb : Has w bb 307 #[.string (bs l)]) :
    Calls Tryz.prog 153 #[.pointer (some ⟨bb, 0, none⟩), .int .i64 10, .int .i64 0, .int .i64 20] w fun e w' => e = .returned (.tuple #[]) ∧ ∃ l', Kp l l' ∧ Has w' bb 307 #[.string (bs l')] ∧ Chg (fun b => b = bb) w w' := by
  have HP := Lib.hid (fun m hm (h : 24 ≤ m.length) (h' : m.length ≤ 1500) n hn => bput_c bb m hm h h' 10 2 n (.inr (.inl rfl)) hn (by omega))
  have HC := Lib.hid (fun m hm h => pcheck_c m hm h)
  have HB := Lib.hid hl
  go_enter Tryz.func153, Tryz.ntmps153
  go_wp2_with fail
  refine (HP.out l HB.out h24 hlen 0 (by decide) _ hb).mono ?_
  rintro e w1 ⟨rfl, l1, k1, hb1, g1⟩
  have hk := Lib.hid k1
  have ll := k1.len
  clear k1
  have c0 := hb1.cell 0
  simp at c0
  have hxt : (l1.take 20).length ≤ 4000 := by simp; omega
  go_wp2_with fail
  refine (HC.out (l1.take 20) (byt_take hk.out.byt _) hxt _).mono ?_
  rintro e w2 ⟨rfl, b2⟩
  obtain ⟨c, hc⟩ : ∃ c, chk (l1.take 20) = c := ⟨_, rfl⟩
  have hcl : c ≤ 65535 := by rw [← hc]; exact chk_le _
  rw [hc]
  have hb2 := hb1.below b2
  clear hc
  go_wp2_with fail
  refine (HP.out l1 hk.out.byt (by omega) (by omega) c (by omega) _ hb2).mono ?_
  rintro e w3 ⟨rfl, l2, k2, hb3, g3⟩
  go_wp2_with fail
  refine bodyPost_end (v := .tuple #[]) (by simp [results, Tryz.f153, go_sem]) rfl ?_
  exact ⟨rfl, l2, hk.out.trans k2, hb3, (g1.trans (Chg.of_below b2)).trans g3⟩
set_option maxRecDepth 100000 in
theorem bouter_c (bb : Nat) (l : List Nat) (hl : Byt l) (h24 : 24 ≤ l.length) (hlen : l.length ≤ 1500) (t : Nat) (ht : valAt l 8 1 = t) (ht1 : 1 ≤ t) (ht2 : t ≤ 255) (s d : Nat) (hs : s < 4294967296) (hd : d < 4294967296) (w : World) (hb : Has w bb 307 #[.string (bs l)]) :
    Calls Tryz.prog 149 #[.pointer (some ⟨bb, 0, none⟩), .int .i64 20, .int .u32 s, .int .u32 d] w fun e w' => e = .returned (.tuple #[]) ∧ ∃ l', Kp l l' ∧ Has w' bb 307 #[.string (bs l')] ∧ Chg (fun b => b = bb) w w' := by
  have HP := Lib.hid (fun m hm (h : 24 ≤ m.length) (h' : m.length ≤ 1500) a z n hz hn hx => bput_c bb m hm h h' a z n hz hn hx)
  have HG := Lib.hid (fun W hb => bget_c bb l hl hlen 8 1 (by decide) (by decide) (by omega) W hb)
  rw [ht] at HG
  have HC := Lib.hid (fun m hm (h : 24 ≤ m.length) (h' : m.length ≤ 1500) => bcheck_c bb m hm h h')
  have HB := Lib.hid hl
  obtain ⟨t1, rfl⟩ : ∃ t1, t = t1 + 1 := ⟨t - 1, by omega⟩
  clear ht ht1
  have et : ((t1 + 1 : Nat) : Int) - 1 = (t1 : Int) := by omega
  go_enter Tryz.func149, Tryz.ntmps149
  go_wp2_with fail
  refine (HG.out _ hb).mono ?_
  rintro e w1 ⟨rfl, b1⟩
  have hb1 := hb.below b1
  go_wp2_with fail
  refine (HP.out l HB.out h24 hlen 8 1 t1 (.inl rfl) (by omega) (by decide) _ hb1).mono ?_
  rintro e w2 ⟨rfl, l2, k2, hb2, g2⟩
  have hk2 := Lib.hid k2
  have g2' := Lib.hid ((Chg.of_below b1 : Chg (fun b => b = bb) w w1).trans g2)
  clear k2 g2 b1
  go_wp2_with fail
  refine (HP.out l2 hk2.out.byt (by rw [hk2.out.len]; exact h24) (by rw [hk2.out.len]; exact hlen) 12 4 s (.inr (.inr rfl)) (by omega) (by decide) _ hb2).mono ?_
  rintro e w3 ⟨rfl, l3, k3, hb3, g3⟩
  have hk3 := Lib.hid (hk2.out.trans k3)
  have g3' := Lib.hid (g2'.out.trans g3)
  clear k3 g3 g2'
  go_wp2_with fail
  refine (HP.out l3 hk3.out.byt (by rw [hk3.out.len]; exact h24) (by rw [hk3.out.len]; exact hlen) 16 4 d (.inr (.inr rfl)) (by omega) (by decide) _ hb3).mono ?_
  rintro e w4 ⟨rfl, l4, k4, hb4, g4⟩
  have hk4 := Lib.hid (hk3.out.trans k4)
  have g4' := Lib.hid (g3'.out.trans g4)
  clear k4 g4 g3'
  go_wp2_with fail
  refine (HC.out l4 hk4.out.byt (by rw [hk4.out.len]; exact h24) (by rw [hk4.out.len]; exact hlen) _ hb4).mono ?_
  rintro e w5 ⟨rfl, l5, k5, hb5, g5⟩
  go_wp2_with fail
  refine bodyPost_end (v := .tuple #[]) (by simp [results, Tryz.f149, go_sem]) rfl ?_
  exact ⟨rfl, l5, hk4.out.trans k5, hb5, g4'.out.trans g5⟩
end Go.Proofs.YtngdebpaheejlaaGreatDoor
namespace Go.Proofs.YtngdebpaheejlaaGreatDoor
open Go.RowKit Go.Shelf
set_option linter.unusedSimpArgs false
set_option linter.unusedVariables false
attribute [local go_sem] bs_app bs_size bs_bt bs_extract numB_len zz_bs z_bs e_bs
set_option maxRecDepth 100000 in
set_option maxHeartbeats 3200000 in
theorem open_c (l : List Nat) (pr s d sp dp fl ttl ts td : Int) (tsp tdp : Nat) (L : Nat) (hL : l.length = L) (htt : 2 ≤ ttl) (h1 : tsp < 65536) (h2 : tdp < 65536)
    (hc : ∀ W, Calls Tryz.prog 41 #[.string (bs l)] W fun e w' => e = .returned (.tuple #[.agg (pkt L pr s d sp dp fl ttl), .int .i64 0]) ∧ Below W.heap.size W w') (w : World) :
    Calls Tryz.prog 146 #[.string (bs l), .int .i64 1, .agg #[.int .u32 ts, .int .u32 td, .int .i64 tsp, .int .i64 tdp]] w fun e w' => ∃ bb, e = .returned (.tuple #[.agg (pkt L pr s d sp dp fl ttl), .pointer (some ⟨bb, 0, none⟩), .int .i64 0]) ∧ w.heap.size ≤ bb ∧ Has w' bb 307 #[.string (bs l)] ∧ Below w.heap.size w w' := by
  have HC := Lib.hid hc
  have HP1 := Lib.hid (pput_2 tsp h1)
  have HP2 := Lib.hid (pput_2 tdp h2)
  have hz := zero137
  unfold pkt at *
  have htk : l.take L = l := by rw [← hL]; simp
  have htt' : ¬ ttl < 2 := by omega
  clear hc htt
  go_enter Tryz.func146, Tryz.ntmps146
  go_wp2_with fail
  refine (HC.out _).mono ?_
  rintro e w1 ⟨rfl, hb1⟩
  have hE1 : Has w1 w.heap.size 224 #[.int .u32 ts, .int .u32 td, .int .i64 tsp, .int .i64 tdp] := ((Has.new w #[.int .u32 ts, .int .u32 td, .int .i64 tsp, .int .i64 tdp] 224).alloc _).below hb1
  have hR1 : Has w1 (w.heap.size + 1) 137 #[.int .i64 0, .int .i64 0, .int .i64 0, .int .i64 0, .int .u32 0, .int .u32 0, .int .i64 0, .int .i64 0, .int .i64 0, .int .i64 0, .int .u32 0, .int .u32 0, .int .i64 0, .int .i64 0] := (has_at (w := w.alloc (.cells #[.int .u32 ts, .int .u32 td, .int .i64 tsp, .int .i64 tdp] 224)) (by simp)).below hb1
  have B1 := Lib.hid ((((Below.refl w.heap.size w).alloc (Nat.le_refl _) _).alloc (by simp) _).trans (hb1.mono (by simp; omega)))
  have q1 := hb1.size
  simp at q1
  clear hb1
  have hlt1 : w.heap.size < w1.heap.size := by omega
  have hlt2 : w.heap.size + 1 < w1.heap.size := by omega
  have e2 := hE1.cell 2
  have e3 := hE1.cell 3
  simp at e2 e3
  go_wp2_with fail
  refine (HP1.out _).mono ?_
  rintro e w2 ⟨rfl, hb2⟩
  have hE2 := (hE1.alloc (.cells #[.int .i64 1, .int .i64 20, .int .i64 L, .int .i64 pr, .int .u32 s, .int .u32 d, .int .i64 sp, .int .i64 dp, .int .i64 fl, .int .i64 ttl, .int .u32 s, .int .u32 d, .int .i64 0, .int .i64 0] 137)).below hb2
  have hR2 := (hR1.alloc (.cells #[.int .i64 1, .int .i64 20, .int .i64 L, .int .i64 pr, .int .u32 s, .int .u32 d, .int .i64 sp, .int .i64 dp, .int .i64 fl, .int .i64 ttl, .int .u32 s, .int .u32 d, .int .i64 0, .int .i64 0] 137)).below hb2
  have hP2 := (Has.new w1 #[.int .i64 1, .int .i64 20, .int .i64 L, .int .i64 pr, .int .u32 s, .int .u32 d, .int .i64 sp, .int .i64 dp, .int .i64 fl, .int .i64 ttl, .int .u32 s, .int .u32 d, .int .i64 0, .int .i64 0] 137).below hb2
  have B2 := Lib.hid ((B1.out.alloc B1.out.size (.cells #[.int .i64 1, .int .i64 20, .int .i64 L, .int .i64 pr, .int .u32 s, .int .u32 d, .int .i64 sp, .int .i64 dp, .int .i64 fl, .int .i64 ttl, .int .u32 s, .int .u32 d, .int .i64 0, .int .i64 0] 137)).trans (hb2.mono (by have := B1.out.size; simp; omega)))
  have q2 := hb2.size
  simp at q2
  clear hb2 hE1 hR1 B1
  have e2 := hE2.cell 2
  have e3 := hE2.cell 3
  simp at e2 e3
  go_wp2_with fail
  refine (HP2.out _).mono ?_
  rintro e w3 ⟨rfl, hb3⟩
  have hR3 := hR2.below hb3
  have hP3 := hP2.below hb3
  have B3 := Lib.hid (B2.out.trans (hb3.mono B2.out.size))
  have q3 := hb3.size
  clear hb3 hE2 hR2 hP2 B2
  have hlt3 := hR3.lt
  have hlt4 := hP3.lt
  have c0 := hP3.cell 0
  have c1 := hP3.cell 1
  have c2 := hP3.cell 2
  have c3 := hP3.cell 3
  have c4 := hP3.cell 4
  have c5 := hP3.cell 5
  have c6 := hP3.cell 6
  have c7 := hP3.cell 7
  have c8 := hP3.cell 8
  have c9 := hP3.cell 9
  have c10 := hP3.cell 10
  have c11 := hP3.cell 11
  have c12 := hP3.cell 12
  have c13 := hP3.cell 13
  simp at c0 c1 c2 c3 c4 c5 c6 c7 c8 c9 c10 c11 c12 c13
  have r0 := hR3.cell 0
  have fr0 := hR3.free 0
  have r1 := hR3.cell 1
  have fr1 := hR3.free 1
  have r2 := hR3.cell 2
  have fr2 := hR3.free 2
  have r3 := hR3.cell 3
  have fr3 := hR3.free 3
  have r4 := hR3.cell 4
  have fr4 := hR3.free 4
  have r5 := hR3.cell 5
  have fr5 := hR3.free 5
  have r6 := hR3.cell 6
  have fr6 := hR3.free 6
  have r7 := hR3.cell 7
  have fr7 := hR3.free 7
  have r8 := hR3.cell 8
  have fr8 := hR3.free 8
  have r9 := hR3.cell 9
  have fr9 := hR3.free 9
  have r10 := hR3.cell 10
  have fr10 := hR3.free 10
  have r11 := hR3.cell 11
  have fr11 := hR3.free 11
  have r12 := hR3.cell 12
  have fr12 := hR3.free 12
  have r13 := hR3.cell 13
  have fr13 := hR3.free 13
  simp at r0 r1 r2 r3 r4 r5 r6 r7 r8 r9 r10 r11 r12 r13
  go_wp2_with fail
  go_region
  have hR4 := ((((((((((((((hR3.set 0 (.int .i64 1)).set 1 (.int .i64 20)).set 2 (.int .i64 L)).set 3 (.int .i64 pr)).set 4 (.int .u32 s)).set 5 (.int .u32 d)).set 6 (.int .i64 sp)).set 7 (.int .i64 dp)).set 8 (.int .i64 fl)).set 9 (.int .i64 ttl)).set 10 (.int .u32 s)).set 11 (.int .u32 d)).set 12 (.int .i64 0)).set 13 (.int .i64 0))
  have B4 := Lib.hid ((((((((((((((B3.out.setCell (p := ⟨w.heap.size + 1, 0, none⟩) (Nat.le_succ _) (.int .i64 1)).setCell (p := ⟨w.heap.size + 1, 1, none⟩) (Nat.le_succ _) (.int .i64 20)).setCell (p := ⟨w.heap.size + 1, 2, none⟩) (Nat.le_succ _) (.int .i64 L)).setCell (p := ⟨w.heap.size + 1, 3, none⟩) (Nat.le_succ _) (.int .i64 pr)).setCell (p := ⟨w.heap.size + 1, 4, none⟩) (Nat.le_succ _) (.int .u32 s)).setCell (p := ⟨w.heap.size + 1, 5, none⟩) (Nat.le_succ _) (.int .u32 d)).setCell (p := ⟨w.heap.size + 1, 6, none⟩) (Nat.le_succ _) (.int .i64 sp)).setCell (p := ⟨w.heap.size + 1, 7, none⟩) (Nat.le_succ _) (.int .i64 dp)).setCell (p := ⟨w.heap.size + 1, 8, none⟩) (Nat.le_succ _) (.int .i64 fl)).setCell (p := ⟨w.heap.size + 1, 9, none⟩) (Nat.le_succ _) (.int .i64 ttl)).setCell (p := ⟨w.heap.size + 1, 10, none⟩) (Nat.le_succ _) (.int .u32 s)).setCell (p := ⟨w.heap.size + 1, 11, none⟩) (Nat.le_succ _) (.int .u32 d)).setCell (p := ⟨w.heap.size + 1, 12, none⟩) (Nat.le_succ _) (.int .i64 0)).setCell (p := ⟨w.heap.size + 1, 13, none⟩) (Nat.le_succ _) (.int .i64 0))
  simp at hR4
  obtain ⟨w4, hw4⟩ : ∃ w4, w4 = ((((((((((((((w3.setCell ⟨w.heap.size + 1, 0, none⟩ (.int .i64 1)).setCell ⟨w.heap.size + 1, 1, none⟩ (.int .i64 20)).setCell ⟨w.heap.size + 1, 2, none⟩ (.int .i64 L)).setCell ⟨w.heap.size + 1, 3, none⟩ (.int .i64 pr)).setCell ⟨w.heap.size + 1, 4, none⟩ (.int .u32 s)).setCell ⟨w.heap.size + 1, 5, none⟩ (.int .u32 d)).setCell ⟨w.heap.size + 1, 6, none⟩ (.int .i64 sp)).setCell ⟨w.heap.size + 1, 7, none⟩ (.int .i64 dp)).setCell ⟨w.heap.size + 1, 8, none⟩ (.int .i64 fl)).setCell ⟨w.heap.size + 1, 9, none⟩ (.int .i64 ttl)).setCell ⟨w.heap.size + 1, 10, none⟩ (.int .u32 s)).setCell ⟨w.heap.size + 1, 11, none⟩ (.int .u32 d)).setCell ⟨w.heap.size + 1, 12, none⟩ (.int .i64 0)).setCell ⟨w.heap.size + 1, 13, none⟩ (.int .i64 0)) := ⟨_, rfl⟩
  have q4 : w4.heap.size = w3.heap.size := by rw [hw4]; simp
  rw [← hw4] at hR4 B4 ⊢
  have hR5 := (hR4.alloc (.cells #[.string (bs l)] 307)).drew
  have hX5 := (has_at (w := w4) (xs := #[.string (bs l)]) (t := 307) (b := w3.heap.size) q4.symm).drew
  have B5 := Lib.hid (B4.out.alloc B4.out.size (.cells #[.string (bs l)] 307)).drew
  obtain ⟨w5, hw5⟩ : ∃ w5, w5 = (w4.alloc (.cells #[.string (bs l)] 307)).drew := ⟨_, rfl⟩
  rw [← hw5] at hR5 hX5 B5 ⊢
  clear hw4 hw5 hR4 B4 hR3 hP3 B3 c0 r0 fr0 c1 r1 fr1 c2 r2 fr2 c3 r3 fr3 c4 r4 fr4 c5 r5 fr5 c6 r6 fr6 c7 r7 fr7 c8 r8 fr8 c9 r9 fr9 c10 r10 fr10 c11 r11 fr11 c12 r12 fr12 c13 r13 fr13
  have c0 := hR5.cell 0
  have c1 := hR5.cell 1
  have c2 := hR5.cell 2
  have c3 := hR5.cell 3
  have c4 := hR5.cell 4
  have c5 := hR5.cell 5
  have c6 := hR5.cell 6
  have c7 := hR5.cell 7
  have c8 := hR5.cell 8
  have c9 := hR5.cell 9
  have c10 := hR5.cell 10
  have c11 := hR5.cell 11
  have c12 := hR5.cell 12
  have c13 := hR5.cell 13
  simp at c0 c1 c2 c3 c4 c5 c6 c7 c8 c9 c10 c11 c12 c13
  go_wp2_with fail
  refine bodyPost_ret (v := .tuple #[.agg #[.int .i64 1, .int .i64 20, .int .i64 L, .int .i64 pr, .int .u32 s, .int .u32 d, .int .i64 sp, .int .i64 dp, .int .i64 fl, .int .i64 ttl, .int .u32 s, .int .u32 d, .int .i64 0, .int .i64 0], .pointer (some ⟨w3.heap.size, 0, none⟩), .int .i64 0]) ?_ rfl ⟨_, rfl, by omega, hX5, B5.out⟩
  simp [results, Tryz.f146, go_sem, c0, c1, c2, c3, c4, c5, c6, c7, c8, c9, c10, c11, c12, c13]
end Go.Proofs.YtngdebpaheejlaaGreatDoor
namespace Go.Proofs.YtngdebpaheejlaaGreatDoor
open Go.RowKit Go.Shelf
set_option linter.unusedSimpArgs false
set_option linter.unusedVariables false
attribute [local go_sem] bs_app bs_size bs_bt bs_extract numB_len zz_bs z_bs e_bs
theorem bt_drop (l : List Nat) (k i : Nat) : bt (l.drop k) i = bt l (k + i) := by
  unfold bt
  rw [List.getD_eq_getElem?_getD, List.getD_eq_getElem?_getD, List.getElem?_drop]
theorem Seg.kp {pr a : Nat} {l l' : List Nat} (h : Seg pr a (l.drop 20)) (k : Kp l l') : Seg pr a (l'.drop 20) := by
  have hl : (l'.drop 20).length = (l.drop 20).length := by simp [k.len]
  refine ⟨byt_drop k.byt _, by rw [hl]; exact h.lo, by rw [hl]; exact h.fit, by rw [hl]; exact h.hi, ?_⟩
  refine h.kind.imp id fun ⟨h1, h2, h3⟩ => ⟨h1, h2, ?_⟩
  rw [hl, ← h3]
  simp only [valAt, bt_drop]
  rw [k.keep _ (by omega), k.keep _ (by omega)]
set_option maxRecDepth 100000 in
set_option maxHeartbeats 1600000 in
theorem turned_c (l : List Nat) (pr a s d sp dp fl ttl ts td tsp tdp L : Nat) (hl : Byt l) (hL : l.length = L) (hL2 : L ≤ 1500) (hL1 : 28 ≤ L) (hv : valAt l 8 1 = ttl) (htt : 2 ≤ ttl) (htu : ttl ≤ 255) (h0 : ts < 4294967296) (h0' : td < 4294967296) (h1 : tsp < 65536) (h2 : tdp < 65536) (hs : Seg pr a (l.drop 20))
    (hc : ∀ W, Calls Tryz.prog 41 #[.string (bs l)] W fun e w' => e = .returned (.tuple #[.agg (pkt L pr s d sp dp fl ttl), .int .i64 0]) ∧ Below W.heap.size W w') (w : World) :
    Calls Tryz.prog 90 #[.string (bs l), .agg #[.int .u32 ts, .int .u32 td, .int .i64 tsp, .int .i64 tdp]] w fun e w' => ∃ l', l'.length = L ∧ e = .returned (.tuple #[.string (bs l'), .int .i64 0]) ∧ Below w.heap.size w w' := by
  have HO := Lib.hid (open_c l pr s d sp dp fl ttl ts td tsp tdp L hL (by omega) h1 h2 hc)
  unfold pkt at HO
  have HT := Lib.hid (fun bb W hb => bouter_c bb l hl (by omega) (by omega) ttl hv (by omega) htu ts td h0 h0' W hb)
  have HP := Lib.hid (fun bb m hm (h : 24 ≤ m.length) (h' : m.length ≤ 1500) at_ n hn hx => bput_c bb m hm h h' at_ 2 n (.inr (.inl rfl)) hn hx)
  have HL := Lib.hid hs.pl
  have HG := Lib.hid (fun bb m hm (h' : m.length ≤ 1500) hx W hb => bget_c bb m hm h' 26 2 (by decide) (by decide) hx W hb)
  have HF := Lib.hid (fun m (k : Kp l m) => pfill8_c pr a ts td (m.drop 20) (hs.kp k) h0 h0')
  have hap := hs.kind
  have hk0 := Lib.hid (Kp.refl hl)
  clear hc hs hv
  go_enter Tryz.func90, Tryz.ntmps90
  go_wp2_with fail
  refine (HO.out _).mono ?_
  rintro e w1 ⟨bb, rfl, hbb, hX1, hb1⟩
  have hE1 : Has w1 w.heap.size 224 #[.int .u32 ts, .int .u32 td, .int .i64 tsp, .int .i64 tdp] := (Has.new w _ _).below hb1
  have B1 := Lib.hid (((Below.refl w.heap.size w).alloc (Nat.le_refl _) _).trans (hb1.mono (by simp)))
  have q1 := hb1.size
  simp at q1 hbb
  have hlb := hX1.lt
  obtain ⟨n1, hn1⟩ : ∃ n1, w1.heap.size = n1 := ⟨_, rfl⟩
  rw [hn1] at q1 hlb
  have hE2 := hE1.alloc (.cells #[.int .i64 1, .int .i64 20, .int .i64 L, .int .i64 pr, .int .u32 s, .int .u32 d, .int .i64 sp, .int .i64 dp, .int .i64 fl, .int .i64 ttl, .int .u32 s, .int .u32 d, .int .i64 0, .int .i64 0] 137)
  have hP2 : Has (w1.alloc (.cells #[.int .i64 1, .int .i64 20, .int .i64 L, .int .i64 pr, .int .u32 s, .int .u32 d, .int .i64 sp, .int .i64 dp, .int .i64 fl, .int .i64 ttl, .int .u32 s, .int .u32 d, .int .i64 0, .int .i64 0] 137)) n1 137 #[.int .i64 1, .int .i64 20, .int .i64 L, .int .i64 pr, .int .u32 s, .int .u32 d, .int .i64 sp, .int .i64 dp, .int .i64 fl, .int .i64 ttl, .int .u32 s, .int .u32 d, .int .i64 0, .int .i64 0] := has_at hn1.symm
  have hX2 := hX1.alloc (.cells #[.int .i64 1, .int .i64 20, .int .i64 L, .int .i64 pr, .int .u32 s, .int .u32 d, .int .i64 sp, .int .i64 dp, .int .i64 fl, .int .i64 ttl, .int .u32 s, .int .u32 d, .int .i64 0, .int .i64 0] 137)
  have B2 := Lib.hid (B1.out.alloc B1.out.size (.cells #[.int .i64 1, .int .i64 20, .int .i64 L, .int .i64 pr, .int .u32 s, .int .u32 d, .int .i64 sp, .int .i64 dp, .int .i64 fl, .int .i64 ttl, .int .u32 s, .int .u32 d, .int .i64 0, .int .i64 0] 137))
  have hk2 := hk0
  have ll2 := hL
  clear hb1
  have d9 : w.heap.size < w1.heap.size := by omega
  have d0 : w.heap.size < n1 := by omega
  have d1 : w.heap.size ≠ n1 := by omega
  have d2 : bb ≠ n1 := by omega
  obtain ⟨w2, hw2⟩ : ∃ w2, w2 = w1.alloc (.cells #[.int .i64 1, .int .i64 20, .int .i64 L, .int .i64 pr, .int .u32 s, .int .u32 d, .int .i64 sp, .int .i64 dp, .int .i64 fl, .int .i64 ttl, .int .u32 s, .int .u32 d, .int .i64 0, .int .i64 0] 137) := ⟨_, rfl⟩
  rw [← hw2] at hE2 hP2 hX2 B2
  have p1 := hP2.cell 1
  have p3 := hP2.cell 3
  have e0 := hE2.cell 0
  have e1 := hE2.cell 1
  have e2 := hE2.cell 2
  have e3 := hE2.cell 3
  have x0 := hX2.cell 0
  simp at p1 p3 e0 e1 e2 e3 x0
  rw [hw2] at p1 p3 e0 e1 e2 e3 x0
  rw [← hn1] at p1 p3
  go_wp2_with fail
  rw [← hw2]
  try simp only [hn1]
  clear hw2
  refine (HT.out bb _ hX2).mono ?_
  rintro e w3 ⟨rfl, l3, k, hX3, g⟩
  have hE3 : Has w3 w.heap.size 224 _ := (g.block _ hE2.lt (by omega)).trans hE2
  have hP3 : Has w3 n1 137 _ := (g.block _ hP2.lt (by omega)).trans hP2
  have hk3 := Lib.hid (hk2.out.trans k)
  have B3 := Lib.hid (B2.out.trans (g.below (fun b hb => by rw [hb]; omega) B2.out.size))
  have ll3 : l3.length = L := by rw [k.len]; exact ll2
  clear hE2 hP2 hk2 B2 g k p1 p3 e0 e1 e2 e3 x0
  have p1 := hP3.cell 1
  have p3 := hP3.cell 3
  have e0 := hE3.cell 0
  have e1 := hE3.cell 1
  have e2 := hE3.cell 2
  have e3 := hE3.cell 3
  have x0 := hX3.cell 0
  simp at p1 p3 e0 e1 e2 e3 x0
  go_wp2_with fail
  refine (HP.out bb l3 hk3.out.byt (by omega) (by omega) 20 tsp (by omega) (by decide) _ hX3).mono ?_
  rintro e w4 ⟨rfl, l4, k, hX4, g⟩
  have hE4 : Has w4 w.heap.size 224 _ := (g.block _ hE3.lt (by omega)).trans hE3
  have hP4 : Has w4 n1 137 _ := (g.block _ hP3.lt (by omega)).trans hP3
  have hk4 := Lib.hid (hk3.out.trans k)
  have B4 := Lib.hid (B3.out.trans (g.below (fun b hb => by rw [hb]; omega) B3.out.size))
  have ll4 : l4.length = L := by rw [k.len]; exact ll3
  clear hE3 hP3 hk3 B3 g k p1 p3 e0 e1 e2 e3 x0
  have p1 := hP4.cell 1
  have p3 := hP4.cell 3
  have e0 := hE4.cell 0
  have e1 := hE4.cell 1
  have e2 := hE4.cell 2
  have e3 := hE4.cell 3
  have x0 := hX4.cell 0
  simp at p1 p3 e0 e1 e2 e3 x0
  go_wp2_with fail
  refine (HP.out bb l4 hk4.out.byt (by omega) (by omega) 22 tdp (by omega) (by decide) _ hX4).mono ?_
  rintro e w5 ⟨rfl, l5, k, hX5, g⟩
  have hE5 : Has w5 w.heap.size 224 _ := (g.block _ hE4.lt (by omega)).trans hE4
  have hP5 : Has w5 n1 137 _ := (g.block _ hP4.lt (by omega)).trans hP4
  have hk5 := Lib.hid (hk4.out.trans k)
  have B5 := Lib.hid (B4.out.trans (g.below (fun b hb => by rw [hb]; omega) B4.out.size))
  have ll5 : l5.length = L := by rw [k.len]; exact ll4
  clear hE4 hP4 hk4 B4 g k p1 p3 e0 e1 e2 e3 x0
  have p1 := hP5.cell 1
  have p3 := hP5.cell 3
  have e0 := hE5.cell 0
  have e1 := hE5.cell 1
  have e2 := hE5.cell 2
  have e3 := hE5.cell 3
  have x0 := hX5.cell 0
  simp at p1 p3 e0 e1 e2 e3 x0
  go_wp2_with fail
  refine (HL.out _).mono ?_
  rintro e w6 ⟨rfl, hb6⟩
  have hE6 := hE5.below hb6
  have hP6 := hP5.below hb6
  have hX6 := hX5.below hb6
  have B6 := Lib.hid (B5.out.trans (hb6.mono B5.out.size))
  clear hE5 hP5 hX5 B5 hb6 p1 p3 e0 e1 e2 e3 x0
  have p1 := hP6.cell 1
  have p3 := hP6.cell 3
  have e0 := hE6.cell 0
  have e1 := hE6.cell 1
  have e2 := hE6.cell 2
  have e3 := hE6.cell 3
  have x0 := hX6.cell 0
  simp at p1 p3 e0 e1 e2 e3 x0
  have htk : l5.take L = l5 := by rw [← ll5]; simp
  rcases hap with ⟨rfl, rfl⟩ | ⟨rfl, rfl, hvv⟩
  · go_wp2_with fail
    clear p1 p3 e0 e1 e2 e3 x0
    have p1 := fun V : Gr w6 => (V.has hP6).cell 1
    have p3 := fun V : Gr w6 => (V.has hP6).cell 3
    have e0 := fun V : Gr w6 => (V.has hE6).cell 0
    have e1 := fun V : Gr w6 => (V.has hE6).cell 1
    have x0 := fun V : Gr w6 => (V.has hX6).cell 0
    simp at p1 p3 e0 e1 x0
    refine wp_region_grows_mid 14 (by kernel_rfl) (by kernel_rfl) ?_
    simp only [List.take_succ_cons, List.take_zero, List.drop_succ_cons, List.drop_zero]
    repeat (go_big_quiet_step (fail))
    refine wpQuiet_nil ?_
    intro V
    go_wp2_with fail
    refine (HF.out l5 hk5.out _).mono ?_
    rintro e w8 ⟨l8, y8, len8, rfl, hb8⟩
    go_wp2_with fail
    repeat (go_big_quiet_step (fail))
    refine wpQuiet_nil ?_
    have hP8 := (V.has hP6).below hb8
    have hX8 := (V.has hX6).below hb8
    have B8 := Lib.hid ((B6.out.trans (V.2.mono B6.out.size)).trans (hb8.mono (by have := V.2.size; have := B6.out.size; omega)))
    clear p1 p3 e0 e1 x0
    have p1 := fun V : Gr w8 => (V.has hP8).cell 1
    have x0 := fun V : Gr w8 => (V.has hX8).cell 0
    simp at p1 x0
    simp at len8
    go_wp2_with fail
    refine wp_region_grows (by kernel_rfl) (by kernel_rfl) ?_
    repeat (go_big_quiet_step (fail))
    refine wpQuiet_nil ?_
    intro w9 hw'
    have hb9 : Below w8.heap.size w8 w9 := by obtain ⟨V, rfl⟩ := hw'; exact V.2
    clear hw'
    go_wp2_with fail
    go_ret2
    exact ⟨_, by simp; omega, rfl, B8.out.trans (hb9.mono B8.out.size)⟩
  · clear hvv
    go_wp2_with fail
    refine (HG.out bb l5 hk5.out.byt (by omega) (by omega) _ hX6).mono ?_
    rintro e w7 ⟨rfl, hb7⟩
    have hE7 := hE6.below hb7
    have hP7 := hP6.below hb7
    have hX7 := hX6.below hb7
    have B7 := Lib.hid (B6.out.trans (hb7.mono B6.out.size))
    clear hE6 hP6 hX6 B6 hb7 p1 p3 e0 e1 e2 e3 x0
    have x0 := hX7.cell 0
    simp at x0
    obtain ⟨q, hq⟩ : ∃ q, valAt l5 26 2 = q := ⟨_, rfl⟩
    rw [hq]
    by_cases q0 : q = 0
    · subst q0
      go_wp2_with fail
      go_ret2
      exact ⟨l5, ll5, rfl, B7.out⟩
    · have qi : ¬ (q : Int) = 0 := by omega
      go_wp2_with fail
      clear x0
      have p1 := fun V : Gr w7 => (V.has hP7).cell 1
      have p3 := fun V : Gr w7 => (V.has hP7).cell 3
      have e0 := fun V : Gr w7 => (V.has hE7).cell 0
      have e1 := fun V : Gr w7 => (V.has hE7).cell 1
      have x0 := fun V : Gr w7 => (V.has hX7).cell 0
      simp at p1 p3 e0 e1 x0
      refine wp_region_grows_mid 14 (by kernel_rfl) (by kernel_rfl) ?_
      simp only [List.take_succ_cons, List.take_zero, List.drop_succ_cons, List.drop_zero]
      repeat (go_big_quiet_step (fail))
      refine wpQuiet_nil ?_
      intro V
      go_wp2_with fail
      refine (HF.out l5 hk5.out _).mono ?_
      rintro e w8 ⟨l8, y8, len8, rfl, hb8⟩
      go_wp2_with fail
      repeat (go_big_quiet_step (fail))
      refine wpQuiet_nil ?_
      have hP8 := (V.has hP7).below hb8
      have hX8 := (V.has hX7).below hb8
      have B8 := Lib.hid ((B7.out.trans (V.2.mono B7.out.size)).trans (hb8.mono (by have := V.2.size; have := B7.out.size; omega)))
      clear p1 p3 e0 e1 x0
      have p1 := fun V : Gr w8 => (V.has hP8).cell 1
      have x0 := fun V : Gr w8 => (V.has hX8).cell 0
      simp at p1 x0
      simp at len8
      go_wp2_with fail
      refine wp_region_grows (by kernel_rfl) (by kernel_rfl) ?_
      repeat (go_big_quiet_step (fail))
      refine wpQuiet_nil ?_
      intro w9 hw'
      have hb9 : Below w8.heap.size w8 w9 := by obtain ⟨V, rfl⟩ := hw'; exact V.2
      clear hw'
      go_wp2_with fail
      go_ret2
      exact ⟨_, by simp; omega, rfl, B8.out.trans (hb9.mono B8.out.size)⟩
end Go.Proofs.YtngdebpaheejlaaGreatDoor
