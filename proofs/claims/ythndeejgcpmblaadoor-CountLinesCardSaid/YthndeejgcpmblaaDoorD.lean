/- The walk of Lines. -/
import Derived.Test.YthndeejgcpmblaaDoorC
import Derived.Maps.AppendAt
import Derived.OwnWalk
namespace Go.Proofs.YthndeejgcpmblaaDoor
open Go.RowKit
set_option linter.unusedSimpArgs false
set_option linter.unusedVariables false

theorem info9 : (Tryd.prog.info? 9).map (fun i => (i.zero, i.size, i.bytes)) = some (some (.string ⟨#[]⟩), 1, 16) := by kernel_rfl
theorem own_below {w w' : World} {base n : Nat} {e : TypeId} {size : Nat} {v : Value} {xs : List Value} (h : w.ownsRow base e size v n xs) (hb : Below w.heap.size w w') : w'.ownsRow base e size v n xs := by
  refine ⟨h.1, ?_⟩
  rcases h.2 with q | ⟨g, cap, cur, rfl, hg, hh, rest⟩
  · exact .inl q
  · exact .inr ⟨g, cap, cur, rfl, hg, (hb.block g ((h.lt g rfl).2)).trans hh, rest⟩

/-- The lines of the first j reasons. -/
def line (D : Nat → ByteArray) (f : Nat → Nat) (k : Nat) : ByteArray := wd k ++ ⟨#[32]⟩ ++ D (f k)
def ln (D : Nat → ByteArray) (f : Nat → Nat) : Nat → List ByteArray
  | 0 => []
  | j + 1 => ln D f j ++ if 0 < f j then [line D f j] else []
theorem ln_len (D : Nat → ByteArray) (f : Nat → Nat) : ∀ j, (ln D f j).length ≤ j
  | 0 => Nat.le_refl _
  | j + 1 => by have := ln_len D f j; unfold ln; split <;> simp <;> omega
theorem wordsV_at (k : Nat) (h : k < 22) : wordsV[k]'(show k < wordsV.size from h) = .string (wd k) := by
  have := wordsV_get k h
  rw [Array.getElem?_eq_getElem (show k < wordsV.size from h)] at this
  exact Option.some.inj this

theorem ln_succ (D : Nat → ByteArray) (f : Nat → Nat) (j : Nat) : ln D f (j + 1) = ln D f j ++ if 0 < f j then [line D f j] else [] := rfl
theorem index_w (j : Nat) (h : j < 22) (W : World) : (Instr.index 46 (.agg wordsV) (.int .i64 j)).run Tryd.prog W = .ok (.string (wd j)) W := by
  have hg := wordsV_get j h
  have h2 : (0 : Int) ≤ j ∧ (j : Int) < 22 := by omega
  have hs : (sizeOf 9).run Tryd.prog W = .ok 1 W := by kernel_rfl
  have hu : (underlying 46).run Tryd.prog W = .ok (.array 22 9) W := by kernel_rfl
  simp [Instr.index, asIntOf, Sem.run_bind, hu, h2, hs, part]
  rw [if_pos h, hg]
  rfl
theorem wd_size : ∀ k, k < 22 → (wd k).size ≤ 8 := by
  intro k h
  match k, h with
  | 0, _ => exact (by decide)
  | 1, _ => exact (by decide)
  | 2, _ => exact (by decide)
  | 3, _ => exact (by decide)
  | 4, _ => exact (by decide)
  | 5, _ => exact (by decide)
  | 6, _ => exact (by decide)
  | 7, _ => exact (by decide)
  | 8, _ => exact (by decide)
  | 9, _ => exact (by decide)
  | 10, _ => exact (by decide)
  | 11, _ => exact (by decide)
  | 12, _ => exact (by decide)
  | 13, _ => exact (by decide)
  | 14, _ => exact (by decide)
  | 15, _ => exact (by decide)
  | 16, _ => exact (by decide)
  | 17, _ => exact (by decide)
  | 18, _ => exact (by decide)
  | 19, _ => exact (by decide)
  | 20, _ => exact (by decide)
  | 21, _ => exact (by decide)
  | n + 22, h => exact absurd h (by omega)
set_option maxRecDepth 100000 in
set_option maxHeartbeats 1600000 in
theorem lines_c (cb mb hi : Nat) (f : Nat → Nat) (D : Nat → ByteArray) (w : World) (h : Ct w cb mb hi f) (hDs : ∀ k, k < 22 → 0 < f k → (D (f k)).size ≤ 100) (hD : ∀ k, k < 22 → 0 < f k → ∀ W : World, Below w.heap.size w W → Calls Tryd.prog 22 #[.int .i64 (f k)] W fun e w' => e = .returned (.string (D (f k))) ∧ Below W.heap.size W w') :
    Calls Tryd.prog 16 #[.pointer (some ⟨cb, 0, none⟩)] w fun e w' => ∃ v, e = .returned v ∧ w'.ownsRow w.heap.size 9 1 v (ln D f 22).length ((ln D f 22).map .string) ∧ Below w.heap.size w w' := by
  obtain ⟨i9, hi9, hz9, hs9, hb9⟩ := info_parts info9
  have H := Lib.hid h
  have HD := Lib.hid hD
  have HDS := Lib.hid hDs
  clear h hD hDs
  have hsz : wordsV.size = 22 := rfl
  go_enter Tryd.func16, Tryd.ntmps16
  go_wp2_with fail
  refine (names_b w).mono ?_
  rintro e w1 ⟨rfl, hb1⟩
  go_wp2_with fail
  go_loopw [2, 7] (fun v i wr => ∃ j : Nat, j ≤ 22 ∧ i = .int .i64 j ∧ wr.ownsRow w.heap.size 9 1 v (ln D f j).length ((ln D f j).map .string) ∧ Below w.heap.size w wr) (fun _ i _ => 22 - (intOf i).toNat)
  case atStart => exact ⟨0, by omega, rfl, ⟨by simp [ln], .inl ⟨rfl, by simp [ln]⟩⟩, hb1⟩
  case round =>
    obtain ⟨j, hj, rfl, hown, hb⟩ := hrel
    by_cases hlt : j < 22
    · have hji : (j : Int) < 22 := by omega
      have C := H.out.below hb
      have c0 := C.head.cell 0
      have lk := C.look j hlt _ rfl
      have hg := index_w j hlt
      by_cases hp : 0 < f j
      · have hI := HD.out j hlt hp
        have hN : ln D f (j + 1) = ln D f j ++ [line D f j] := by rw [ln_succ, if_pos hp]
        have HN := Lib.hid hN
        have hl := ln_len D f j
        have hpi : (0 : Int) < (f j : Int) := by omega
        have hw8 := wd_size j hlt
        have hd8 := HDS.out j hlt hp
        have hz1 : ¬ (9223372036854775807 < (wd j).size + 1) := by omega
        have hz2 : ¬ (9223372036854775807 < (wd j).size + 1 + (D (f j)).size) := by omega
        clear hN
        go_wp2_with fail
        refine (hI _ (by first | exact hb | exact hb.drew)).mono ?_
        rintro e w2 ⟨rfl, hb2⟩
        have own2 := own_below hown hb2
        have hbB := hb.trans (hb2.mono hb.size)
        have own3 := own2.alloc (.cells #[.string (wd j ++ ⟨#[32]⟩ ++ D (f j))] 9)
        clear own2 hown hb2 hb C c0 lk hg
        go_wp2_with (at_builtin; go_loud (refine wpList_append_own_at _ rfl _ _ 37 rfl w.heap.size 9 i9 (.string ⟨#[]⟩) 1 16 Tryd.underlying37 hi9 hz9 hs9 hb9 rfl (by decide) _ _ _ rfl own3 ⟨w2.heap.size, 0, none⟩ 1 1 [.string (wd j ++ ⟨#[32]⟩ ++ D (f j))] rfl rfl (cell_one_new _ _ _) ?c2 ?c3 ?c4 ?c5 ?_))
        case c2 => simp [Value.oneCell']
        case c3 => unfold maxLen; omega
        case c4 => omega
        case c5 => have := hbB.size; simp; omega
        intro v8 w3 hown8 hgrow8 hnil8 hloc8
        have hb3 : Below w.heap.size w w3 := (hbB.alloc hbB.size _).grown hgrow8 (by have := hbB.size; simp; omega) (fun k hk => (own3.lt k hk).1)
        have hown9 : w3.ownsRow w.heap.size 9 1 v8 (ln D f (j + 1)).length ((ln D f (j + 1)).map .string) := by
          rw [HN.out]; simpa [line] using hown8
        have HO := Lib.hid hown9
        clear own3 hown8 hgrow8 hnil8 hloc8 hown9 hI hbB
        go_wp2
        go_roundw
        case rel => exact ⟨j + 1, by omega, by go_num, HO.out, hb3⟩
        case measure => simp [intOf]; omega
      · have hN : ln D f (j + 1) = ln D f j := by rw [ln_succ, if_neg hp]; simp
        have HN := Lib.hid hN
        have hpi : ¬ (0 : Int) < (f j : Int) := by omega
        clear hN
        go_wp2
        go_roundw
        case rel => exact ⟨j + 1, by omega, by go_num, by rw [HN.out]; exact hown, hb⟩
        case measure => simp [intOf]; omega
    · obtain rfl : j = 22 := by omega
      go_wp2
      go_ret
      exact ⟨_, rfl, hown, hb⟩
end Go.Proofs.YthndeejgcpmblaaDoor
