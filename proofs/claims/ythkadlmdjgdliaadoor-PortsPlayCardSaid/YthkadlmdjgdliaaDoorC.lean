/- A cursor in memory; the walks of Used, Len, New. -/
import Derived.Test.YthkadlmdjgdliaaDoorB
import Derived.StillTailTactics
import Derived.Deep.OwnRows
namespace Go.Proofs.YthkadlmdjgdliaaDoor
open Go.RowKit
set_option linter.unusedSimpArgs false
set_option linter.unusedVariables false

/-- How many are used. -/
def cnt (U : Nat → Bool) : Nat → Nat
  | 0 => 0
  | n + 1 => cnt U n + if U n then 1 else 0
theorem cnt_le (U : Nat → Bool) : ∀ n, cnt U n ≤ n
  | 0 => Nat.le_refl _
  | n + 1 => by have := cnt_le U n; unfold cnt; split <;> omega
def setU (U : Nat → Bool) (k : Nat) (b : Bool) : Nat → Bool := fun i => if i = k then b else U i
theorem cnt_above (U : Nat → Bool) (k : Nat) (b : Bool) : ∀ n, n ≤ k → cnt (setU U k b) n = cnt U n
  | 0, _ => rfl
  | n + 1, h => by
    have := cnt_above U k b n (by omega)
    unfold cnt; rw [this]; simp [setU, show n ≠ k from by omega]
theorem cnt_set (U : Nat → Bool) (k : Nat) (b : Bool) : ∀ n, k < n → cnt (setU U k b) n + (if U k then 1 else 0) = cnt U n + if b then 1 else 0
  | 0, h => by omega
  | n + 1, h => by
    by_cases e : n = k
    · subst e
      have := cnt_above U n b n (Nat.le_refl _)
      unfold cnt; rw [this]; simp [setU]; omega
    · have := cnt_set U k b n (by omega)
      unfold cnt; simp only [setU, e, if_false] at *; omega

def wordsA (nw : Nat) (W : Nat → Nat) : Array Value := ((List.range nw).map fun i => Value.int .u64 (W i)).toArray
theorem wordsA_get (nw : Nat) (W : Nat → Nat) (i : Nat) (h : i < nw) : (wordsA nw W)[i]? = some (.int .u64 (W i)) := by
  simp [wordsA, h]
theorem wordsA_set (nw : Nat) (W : Nat → Nat) (i v : Nat) : (wordsA nw W).setIfInBounds i (.int .u64 v) = wordsA nw (fun j => if j = i then v else W j) := by
  apply Array.ext'
  apply List.ext_getElem?
  intro j
  simp only [wordsA, Array.toList_setIfInBounds, List.getElem?_set, List.getElem?_map, List.length_map, List.length_range, List.getElem?_range']
  by_cases h : i = j
  · subst h
    by_cases h2 : i < nw
    · simp [h2]
    · simp [h2]
  · by_cases h2 : j < nw
    · simp [h, h2, Ne.symm h]
    · simp [h, h2]

structure Cur (w : World) (cb wb n at1 : Nat) (U : Nat → Bool) : Prop where
  head : Has w cb 78 #[.slice (some ⟨wb, 0, none⟩) ((n + 63) / 64) ((n + 63) / 64), .int .i64 n, .int .i64 at1, .int .i64 (cnt U n)]
  words : ∃ W, Has w wb 79 (wordsA ((n + 63) / 64) W) ∧ Says ((n + 63) / 64) W U
  lo : 1 ≤ n
  hi : n ≤ 65536
  hat : at1 < n
  top : ∀ k, U k = true → k < n
  ne : cb ≠ wb

theorem Cur.below {w w1 : World} {cb wb n at1 : Nat} {U : Nat → Bool} (h : Cur w cb wb n at1 U) (hb : Below w.heap.size w w1) : Cur w1 cb wb n at1 U := by
  obtain ⟨hd, ⟨W, h1, h2⟩, lo, hi, hat, top, ne⟩ := h
  exact ⟨hd.below hb, ⟨W, h1.below hb, h2⟩, lo, hi, hat, top, ne⟩

theorem shr_ne (x i : Nat) : (((x : Int) / 2 ^ i % 2) != 0) = decide (x / 2 ^ i % 2 = 1) := by
  have e : ((x : Int) / 2 ^ i % 2) = ((x / 2 ^ i % 2 : Nat) : Int) := by simp
  rw [e]
  rcases Nat.mod_two_eq_zero_or_one (x / 2 ^ i) with h | h <;> rw [h] <;> rfl
/-- Is the number used? -/
def usedB (U : Nat → Bool) (n : Nat) (i : Int) : Bool := decide (0 ≤ i) && (decide (i < n) && U i.toNat)

set_option maxHeartbeats 1600000 in
theorem used_c (cb wb n at1 : Nat) (U : Nat → Bool) (i : Int) (w : World) (h : Cur w cb wb n at1 U) :
    Calls Tryd.prog 26 #[.pointer (some ⟨cb, 0, none⟩), .int .i64 i] w fun e w' => e = .returned (.bool (usedB U n i)) ∧ w = w' := by
  obtain ⟨hd, ⟨W, hw, hs⟩, h1, h2, h3, h4, h5⟩ := h
  have c0 := hd.cell 0
  have c1 := hd.cell 1
  simp at c0 c1
  by_cases g0 : 0 ≤ i
  · by_cases g1 : i < n
    · obtain ⟨k, rfl⟩ := Int.eq_ofNat_of_zero_le g0
      have hk : k < n := by omega
      have hkn : k / 64 < (n + 63) / 64 := by omega
      have hc := (hw.cell (k / 64)).trans (wordsA_get _ W _ hkn)
      obtain ⟨hx, hb⟩ := hs _ hkn
      have hbit := hb (k % 64) (Nat.mod_lt _ (by decide))
      rw [show 64 * (k / 64) + k % 64 = k from by omega, bit_mod] at hbit
      obtain ⟨x, hxd⟩ : ∃ x, x = W (k / 64) := ⟨_, rfl⟩
      rw [← hxd] at hc hx hbit
      have hsb := shr_bit x (k % 64) hx
      obtain ⟨nw, hnw⟩ : ∃ nw, nw = (n + 63) / 64 := ⟨_, rfl⟩
      rw [← hnw] at c0 hkn
      have HB := Lib.hid hbit
      have HX := Lib.hid hx
      clear hw hs hb hxd hd hnw hx hbit
      have hi0 : (0 : Int) ≤ (k : Int) / 64 ∧ (k : Int) / 64 < nw := by omega
      go_enter Tryd.func26, Tryd.ntmps26
      go_wp2
      go_ret
      exact ⟨by simp only [shr_ne]; rw [HB.out]; simp [usedB, hk], rfl⟩
    · go_enter Tryd.func26, Tryd.ntmps26
      go_wp2
      go_ret
      exact ⟨by simp [usedB, show ¬ i < n by omega], rfl⟩
  · go_enter Tryd.func26, Tryd.ntmps26
    go_wp2
    go_ret
    exact ⟨by simp [usedB, show ¬ 0 ≤ i by omega], rfl⟩



theorem new_bad (n : Int) (h : n < 1 ∨ 65536 < n) (w : World) : Calls Tryd.prog 18 #[.int .i64 n] w fun e w' => e = .returned (.tuple #[.pointer none, .int .i64 1]) ∧ w = w' := by
  by_cases h1 : n < 1
  · clear h
    go_enter Tryd.func18, Tryd.ntmps18
    go_wp2
    go_ret2
    exact ⟨rfl, rfl⟩
  · have h2 : 65536 < n := by omega
    clear h
    go_enter Tryd.func18, Tryd.ntmps18
    go_wp2
    go_ret2
    exact ⟨rfl, rfl⟩

theorem info79 : (Tryd.prog.info? 79).map (fun i => (i.zero, i.size, i.bytes)) = some (some (.int .u64 0), 1, 8) := by kernel_rfl
theorem made_words (nw : Nat) : madeCells #[.int .u64 0] nw = wordsA nw (fun _ => 0) := by
  apply Array.ext'
  apply List.ext_getElem?
  intro j
  simp only [madeCells, wordsA, Array.toList_map, Array.toList_range, List.getElem?_map]
  by_cases h : j < nw <;> simp [h, Nat.mod_one]
theorem cnt_none : ∀ n, cnt (fun _ => false) n = 0
  | 0 => rfl
  | n + 1 => by unfold cnt; rw [cnt_none n]; rfl
set_option maxHeartbeats 1600000 in
theorem new_c (n : Nat) (h1 : 1 ≤ n) (h2 : n ≤ 65536) (w : World) : Calls Tryd.prog 18 #[.int .i64 n] w fun e w' => e = .returned (.tuple #[.pointer (some ⟨w.heap.size + 1, 0, none⟩), .int .i64 0]) ∧ Cur w' (w.heap.size + 1) w.heap.size n 0 (fun _ => false) ∧ Below w.heap.size w w' := by
  obtain ⟨nw, hnw⟩ : ∃ nw, nw = (n + 63) / 64 := ⟨_, rfl⟩
  have hsum : ((n : Int) + 64 - 1) / 64 = ((nw : Nat) : Int) := by omega
  have hmk := fun w : World => run_make_row' (P := Tryd.prog) 76 79 (.int .u64 0) 8 Tryd.underlying76 info79 rfl .i64 .i64 nw (by omega) (by omega) w
  have HN := Lib.hid hnw
  clear hnw
  rw [made_words] at hmk
  have A0 := (Has.new w (wordsA nw (fun _ => 0)) 79).alloc (.cells #[.slice (some ⟨w.heap.size, 0, none⟩) nw nw, .int .i64 n, .int .i64 0, .int .i64 0] 78)
  have B0 := Has.new (w.alloc (.cells (wordsA nw (fun _ => 0)) 79)) #[.slice (some ⟨w.heap.size, 0, none⟩) nw nw, .int .i64 n, .int .i64 0, .int .i64 0] 78
  go_enter Tryd.func18, Tryd.ntmps18
  go_wp2
  go_ret2
  refine ⟨by simp, ⟨?_, ⟨fun _ => 0, ?_, ?_⟩, h1, h2, h1, by simp, by omega⟩, ?_⟩
  · rw [← HN.out, cnt_none]; simpa using B0
  · rw [← HN.out]; exact A0
  · intro i hi; exact ⟨by simp, fun j hj => by simp⟩
  · exact ((Below.refl _ _).alloc (Nat.le_refl _) _).alloc (by simp) _
end Go.Proofs.YthkadlmdjgdliaaDoor
