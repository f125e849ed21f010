/- The walks of the document's cursor. -/
import Derived.Test.YthkadlmdjgdliaaDoorE2
namespace Go.Proofs.YthkadlmdjgdliaaDoor
open Go.RowKit
set_option linter.unusedSimpArgs false
set_option linter.unusedVariables false
open V2 (Only)

def bitI (b : Bool) : Int := if b then 1 else 0
def onesA (n : Nat) (U : Nat → Bool) : Array Value := ((List.range n).map fun i => Value.int .i64 (bitI (U i))).toArray
theorem onesA_get (n : Nat) (U : Nat → Bool) (i : Nat) (h : i < n) : (onesA n U)[i]? = some (.int .i64 (bitI (U i))) := by
  simp [onesA, h]
theorem onesA_set (n : Nat) (U : Nat → Bool) (i : Nat) (b : Bool) : (onesA n U).setIfInBounds i (.int .i64 (bitI b)) = onesA n (setU U i b) := by
  apply Array.ext'
  apply List.ext_getElem?
  intro j
  simp only [onesA, setU, Array.toList_setIfInBounds, List.getElem?_set, List.getElem?_map, List.length_map, List.length_range, List.getElem?_range']
  by_cases h : i = j
  · subst h
    by_cases h2 : i < n
    · simp [h2]
    · simp [h2]
  · by_cases h2 : j < n
    · simp [h, h2, Ne.symm h]
    · simp [h, h2]

structure Rc (w : World) (rb ub n at1 : Nat) (U : Nat → Bool) : Prop where
  head : Has w rb 83 #[.slice (some ⟨ub, 0, none⟩) n n, .int .i64 at1]
  used : Has w ub 3 (onesA n U)
  lo : 1 ≤ n
  hi : n ≤ 65536
  hat : at1 < n
  ne : rb ≠ ub
theorem Rc.of_blocks {w w' : World} {cb wb n at1 : Nat} {U : Nat → Bool} (h : Rc w cb wb n at1 U) (e1 : w'.heap[cb]? = w.heap[cb]?) (e2 : w'.heap[wb]? = w.heap[wb]?) : Rc w' cb wb n at1 U :=
  { h with head := e1.trans h.head, used := e2.trans h.used }

theorem info3 : (Tryd.prog.info? 3).map (fun i => (i.zero, i.size, i.bytes)) = some (some (.int .i64 0), 1, 8) := by kernel_rfl
theorem made_ones (nw : Nat) : madeCells #[.int .i64 0] nw = onesA nw (fun _ => false) := by
  apply Array.ext'
  apply List.ext_getElem?
  intro j
  simp only [madeCells, onesA, Array.toList_map, Array.toList_range, List.getElem?_map, bitI]
  by_cases h : j < nw <;> simp [h, Nat.mod_one]

theorem rnew_bad (n : Int) (h : n < 1 ∨ 65536 < n) (w : World) : Calls Tryd.prog 28 #[.int .i64 n] w fun e w' => e = .returned (.pointer none) ∧ w = w' := by
  by_cases h1 : n < 1
  · clear h
    go_enter Tryd.func28, Tryd.ntmps28
    go_wp2
    go_ret
    exact ⟨rfl, rfl⟩
  · have h2 : 65536 < n := by omega
    clear h
    go_enter Tryd.func28, Tryd.ntmps28
    go_wp2
    go_ret
    exact ⟨rfl, rfl⟩
theorem rnew_c (n : Nat) (h1 : 1 ≤ n) (h2 : n ≤ 65536) (w : World) : Calls Tryd.prog 28 #[.int .i64 n] w fun e w' => e = .returned (.pointer (some ⟨w.heap.size + 1, 0, none⟩)) ∧ Rc w' (w.heap.size + 1) w.heap.size n 0 (fun _ => false) ∧ Below w.heap.size w w' := by
  have hmk := fun w : World => run_make_row' (P := Tryd.prog) 73 3 (.int .i64 0) 8 Tryd.underlying73 info3 rfl .i64 .i64 n (by omega) (by omega) w
  rw [made_ones] at hmk
  have A0 := (Has.new w (onesA n (fun _ => false)) 3).alloc (.cells #[.slice (some ⟨w.heap.size, 0, none⟩) n n, .int .i64 0] 83)
  have B0 := Has.new (w.alloc (.cells (onesA n (fun _ => false)) 3)) #[.slice (some ⟨w.heap.size, 0, none⟩) n n, .int .i64 0] 83
  go_enter Tryd.func28, Tryd.ntmps28
  go_wp2
  go_ret
  refine ⟨by simp, ⟨by simpa using B0, A0, h1, h2, h1, by omega⟩, ?_⟩
  exact ((Below.refl _ _).alloc (Nat.le_refl _) _).alloc (by simp) _

theorem has_c (rb ub n at1 : Nat) (U : Nat → Bool) (i : Int) (w : World) (h : Rc w rb ub n at1 U) :
    Calls Tryd.prog 29 #[.pointer (some ⟨rb, 0, none⟩), .int .i64 i] w fun e w' => e = .returned (.bool (usedB U n i)) ∧ w = w' := by
  obtain ⟨hd, hu, h1, h2, h3, h5⟩ := h
  have c0 := hd.cell 0
  simp at c0
  by_cases g0 : 0 ≤ i
  · by_cases g1 : i < n
    · obtain ⟨k, rfl⟩ := Int.eq_ofNat_of_zero_le g0
      have hk : k < n := by omega
      have hc := (hu.cell k).trans (onesA_get n U k hk)
      cases hb : U k
      · rw [hb] at hc
        simp only [bitI] at hc
        simp at hc
        clear hu hd
        go_enter Tryd.func29, Tryd.ntmps29
        go_wp2
        go_ret
        exact ⟨by simp [usedB, hb], rfl⟩
      · rw [hb] at hc
        simp only [bitI] at hc
        simp at hc
        clear hu hd
        go_enter Tryd.func29, Tryd.ntmps29
        go_wp2
        go_ret
        exact ⟨by simp [usedB, hb, hk], rfl⟩
    · go_enter Tryd.func29, Tryd.ntmps29
      go_wp2
      go_ret
      exact ⟨by simp [usedB, show ¬ i < n by omega], rfl⟩
  · go_enter Tryd.func29, Tryd.ntmps29
    go_wp2
    go_ret
    exact ⟨by simp [usedB, show ¬ 0 ≤ i by omega], rfl⟩

/-- What Free leaves used. -/
def freed (U : Nat → Bool) (n : Nat) (i : Int) : Nat → Bool := if usedB U n i then setU U i.toNat false else U
set_option maxHeartbeats 800000 in
theorem rfree_c (rb ub n at1 : Nat) (U : Nat → Bool) (i : Int) (w : World) (h : Rc w rb ub n at1 U) :
    Calls Tryd.prog 24 #[.pointer (some ⟨rb, 0, none⟩), .int .i64 i] w fun e w' => e = .returned (.bool (usedB U n i)) ∧ Rc w' rb ub n at1 (freed U n i) ∧ Only rb ub w w' := by
  have H := Lib.hid h
  obtain ⟨hd, hu, h1, h2, h3, h5⟩ := h
  cases hb : usedB U n i
  · have e : freed U n i = U := by unfold freed; rw [hb]; rfl
    rw [e]
    have HB := Lib.hid hb
    clear hb e hd hu
    go_enter Tryd.func24, Tryd.ntmps24
    go_wp2_with fail
    refine (has_c rb ub n at1 U i _ H.out).mono ?_
    rintro e w' ⟨rfl, rfl⟩
    rw [HB.out]
    go_wp2
    go_ret
    exact ⟨rfl, H.out, Only.refl _ _ _⟩
  · have hb2 := hb
    simp only [usedB, Bool.and_eq_true, decide_eq_true_eq] at hb2
    obtain ⟨k, rfl⟩ := Int.eq_ofNat_of_zero_le hb2.1
    have hk : k < n := by omega
    have e : freed U n k = setU U k false := by unfold freed; rw [hb]; simp
    rw [e]
    have c0 := hd.cell 0
    simp at c0
    have f0 := hu.free k
    have hc := (hu.cell k).trans (onesA_get n U k hk)
    have HU := Lib.hid hu
    have HD := Lib.hid hd
    have HB := Lib.hid hb
    clear hb e hd hu hb2
    go_enter Tryd.func24, Tryd.ntmps24
    go_wp2_with fail
    refine (has_c rb ub n at1 U k _ H.out).mono ?_
    rintro e w' ⟨rfl, rfl⟩
    rw [HB.out]
    go_wp2
    go_ret
    refine ⟨rfl, ⟨HD.out.setOther k h5 _, ?_, h1, h2, h3, h5⟩, (Only.refl _ _ _).setW _ _⟩
    rw [← onesA_set]
    exact HU.out.set _ _

theorem next_of {U : Nat → Bool} {n at1 j x : Nat} (hat : at1 < n) (hj : j < n) (hx : (at1 + j) % n = x) (hu : U x = false) (hA : ∀ l, l < j → U ((at1 + l) % n) = true) : V2.Next U n at1 x := by
  have hxn : x < n := by rw [← hx]; exact Nat.mod_lt _ (by omega)
  refine ⟨hxn, hu, ?_⟩
  by_cases h : at1 + j < n
  · rw [Nat.mod_eq_of_lt h] at hx
    refine .inl ⟨by omega, fun i a b => ?_⟩
    have := hA (i - at1) (by omega)
    rwa [show at1 + (i - at1) = i by omega, Nat.mod_eq_of_lt (by omega)] at this
  · have e : (at1 + j) % n = at1 + j - n := by rw [Nat.mod_eq_sub_mod (by omega), Nat.mod_eq_of_lt (by omega)]
    rw [e] at hx
    refine .inr ⟨by omega, fun i a b => ?_, fun i b => ?_⟩
    · have := hA (i - at1) (by omega)
      rwa [show at1 + (i - at1) = i by omega, Nat.mod_eq_of_lt (by omega)] at this
    · have := hA (i + n - at1) (by omega)
      rwa [show at1 + (i + n - at1) = i + n by omega, Nat.add_mod_right, Nat.mod_eq_of_lt (by omega)] at this
theorem full_of {U : Nat → Bool} {n at1 : Nat} (hat : at1 < n) (hA : ∀ l, l < n → U ((at1 + l) % n) = true) : ∀ k, k < n → U k = true := by
  intro k hk
  by_cases h : at1 ≤ k
  · have := hA (k - at1) (by omega)
    rwa [show at1 + (k - at1) = k by omega, Nat.mod_eq_of_lt (by omega)] at this
  · have := hA (k + n - at1) (by omega)
    rwa [show at1 + (k + n - at1) = k + n by omega, Nat.add_mod_right, Nat.mod_eq_of_lt (by omega)] at this

def RTakeP (rb ub n at1 : Nat) (U : Nat → Bool) (w : World) (e : Ending) (w' : World) : Prop :=
  ((∀ k, k < n → U k = true) ∧ e = .returned (.tuple #[.int .i64 0, .bool false]) ∧ w = w') ∨
  ∃ k, V2.Next U n at1 k ∧ e = .returned (.tuple #[.int .i64 k, .bool true]) ∧ Rc w' rb ub n ((k + 1) % n) (setU U k true) ∧ Only rb ub w w'

set_option maxHeartbeats 1600000 in
theorem rtake_c (rb ub n at1 : Nat) (U : Nat → Bool) (w : World) (h : Rc w rb ub n at1 U) :
    Calls Tryd.prog 25 #[.pointer (some ⟨rb, 0, none⟩)] w (RTakeP rb ub n at1 U w) := by
  obtain ⟨hd, hu, h1, h2, h3, h5⟩ := h
  have c0 := hd.cell 0
  have c1 := hd.cell 1
  simp at c0 c1
  have f1 := hd.free 1
  have hnz : (n : Int) ≠ 0 := by omega
  have HU := Lib.hid hu
  have HD := Lib.hid hd
  clear hu hd
  go_enter Tryd.func25, Tryd.ntmps25
  go_wp2_with fail
  go_loopw [5] (fun i wr => ∃ j : Nat, j ≤ n ∧ i = .int .i64 j ∧ (∀ l, l < j → U ((at1 + l) % n) = true) ∧ w = wr) (fun i _ => n - (intOf i).toNat)
  case atStart => exact ⟨0, by omega, rfl, fun l hl => by omega, rfl⟩
  case round =>
    obtain ⟨j, hj, rfl, hA, rfl⟩ := hrel
    by_cases hlt : j < n
    · obtain ⟨x, hx⟩ : ∃ x, x = (at1 + j) % n := ⟨_, rfl⟩
      have hxn : x < n := by rw [hx]; exact Nat.mod_lt _ (by omega)
      have hxi : ((at1 : Int) + (j : Int)) % (n : Int) = (x : Int) := by rw [hx]; simp
      have hc := (HU.out.cell x).trans (onesA_get n U x hxn)
      have fx := HU.out.free x
      have HX := Lib.hid hx
      have HA := Lib.hid hA
      clear hx hA
      cases hb : U x
      · rw [hb] at hc
        simp only [bitI] at hc
        simp at hc
        obtain ⟨y, hy⟩ : ∃ y, y = (x + 1) % n := ⟨_, rfl⟩
        have hyi : ((x : Int) + 1) % (n : Int) = (y : Int) := by rw [hy]; simp
        have HB := Lib.hid hb
        have HY := Lib.hid hy
        clear hb hy
        go_wp2
        go_ret2
        refine .inr ⟨x, next_of h3 hlt HX.out.symm HB.out HA.out, by simp [hxi], ⟨?_, ?_, h1, h2, Nat.mod_lt _ (by omega), h5⟩, ((Only.refl _ _ _).setW _ _).setC _ _⟩
        · rw [← HY.out]
          exact (HD.out.setOther x h5 _).set 1 _
        · rw [← onesA_set]
          exact (HU.out.set x _).setOther 1 (Ne.symm h5) _
      · rw [hb] at hc
        simp only [bitI] at hc
        simp at hc
        have HB := Lib.hid hb
        clear hb
        go_wp2
        go_roundw
        case rel =>
          refine ⟨j + 1, by omega, by go_num, fun l hl => ?_, by trivial⟩
          by_cases e : l = j
          · subst e; rw [← HX.out]; exact HB.out
          · exact HA.out l (by omega)
        case measure => simp [intOf]; omega
    · obtain rfl : j = n := by omega
      go_wp2
      go_ret2
      exact .inl ⟨full_of h3 hA, rfl, rfl⟩
end Go.Proofs.YthkadlmdjgdliaaDoor
