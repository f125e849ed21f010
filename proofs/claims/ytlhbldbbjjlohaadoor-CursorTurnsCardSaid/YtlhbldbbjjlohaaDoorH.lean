/- The walk of CursorTurns. -/
import Derived.Test.YtlhbldbbjjlohaaDoorF
import Derived.Test.YtlhbldbbjjlohaaDoorArgs
namespace Go.Proofs.YtlhbldbbjjlohaaDoor
open Go.RowKit
set_option linter.unusedSimpArgs false
set_option linter.unusedVariables false

def from1 (i : Nat) : Nat → Bool := fun j => decide (1 ≤ j ∧ j < i)

theorem from1_step (q : Nat) (hq : 1 ≤ q) (j : Nat) : setU (from1 q) q true j = from1 (q + 1) j := by
  unfold setU from1
  by_cases e : j = q
  · rw [if_pos e]; symm; rw [decide_eq_true_eq]; omega
  · rw [if_neg e, decide_eq_decide]; omega
set_option maxRecDepth 100000 in
set_option maxHeartbeats 3200000 in
theorem turns_c (m y : Int) (n kk : Nat) (hn1 : 3 ≤ n) (hn2 : n ≤ 300) (hm0 : 0 ≤ m) (hm1 : m ≤ 255) (hy0 : 0 ≤ y) (hy1 : y ≤ 255) (hN : 3 + m % 198 = (n : Int)) (hK : 1 + y % ((n : Int) - 1) = (kk : Int)) (hk1 : 1 ≤ kk) (hkk : kk < n) (w : World) (hT : Tab w) (hz : 0 < w.heap.size) :
    Calls Tryd.prog 5 #[.int .u8 m, .int .u8 y] w fun e w' => e = .returned (.bool true) ∧ Below w.heap.size w w' := by
  have HT := Lib.hid hT
  clear hT
  go_enter Tryd.func5, Tryd.ntmps5
  go_wp2_with fail
  refine (examples_c _ HT.out hz).mono ?_
  rintro e w1 ⟨rfl, hb1⟩
  have HT1 := Lib.hid (HT.out.below hb1 hz)
  go_wp2_with fail
  refine (new_s w _ n (by omega) (by omega) HT1.out hb1 hz).mono ?_
  rintro e w2 ⟨rfl, S2⟩
  have S3 := S2.congr (V := upto 0) (at2 := 0) (by simp) (fun k => by simp [upto])
  clear S2
  go_wp2_with fail
  go_loopw [10] (fun i wr => ∃ k : Nat, k ≤ kk ∧ i = .int .i64 k ∧ St w wr (w1.heap.size + 1) w1.heap.size n k (upto k)) (fun i _ => kk - (intOf i).toNat)
  case atStart => exact ⟨0, by omega, rfl, S3⟩
  case round =>
    obtain ⟨k, hk, rfl, S⟩ := hrel
    clear S3
    by_cases hlt : k < kk
    · go_wp2_with fail
      refine (take_s k S ⟨by omega, by simp [upto], .inl ⟨Nat.le_refl _, fun j a b => by omega⟩⟩).mono ?_
      rintro e w3 ⟨rfl, S4⟩
      have S5 := S4.congr (at2 := k + 1) (V := upto (k + 1)) (Nat.mod_eq_of_lt (by omega)) (set_upto k)
      clear S S4
      go_wp2
      go_roundw
      case rel => exact ⟨k + 1, by omega, by go_num, S5⟩
      case measure => simp [intOf]; omega
    · obtain rfl : k = kk := by omega
      go_wp2_with fail
      refine (free_s 0 S (by omega) (by simp [upto]; omega)).mono ?_
      rintro e w3 ⟨rfl, S4⟩
      have S5 := S4.congr (at2 := k % n) (V := from1 k) (Nat.mod_eq_of_lt hkk).symm (fun j => by simp only [setU, upto, from1]; split <;> simp <;> omega)
      clear S S4
      go_wp2_with fail
      go_loopw [11] (fun i wr => ∃ q : Nat, k ≤ q ∧ q ≤ n ∧ i = .int .i64 q ∧ St w wr (w1.heap.size + 1) w1.heap.size n (q % n) (from1 q)) (fun i _ => n - (intOf i).toNat)
      case atStart => exact ⟨k, by omega, by omega, rfl, S5⟩
      case round =>
        obtain ⟨q, hq1, hq2, rfl, S⟩ := hrel
        clear S5
        by_cases hlt : q < n
        · go_wp2_with fail
          refine (take_s q S ⟨hlt, by simp [from1], .inl ⟨Nat.mod_le _ _, fun j a b => absurd b (by have h := Nat.mod_eq_of_lt hlt; omega)⟩⟩).mono ?_
          rintro e w3 ⟨rfl, S4⟩
          have S5 := S4.congr (V := from1 (q + 1)) rfl (from1_step q (by omega))
          clear S S4
          go_wp2
          go_roundw
          case rel => exact ⟨q + 1, by omega, by omega, by go_num, S5⟩
          case measure => simp [intOf]; omega
        · obtain rfl : q = n := by omega
          have S6 := S.congr (at2 := 0) (V := from1 q) (Nat.mod_self q) (fun _ => rfl)
          clear S
          go_wp2_with fail
          refine (take_s 0 S6 ⟨by omega, by simp [from1], .inl ⟨Nat.le_refl _, fun j a b => by omega⟩⟩).mono ?_
          rintro e w3 ⟨rfl, S7⟩
          have S8 := S7.congr (V := upto q) rfl (fun j => by simp only [setU, from1, upto]; split <;> simp <;> omega)
          clear S6 S7
          have hb9 := S8.bel
          go_wp2_with fail
          refine (len_s q S8 (by rw [cnt_upto]; omega)).mono ?_
          rintro e w' ⟨rfl, rfl⟩
          clear S8
          go_wp2
          go_ret
          exact ⟨rfl, hb9⟩

theorem turns_w (m : Int) (hm : (Lit.int .u8 m).wf = true) (y : Int) (hy : (Lit.int .u8 y).wf = true) (w : World) (hT : Tab w) (hz : 0 < w.heap.size) :
    Calls Tryd.prog 5 #[.int .u8 m, .int .u8 y] w fun e w' => e = .returned (.bool true) ∧ Below w.heap.size w w' := by
  obtain ⟨m0, m1⟩ := wf_u8 hm
  obtain ⟨y0, y1⟩ := wf_u8 hy
  have hn : ((3 + m % 198).toNat : Int) = 3 + m % 198 := by omega
  have h2 := Int.emod_nonneg y (show ((3 + m % 198).toNat : Int) - 1 ≠ 0 by omega)
  have h3 := Int.emod_lt_of_pos y (show 0 < ((3 + m % 198).toNat : Int) - 1 by omega)
  exact turns_c m y (3 + m % 198).toNat (1 + y % (((3 + m % 198).toNat : Int) - 1)).toNat (by omega) (by omega) m0 m1 y0 y1 (by omega) (by omega) (by omega) (by omega) w hT hz
end Go.Proofs.YtlhbldbbjjlohaaDoor
