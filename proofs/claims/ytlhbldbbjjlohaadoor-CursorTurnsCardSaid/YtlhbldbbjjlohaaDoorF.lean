/- The walk of CursorRounds. -/
import Derived.Test.YtlhbldbbjjlohaaDoorE
namespace Go.Proofs.YtlhbldbbjjlohaaDoor
open Go.RowKit
set_option linter.unusedSimpArgs false
set_option linter.unusedVariables false

def upto (k : Nat) : Nat → Bool := fun j => decide (j < k)
theorem cnt_upto (k : Nat) : ∀ n, cnt (upto k) n = min k n
  | 0 => by simp [cnt]
  | n + 1 => by unfold cnt; rw [cnt_upto k n]; unfold upto; split <;> simp_all <;> omega
theorem set_upto (k j : Nat) : setU (upto k) k true j = upto (k + 1) j := by
  unfold setU upto; split <;> simp <;> omega
theorem next_upto (k n : Nat) (h : k < n) : Next (upto k) n (k % n) k := by
  refine ⟨h, by simp [upto], .inl ⟨by rw [Nat.mod_eq_of_lt h]; omega, fun j a b => by simp [upto]; omega⟩⟩

set_option maxRecDepth 100000 in
set_option maxHeartbeats 3200000 in
theorem rounds_c (m y : Int) (n kk : Nat) (hn1 : 1 ≤ n) (hn2 : n ≤ 300) (hm0 : 0 ≤ m) (hm1 : m ≤ 65535) (hy0 : 0 ≤ y) (hy1 : y ≤ 65535) (hN : 1 + m % 300 = (n : Int)) (hK : y % (n : Int) = (kk : Int)) (hkk : kk < n) (w : World) (hT : Tab w) (hz : 0 < w.heap.size) :
    Calls Tryd.prog 4 #[.int .u16 m, .int .u16 y] w fun e w' => e = .returned (.bool true) ∧ Below w.heap.size w w' := by
  have HT := Lib.hid hT
  clear hT
  go_enter Tryd.func4, Tryd.ntmps4
  go_wp2_with fail
  refine (examples_c _ HT.out hz).mono ?_
  rintro e w1 ⟨rfl, hb1⟩
  have HT1 := Lib.hid (HT.out.below hb1 hz)
  go_wp2_with fail
  refine (new_s w _ n (by omega) (by omega) HT1.out hb1 hz).mono ?_
  rintro e w2 ⟨rfl, S2⟩
  have S3 := S2.congr (V := upto 0) (at2 := 0 % n) (by simp) (fun k => by simp [upto])
  clear S2
  go_wp2_with fail
  go_loopw [9] (fun i wr => ∃ k : Nat, k ≤ n ∧ i = .int .i64 k ∧ St w wr (w1.heap.size + 1) w1.heap.size n (k % n) (upto k)) (fun i _ => n - (intOf i).toNat)
  case atStart => exact ⟨0, by omega, rfl, S3⟩
  case round =>
    obtain ⟨k, hk, rfl, S⟩ := hrel
    clear S3
    by_cases hlt : k < n
    · go_wp2_with fail
      refine (take_s k S (next_upto k n hlt)).mono ?_
      rintro e w3 ⟨rfl, S4⟩
      have S5 := S4.congr (V := upto (k + 1)) rfl (set_upto k)
      clear S S4
      go_wp2_with fail
      refine (used_s _ true S5 (by simp [usedB, upto, hlt])).mono ?_
      rintro e w' ⟨rfl, rfl⟩
      go_wp2_with fail
      refine (len_s (k + 1) S5 (by rw [cnt_upto]; omega)).mono ?_
      rintro e w' ⟨rfl, rfl⟩
      go_wp2
      go_roundw
      case rel => exact ⟨k + 1, by omega, by go_num, S5⟩
      case measure => simp [intOf]; omega
    · obtain rfl : k = n := by omega
      go_wp2_with fail
      refine (full_s S (fun j hj => by simp [upto]; omega)).mono ?_
      rintro e w3 ⟨rfl, S4⟩
      clear S
      have S5 := S4.congr (at2 := 0) (V := upto k) (Nat.mod_self k) (fun _ => rfl)
      clear S4
      go_wp2_with fail
      refine (free_s kk S5 hkk (by simp [upto, hkk])).mono ?_
      rintro e w4 ⟨rfl, S6⟩
      clear S5
      go_wp2_with fail
      refine (take_s kk S6 ⟨hkk, by simp [setU], .inl ⟨Nat.zero_le _, fun j a b => by simp [setU, upto]; omega⟩⟩).mono ?_
      rintro e w5 ⟨rfl, S7⟩
      have S8 := S7.congr (V := upto k) rfl (fun j => by simp only [setU, upto]; split <;> simp <;> omega)
      clear S6 S7
      go_wp2_with fail
      refine (full_s S8 (fun j hj => by simp [upto]; omega)).mono ?_
      rintro e w6 ⟨rfl, S9⟩
      clear S8
      have hb9 := S9.bel
      go_wp2_with fail
      refine (used_s _ false S9 (by simp [usedB])).mono ?_
      rintro e w' ⟨rfl, rfl⟩
      go_wp2_with fail
      refine (used_s _ false S9 (by simp [usedB])).mono ?_
      rintro e w' ⟨rfl, rfl⟩
      go_wp2_with fail
      refine (nofree_s _ S9 (by simp [usedB])).mono ?_
      rintro e w' ⟨rfl, rfl⟩
      clear S9
      go_wp2
      go_ret
      exact ⟨rfl, hb9⟩
end Go.Proofs.YtlhbldbbjjlohaaDoor
