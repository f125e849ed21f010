/- Plain facts on words of 64 bits. -/
import Derived.Laws.BitsAllLaws
import Derived.Laws.Bits64
import Derived.Lib.TrailingZeros
namespace Go.Proofs.YthkadlmdjgdliaaDoor
set_option linter.unusedSimpArgs false
set_option linter.unusedVariables false

/-- The word's complement; the same from some bit on. -/
def cm (x : Nat) : Nat := 18446744073709551615 - x
def mk (a : Nat) : Nat := 18446744073709551615 * 2 ^ (a % 64) % 18446744073709551616
def fm (x a : Nat) : Nat := cm x &&& mk a

theorem cm_bit (x j : Nat) (hx : x < 18446744073709551616) (hj : j < 64) : (cm x).testBit j = !x.testBit j := by
  have h := Nat.testBit_two_pow_sub_succ (x := x) (n := 64) (by omega) j
  unfold cm
  rw [show 18446744073709551615 - x = 2 ^ 64 - (x + 1) from by omega, h]
  simp [hj]
theorem cm_lt (x : Nat) : cm x < 18446744073709551616 := by unfold cm; omega
theorem cm_run (x : Nat) (hx : x < 18446744073709551616) : bits BinOp.xor IntKind.u64 (if IntKind.u64.signed = true then -1 else IntKind.u64.max) (x : Int) = ((cm x : Nat) : Int) := by
  have e : (if IntKind.u64.signed = true then (-1 : Int) else IntKind.u64.max) = ((18446744073709551615 : Nat) : Int) := rfl
  rw [e, bits_xor_u64_nat _ _ (by omega) hx]
  congr 1
  apply Nat.eq_of_testBit_eq
  intro i
  rw [Nat.testBit_xor]
  by_cases hi : i < 64
  · rw [cm_bit x i hx hi]
    have : (18446744073709551615 : Nat).testBit i = true := by
      rw [show (18446744073709551615 : Nat) = 2 ^ 64 - 1 from rfl, Nat.testBit_two_pow_sub_one]
      simpa using hi
    rw [this]; simp
  · have h1 : (18446744073709551615 : Nat).testBit i = false := Nat.testBit_lt_two_pow (Nat.lt_of_lt_of_le (show (18446744073709551615 : Nat) < 2 ^ 64 by decide) (Nat.pow_le_pow_right (by decide) (by omega)))
    have h2 : x.testBit i = false := Nat.testBit_lt_two_pow (Nat.lt_of_lt_of_le (show x < 2 ^ 64 by omega) (Nat.pow_le_pow_right (by decide) (by omega)))
    have h3 : (cm x).testBit i = false := Nat.testBit_lt_two_pow (Nat.lt_of_lt_of_le (show cm x < 2 ^ 64 from cm_lt x) (Nat.pow_le_pow_right (by decide) (by omega)))
    rw [h1, h2, h3]; rfl
theorem mk_bit (a j : Nat) (hj : j < 64) : (mk a).testBit j = decide (a % 64 ≤ j) := by
  unfold mk
  rw [show (18446744073709551616 : Nat) = 2 ^ 64 from rfl, Nat.testBit_mod_two_pow, Nat.testBit_mul_two_pow]
  rw [show (18446744073709551615 : Nat) = 2 ^ 64 - 1 from rfl, Nat.testBit_two_pow_sub_one]
  simp only [hj, decide_true, Bool.true_and]
  by_cases h : a % 64 ≤ j
  · simp [h]; omega
  · simp [h]
theorem mk_lt (a : Nat) : mk a < 18446744073709551616 := Nat.mod_lt _ (by decide)
theorem fm_bit (x a j : Nat) (hx : x < 18446744073709551616) (hj : j < 64) : (fm x a).testBit j = (!x.testBit j && decide (a % 64 ≤ j)) := by
  unfold fm
  rw [Nat.testBit_and, cm_bit x j hx hj, mk_bit a j hj]
theorem fm_lt (x a : Nat) : fm x a < 18446744073709551616 := Nat.lt_of_le_of_lt Nat.and_le_left (cm_lt x)
theorem fm_run (x a : Nat) : bits BinOp.and IntKind.u64 ((cm x : Nat) : Int) (IntKind.u64.wrap (18446744073709551615 * 2 ^ (a % 64))) = ((fm x a : Nat) : Int) := by
  have e : IntKind.u64.wrap (18446744073709551615 * 2 ^ (a % 64)) = ((mk a : Nat) : Int) := by
    rw [IntKind.wrap_u64]; unfold mk; simp
  rw [e, Go.u64_and_nat _ _ (cm_lt x) (mk_lt a)]
  rfl

theorem ctz_bit (y : Nat) (h0 : y ≠ 0) (hy : y < 18446744073709551616) : Lib.ctz 64 y < 64 ∧ y.testBit (Lib.ctz 64 y) = true ∧ ∀ j, j < Lib.ctz 64 y → y.testBit j = false := by
  have e : Lib.ctz 64 y = Lib.ctzFrom 64 y := by unfold Lib.ctz; rw [if_neg h0]
  obtain ⟨m, hm, hk⟩ := Lib.ctzFrom_spec 64 y (by omega) hy
  rw [e]
  generalize Lib.ctzFrom 64 y = c at *
  refine ⟨hk, ?_, fun j hj => ?_⟩
  · rw [hm, Nat.testBit_two_pow_mul]; simp; try omega
  · rw [hm, Nat.testBit_two_pow_mul]; simp; try omega
theorem zero_bits (y : Nat) (h : y = 0) (j : Nat) : y.testBit j = false := by subst h; simp

/-- A bit read. -/
theorem shr_bit (x i : Nat) (hx : x < 18446744073709551616) : bits BinOp.and IntKind.u64 ((x : Int) / 2 ^ i) 1 = (((x / 2 ^ i % 2 : Nat)) : Int) := by
  have e : ((x : Int) / 2 ^ i) = ((x / 2 ^ i : Nat) : Int) := by simp
  rw [e, show (1 : Int) = ((1 : Nat) : Int) from rfl, Go.u64_and_nat _ _ (Nat.lt_of_le_of_lt (Nat.div_le_self _ _) hx) (by decide), Go.nat_mask1]
theorem bit_mod (x i : Nat) : x.testBit i = decide (x / 2 ^ i % 2 = 1) := by
  rw [Nat.testBit_eq_decide_div_mod_eq]
theorem wrap_pow (i : Nat) (hi : i < 64) : IntKind.u64.wrap (2 ^ i) = ((2 ^ i : Nat) : Int) := by
  have h : 2 ^ i < 18446744073709551616 := by
    have := Nat.pow_lt_pow_right (a := 2) (by decide) hi
    simpa using this
  rw [IntKind.wrap_u64]
  have e : ((2 : Int) ^ i) = ((2 ^ i : Nat) : Int) := by simp
  rw [e]
  exact Int.emod_eq_of_lt (Int.natCast_nonneg _) (Int.ofNat_lt.2 h)
theorem pow_lt64 (i : Nat) (hi : i < 64) : 2 ^ i < 18446744073709551616 := by
  have := Nat.pow_lt_pow_right (a := 2) (by decide) hi
  simpa using this
theorem clear_run (x i : Nat) (hx : x < 18446744073709551616) (hi : i < 64) :
    ∃ y : Nat, bits BinOp.andNot IntKind.u64 (x : Int) (IntKind.u64.wrap (2 ^ i)) = (y : Int) ∧ y < 18446744073709551616 ∧ ∀ j, j < 64 → y.testBit j = (x.testBit j && !decide (j = i)) := by
  refine ⟨x &&& cm (2 ^ i), ?_, Nat.lt_of_le_of_lt Nat.and_le_left hx, fun j hj => ?_⟩
  · rw [wrap_pow i hi, Go.u64_andNot_nat _ _ hx (pow_lt64 i hi)]; rfl
  · rw [Nat.testBit_and, cm_bit _ _ (pow_lt64 i hi) hj, Nat.testBit_two_pow]
    by_cases h : i = j
    · simp [h]
    · simp [h, Ne.symm h]
theorem set_run (x i : Nat) (hx : x < 18446744073709551616) (hi : i < 64) :
    ∃ y : Nat, bits BinOp.or IntKind.u64 (x : Int) (IntKind.u64.wrap (2 ^ i)) = (y : Int) ∧ y < 18446744073709551616 ∧ ∀ j, j < 64 → y.testBit j = (x.testBit j || decide (j = i)) := by
  refine ⟨x ||| 2 ^ i, ?_, ?_, fun j hj => ?_⟩
  · rw [wrap_pow i hi, Go.u64_or_nat _ _ hx (pow_lt64 i hi)]
  · exact Nat.or_lt_two_pow (n := 64) (by omega) (by have := pow_lt64 i hi; omega)
  · rw [Nat.testBit_or, Nat.testBit_two_pow]
    by_cases h : i = j
    · simp [h]
    · simp [h, Ne.symm h]
end Go.Proofs.YthkadlmdjgdliaaDoor
