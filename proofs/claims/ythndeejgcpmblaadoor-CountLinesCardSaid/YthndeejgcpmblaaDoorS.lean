/- Itoa by the library's contract; the table that it reads. -/
import Derived.Test.YthndeejgcpmblaaDoorE
import Derived.Test.YthndeejgcpmblaaDoorShelf
import Derived.Lib.LaidTab
import Derived.Lib.AppendIntMem
namespace Go.Proofs.YthndeejgcpmblaaDoor
open Go.RowKit
set_option linter.unusedSimpArgs false
set_option linter.unusedVariables false

/-- The table of powers lies where it was laid. -/
def Pow (w : World) : Prop := Lib.TabIs Tryd.prog w "internal/strconv.uint64pow10" .u64 Lib.pow10Tab
theorem Pow.of_block {w w' : World} (h : Pow w) (e : w'.heap[0]? = w.heap[0]?) : Pow w' := by
  unfold Pow Lib.TabIs at *
  rw [← h]
  have hg : Tryd.prog.globalNamed "internal/strconv.uint64pow10" = some 0 := by kernel_rfl
  unfold World.var?
  rw [hg]
  simp [e]
theorem Pow.below {B : Nat} {w w' : World} (h : Pow w) (hb : Below B w w') (hB : 0 < B) : Pow w' := h.of_block (hb.block 0 hB)
def dd (n : Nat) : ByteArray := ⟨(Lib.itoa n).toArray⟩
theorem dec_len1 (u : Nat) (h : u < 10) : (Lib.decDigits u).length = 1 := by rw [Lib.decDigits, dif_pos h]; rfl
theorem dec_len2 (u : Nat) (h : u < 100) : (Lib.decDigits u).length ≤ 2 := by
  by_cases h1 : u < 10
  · rw [dec_len1 u h1]; omega
  · rw [Lib.decDigits, dif_neg h1, List.length_append, dec_len1 _ (by omega)]; simp
theorem dec_len3 (u : Nat) (h : u < 1000) : (Lib.decDigits u).length ≤ 3 := by
  by_cases h1 : u < 10
  · rw [dec_len1 u h1]; omega
  · rw [Lib.decDigits, dif_neg h1, List.length_append]
    have := dec_len2 (u / 10) (by omega)
    simp; omega
theorem dd_eq (n : Nat) : dd n = ⟨(Lib.decDigits n).toArray⟩ := by
  unfold dd Lib.itoa
  rw [if_neg (by omega)]
  simp
theorem dd_size (n : Nat) (h : n < 1000) : (dd n).size ≤ 100 := by
  rw [dd_eq]
  have := dec_len3 n h
  show (Lib.decDigits n).toArray.size ≤ 100
  simp; omega
theorem itoa_any (n : Nat) (h : n < 1000) (w : World) (hP : Pow w) : Calls Tryd.prog 22 #[.int .i64 n] w fun e w' => e = .returned (.string (dd n)) ∧ Below w.heap.size w w' := by
  refine (Tryd.strconv_Itoa n (by omega) (by omega) w hP).mono ?_
  rintro e w' ⟨rfl, k, os, rfl⟩
  exact ⟨rfl, Lib.below_grow _ _ (Nat.le_refl _) _ _⟩
end Go.Proofs.YthndeejgcpmblaaDoor
