/- The walks of Index and Parse. -/
import Derived.Test.YthndeejgcpmblaaDoorA
import Derived.Lib.SlicesS
namespace Go.Proofs.YthndeejgcpmblaaDoor
open Go.RowKit
set_option linter.unusedSimpArgs false
set_option linter.unusedVariables false

def wd (k : Nat) : ByteArray := words.getD k ⟨#[]⟩
/-- r is the first place of s among the words, or -1. -/
def IdxP (s : ByteArray) (r : Int) : Prop := (r = -1 ∧ ∀ l, l < 22 → wd l ≠ s) ∨ ∃ k : Nat, k < 22 ∧ r = k ∧ wd k = s ∧ ∀ l, l < k → wd l ≠ s
theorem IdxP.unique {s : ByteArray} {r q : Int} (h : IdxP s r) (g : IdxP s q) : r = q := by
  rcases h with ⟨rfl, h1⟩ | ⟨k, hk, rfl, h1, h2⟩ <;> rcases g with ⟨rfl, g1⟩ | ⟨l, hl, rfl, g1, g2⟩
  · rfl
  · exact absurd g1 (h1 l hl)
  · exact absurd h1 (g1 k hk)
  · rcases Nat.lt_trichotomy k l with q | q | q
    · exact absurd h1 (g2 k q)
    · rw [q]
    · exact absurd g1 (h2 l q)

theorem more {s : ByteArray} {j : Nat} (hA : ∀ l, l < j → wd l ≠ s) (he : ¬ s = wd j) : ∀ l, l < j + 1 → wd l ≠ s := by
  intro l hl
  by_cases e : l = j
  · subst e; exact fun q => he q.symm
  · exact hA l (by omega)
set_option maxRecDepth 100000 in
set_option maxHeartbeats 800000 in
theorem index_c (s : ByteArray) (b : Nat) (w : World) (hw : ∀ k, k < 22 → w.cell? ⟨b, k, none⟩ = some (.string (wd k))) :
    Calls Tryd.prog 21 #[.slice (some ⟨b, 0, none⟩) 22 22, .string s] w fun e w' => ∃ r : Int, e = .returned (.int .i64 r) ∧ IdxP s r ∧ w = w' := by
  have HW := Lib.hid hw
  clear hw
  go_enter Tryd.func21, Tryd.ntmps21
  go_wp2_with fail
  go_loopw [8] (fun i wr => ∃ j : Nat, j ≤ 22 ∧ i = .int .i64 j ∧ (∀ l, l < j → wd l ≠ s) ∧ w = wr) (fun i _ => 22 - (intOf i).toNat)
  case atStart => exact ⟨0, by omega, rfl, fun l hl => by omega, rfl⟩
  case round =>
    obtain ⟨j, hj, rfl, hA, rfl⟩ := hrel
    have HA := Lib.hid hA
    clear hA
    by_cases hlt : j < 22
    · have hji : (j : Int) < 22 := by omega
      have hc := HW.out j hlt
      by_cases he : s = wd j
      · have HE := Lib.hid he
        have he2 : (s.toList == (wd j).toList) = true := by rw [he]; simp
        generalize hx : wd j = x at hc he2
        have HX := Lib.hid hx
        clear he hx
        go_wp2
        go_ret
        exact ⟨j, rfl, .inr ⟨j, hlt, rfl, HE.out.symm, HA.out⟩, rfl⟩
      · have HE := Lib.hid he
        have he2 : (s.toList == (wd j).toList) = false := (Lib.bytes_beq_false_iff _ _).2 he
        generalize hx : wd j = x at hc he2
        have HX := Lib.hid hx
        clear he hx
        go_wp2
        go_roundw
        case rel => exact ⟨j + 1, by omega, by go_num, more HA.out HE.out, by trivial⟩
        case measure => simp [intOf]; omega
    · obtain rfl : j = 22 := by omega
      go_wp2
      go_ret
      exact ⟨-1, rfl, .inl ⟨rfl, HA.out⟩, rfl⟩

def posI (r : Int) : Int := if 0 ≤ r then r else 0
set_option maxRecDepth 100000 in
set_option maxHeartbeats 800000 in
theorem parse_c (s : ByteArray) (w : World) : Calls Tryd.prog 11 #[.string s] w fun e w' => ∃ r : Int, IdxP s r ∧ e = .returned (.tuple #[.int .i64 (posI r), .bool (decide (0 ≤ r))]) ∧ Below w.heap.size w w' := by
  go_enter Tryd.func11, Tryd.ntmps11
  go_wp2_with fail
  refine (names_b w).mono ?_
  rintro e w1 ⟨rfl, hb⟩
  go_wp2_with (with_reducible refine is_store ?_; go_loud (refine wpList_store_new rfl _ _ _ rfl w1 wordsV _ _ rfl rfl rfl info46 rfl (by kernel_rfl) ?_))
  refine (index_c s w1.heap.size _ (fun k hk => ((Has.new w1 wordsV 46).cell k).trans (wordsV_get k hk))).mono ?_
  rintro e w' ⟨r, rfl, hr, rfl⟩
  by_cases h0 : 0 ≤ r
  · go_wp2
    go_ret2
    exact ⟨r, hr, by simp [posI, h0], hb.alloc hb.size _⟩
  · go_wp2
    go_ret2
    exact ⟨r, hr, by simp [posI, h0]; try omega, hb.alloc hb.size _⟩
set_option maxRecDepth 100000 in
set_option maxHeartbeats 800000 in
theorem rparse_c (s : ByteArray) (w : World) : Calls Tryd.prog 12 #[.string s] w fun e w' => ∃ r : Int, IdxP s r ∧ e = .returned (.tuple #[.int .i64 (posI r), .bool (decide (0 ≤ r))]) ∧ Below w.heap.size w w' := by
  go_enter Tryd.func12, Tryd.ntmps12
  go_wp2_with fail
  refine (rnames_c w).mono ?_
  rintro e w1 ⟨rfl, hw⟩
  have hb : Below w.heap.size w w1 := by rw [hw]; exact (Below.refl _ _).alloc (Nat.le_refl _) _
  have HW : Hid (∀ k, k < 22 → w1.cell? ⟨w.heap.size, k, none⟩ = some (.string (wd k))) := fun k hk => by
    rw [hw]; exact ((Has.new w wordsV 9).cell k).trans (wordsV_get k hk)
  clear hw
  go_wp2_with fail
  go_loopw [5] (fun i wr => ∃ j : Nat, j ≤ 22 ∧ i = .int .i64 j ∧ (∀ l, l < j → wd l ≠ s) ∧ w1 = wr) (fun i _ => 22 - (intOf i).toNat)
  case atStart => exact ⟨0, by omega, rfl, fun l hl => by omega, rfl⟩
  case round =>
    obtain ⟨j, hj, rfl, hA, rfl⟩ := hrel
    have HA := Lib.hid hA
    clear hA
    by_cases hlt : j < 22
    · have hji : (j : Int) < 22 := by omega
      have hc := HW.out j hlt
      by_cases he : s = wd j
      · have HE := Lib.hid he
        have he2 : ((wd j).toList == s.toList) = true := by rw [he]; simp
        generalize hx : wd j = x at hc he2
        have HX := Lib.hid hx
        clear he hx
        go_wp2
        go_ret2
        exact ⟨j, .inr ⟨j, hlt, rfl, HE.out.symm, HA.out⟩, by simp [posI], hb⟩
      · have HE := Lib.hid he
        have he2 : ((wd j).toList == s.toList) = false := (Lib.bytes_beq_false_iff _ _).2 (fun q => he q.symm)
        generalize hx : wd j = x at hc he2
        have HX := Lib.hid hx
        clear he hx
        go_wp2
        go_roundw
        case rel => exact ⟨j + 1, by omega, by go_num, more HA.out HE.out, by trivial⟩
        case measure => simp [intOf]; omega
    · obtain rfl : j = 22 := by omega
      go_wp2
      go_ret2
      exact ⟨-1, .inl ⟨rfl, HA.out⟩, by simp [posI], hb⟩
end Go.Proofs.YthndeejgcpmblaaDoor
