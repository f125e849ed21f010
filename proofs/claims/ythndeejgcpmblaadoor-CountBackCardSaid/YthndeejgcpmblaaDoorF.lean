/- The walks of CountNames and CountBack. -/
import Derived.Test.YthndeejgcpmblaaDoorE
namespace Go.Proofs.YthndeejgcpmblaaDoor
open Go.RowKit
set_option linter.unusedSimpArgs false
set_option linter.unusedVariables false

set_option maxRecDepth 100000 in
set_option maxHeartbeats 800000 in
theorem rname_c (e0 : Int) (w : World) : Calls Tryd.prog 10 #[.int .i64 e0] w fun e w' => e = .returned (.tuple #[.string (nameS e0), .bool (nameB e0)]) ∧ Below w.heap.size w w' := by
  by_cases hb : nameB e0 = true
  · have hk : 0 ≤ e0 ∧ e0 < 22 := by unfold nameB at hb; simpa using hb
    obtain ⟨k, rfl⟩ : ∃ k : Nat, e0 = (k : Int) := ⟨e0.toNat, by omega⟩
    have hk2 : k < 22 := by omega
    have e1 : nameS k = wd k := by unfold nameS; rw [if_pos (by omega)]; rfl
    rw [e1, hb]
    have hki : (k : Int) < 22 := by omega
    clear e1 hb hk
    go_enter Tryd.func10, Tryd.ntmps10
    go_wp2_with fail
    refine (rnames_c w).mono ?_
    rintro e w1 ⟨rfl, hw⟩
    have hb : Below w.heap.size w w1 := by rw [hw]; exact (Below.refl _ _).alloc (Nat.le_refl _) _
    have hc : w1.cell? ⟨w.heap.size, k, none⟩ = some (.string (wd k)) := by
      rw [hw]; exact ((Has.new w wordsV 9).cell k).trans (wordsV_get k hk2)
    clear hw
    go_wp2
    go_ret2
    exact ⟨rfl, hb⟩
  · have hb2 : nameB e0 = false := by simpa using hb
    have hn := nameB_no hb2
    have e1 : nameS e0 = ⟨#[]⟩ := by unfold nameS; rw [if_neg (by omega)]
    rw [e1, hb2]
    clear hb hb2 e1
    by_cases h0 : e0 < 0
    · go_enter Tryd.func10, Tryd.ntmps10
      go_wp2_with fail
      refine (rnames_c w).mono ?_
      rintro e w1 ⟨rfl, hw⟩
      have hb : Below w.heap.size w w1 := by rw [hw]; exact (Below.refl _ _).alloc (Nat.le_refl _) _
      clear hw hn
      go_wp2
      go_ret2
      exact ⟨rfl, hb⟩
    · have h9 : 22 ≤ e0 := by omega
      clear hn
      go_enter Tryd.func10, Tryd.ntmps10
      go_wp2_with fail
      refine (rnames_c w).mono ?_
      rintro e w1 ⟨rfl, hw⟩
      have hb : Below w.heap.size w w1 := by rw [hw]; exact (Below.refl _ _).alloc (Nat.le_refl _) _
      clear hw
      go_wp2
      go_ret2
      exact ⟨rfl, hb⟩

set_option maxRecDepth 100000 in
set_option maxHeartbeats 1600000 in
theorem cnames_w (e0 : Int) (he0 : (Lit.int .i64 e0).wf = true) (s : ByteArray) (_ : s.size ≤ maxLen) (w : World) : Calls Tryd.prog 3 #[.int .i64 e0, .string s] w fun e w' => e = .returned (.bool true) ∧ Below w.heap.size w w' := by
  have N := fun w => name_c e0 w
  have R := fun w => rname_c e0 w
  generalize nameS e0 = sn at N R
  generalize nameB e0 = sb at N R
  have HN := Lib.hid N
  have HR := Lib.hid R
  clear N R
  go_enter Tryd.func3, Tryd.ntmps3
  go_wp2_with fail
  refine (examples_c _).mono ?_
  rintro e w1 ⟨rfl, hb1⟩
  go_wp2_with fail
  refine (HN.out _).mono ?_
  rintro e w2 ⟨rfl, hb⟩
  have hb2 := hb1.trans (hb.mono hb1.size)
  clear hb hb1
  go_wp2_with fail
  refine (HR.out _).mono ?_
  rintro e w3 ⟨rfl, hb⟩
  have hb3 := hb2.trans (hb.mono hb2.size)
  clear hb hb2
  go_wp2_with fail
  refine (parse_c s _).mono ?_
  rintro e w4 ⟨r, hr, rfl, hb⟩
  have hb4 := hb3.trans (hb.mono hb3.size)
  clear hb hb3
  go_wp2_with fail
  refine (rparse_c s _).mono ?_
  rintro e w5 ⟨r2, hr2, rfl, hb⟩
  obtain rfl := hr.unique hr2
  have hb5 := hb4.trans (hb.mono hb4.size)
  clear hb hb4 hr hr2
  generalize posI r = pr
  generalize decide (0 ≤ r) = br
  go_wp2
  go_ret
  exact ⟨rfl, hb5⟩

end Go.Proofs.YthndeejgcpmblaaDoor
