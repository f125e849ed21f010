/- The walk of CountBack. -/
import Derived.Test.YthndeejgcpmblaaDoorF
namespace Go.Proofs.YthndeejgcpmblaaDoor
open Go.RowKit
set_option linter.unusedSimpArgs false
set_option linter.unusedVariables false

theorem wd_inj : ∀ k l : Fin 22, wd k.val = wd l.val → k = l := by decide +kernel
theorem idx_of (k : Nat) (hk : k < 22) : IdxP (wd k) k := .inr ⟨k, hk, rfl, rfl, fun l hl h => by
  have := wd_inj ⟨l, by omega⟩ ⟨k, hk⟩ h
  simp at this
  omega⟩
theorem toList_self (s : ByteArray) : (s.toList == s.toList) = true := by simp

set_option maxRecDepth 100000 in
set_option maxHeartbeats 3200000 in
theorem cback_w (e0 : Int) (he0 : (Lit.int .i64 e0).wf = true) (s : ByteArray) (_ : s.size ≤ maxLen) (w : World) : Calls Tryd.prog 4 #[.int .i64 e0, .string s] w fun e w' => e = .returned (.bool true) ∧ Below w.heap.size w w' := by
  have N := fun w => name_c e0 w
  have hN : nameB e0 = true → ∃ k : Nat, k < 22 ∧ e0 = (k : Int) ∧ nameS e0 = wd k := by
    intro hb
    have hk : 0 ≤ e0 ∧ e0 < 22 := by unfold nameB at hb; simpa using hb
    obtain ⟨k, rfl⟩ : ∃ k : Nat, e0 = (k : Int) := ⟨e0.toNat, by omega⟩
    exact ⟨k, by omega, rfl, by unfold nameS; rw [if_pos (by omega)]; rfl⟩
  have hN0 : nameB e0 = false → e0 < 0 ∨ 22 ≤ e0 := nameB_no
  generalize nameS e0 = sn at N hN
  generalize nameB e0 = sb at N hN hN0
  have HN := Lib.hid N
  have HN1 := Lib.hid hN
  have HN0 := Lib.hid hN0
  clear N hN hN0
  go_enter Tryd.func4, Tryd.ntmps4
  go_wp2_with fail
  refine (examples_c _).mono ?_
  rintro e w1 ⟨rfl, hb1⟩
  go_wp2_with fail
  refine (HN.out _).mono ?_
  rintro e w2 ⟨rfl, hb⟩
  have hb2 := hb1.trans (hb.mono hb1.size)
  clear hb hb1
  go_wp2_with fail
  refine (parse_c sn _).mono ?_
  rintro e w3 ⟨r, hr, rfl, hb⟩
  have hb3 := hb2.trans (hb.mono hb2.size)
  clear hb hb2
  go_wp2_with fail
  refine (parse_c s _).mono ?_
  rintro e w4 ⟨r2, hr2, rfl, hb⟩
  have hb4 := hb3.trans (hb.mono hb3.size)
  clear hb hb3
  go_wp2_with fail
  refine (name_c (posI r2) _).mono ?_
  rintro e w5 ⟨rfl, hb⟩
  have hb5 := hb4.trans (hb.mono hb4.size)
  clear hb hb4
  obtain ⟨tb, ts, ht1, ht2⟩ : ∃ (tb : Bool) (ts : ByteArray), tb = nameB (posI r2) ∧ ts = nameS (posI r2) := ⟨_, _, rfl, rfl⟩
  rw [← ht1, ← ht2]
  have good : Hid (0 ≤ r2 → tb = true ∧ ts = s) := by
    intro h0
    rcases hr2 with ⟨rfl, _⟩ | ⟨k, hk, rfl, hw, _⟩
    · omega
    · have e : posI (k : Int) = k := by simp [posI]
      rw [e] at ht1 ht2
      refine ⟨by rw [ht1]; unfold nameB; simp; omega, ?_⟩
      rw [ht2, ← hw]
      unfold nameS
      rw [if_pos (by omega)]
      rfl
  have own : Hid (sb = true → 0 ≤ r ∧ posI r = e0 ∧ 0 ≤ e0 ∧ e0 ≤ 21) := by
    intro hb
    obtain ⟨k, hk, rfl, rfl⟩ := HN1.out hb
    obtain rfl := hr.unique (idx_of k hk)
    exact ⟨by omega, by simp [posI], by omega, by omega⟩
  generalize posI r = pr at own
  generalize posI r2 = pr2 at ht1 ht2
  clear ht1 ht2 hr hr2 HN
  have fin2 : (0 ≤ r2 ∧ tb = true ∧ ts = s) ∨ ¬ 0 ≤ r2 := by
    by_cases h : 0 ≤ r2
    · exact .inl ⟨h, good.out h⟩
    · exact .inr h
  cases sb
  · have hn := HN0.out rfl
    clear own good HN1 HN0
    rcases fin2 with ⟨h2, rfl, rfl⟩ | h2
    · rcases hn with hn | hn
      · have hn0 : ¬ 0 ≤ e0 := by omega
        go_wp2
        go_ret
        exact ⟨by simp [hn0], hb5⟩
      · have hn0 : 0 ≤ e0 := by omega
        have hn1 : ¬ e0 ≤ 21 := by omega
        go_wp2
        go_ret
        exact ⟨by simp [hn1], hb5⟩
    · rcases hn with hn | hn
      · have hn0 : ¬ 0 ≤ e0 := by omega
        go_wp2
        go_ret
        exact ⟨by simp [hn0], hb5⟩
      · have hn0 : 0 ≤ e0 := by omega
        have hn1 : ¬ e0 ≤ 21 := by omega
        go_wp2
        go_ret
        exact ⟨by simp [hn1], hb5⟩
  · obtain ⟨h1, rfl, h3, h4⟩ := own.out rfl
    clear own good HN1 HN0
    rcases fin2 with ⟨h2, rfl, rfl⟩ | h2
    · go_wp2
      go_ret
      exact ⟨by simp [h3, h4], hb5⟩
    · go_wp2
      go_ret
      exact ⟨by simp [h3, h4], hb5⟩
end Go.Proofs.YthndeejgcpmblaaDoor
