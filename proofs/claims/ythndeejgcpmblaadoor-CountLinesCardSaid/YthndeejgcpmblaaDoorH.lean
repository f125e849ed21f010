/- The walk of CountEmpty. -/
import Derived.Test.YthndeejgcpmblaaDoorE
namespace Go.Proofs.YthndeejgcpmblaaDoor
open Go.RowKit
set_option linter.unusedSimpArgs false
set_option linter.unusedVariables false

theorem own_len {w : World} {base : Nat} {e n : Nat} {v : Value} {xs : List Value} (h : w.ownsRow base e 1 v n xs) : ∃ a c, v = .slice a n c := by
  rcases h.2 with ⟨rfl, q⟩ | ⟨g, cap, cur, rfl, _⟩
  · have h1 := h.1
    have : n = 0 := by rw [q] at h1; simp at h1; omega
    subst this
    exact ⟨none, 0, rfl⟩
  · exact ⟨_, _, rfl⟩
def gv (f : Nat → Nat) (e : Int) : Nat := if nameB e then f e.toNat else 0
theorem getE_c (cb mb hi : Nat) (f : Nat → Nat) (e0 : Int) (hw : (Lit.int .i64 e0).wf = true) (w : World) (h : Ct w cb mb hi f) : Calls Tryd.prog 15 #[.pointer (some ⟨cb, 0, none⟩), .int .i64 e0] w fun e w' => e = .returned (.int .i64 (gv f e0)) ∧ w = w' := by
  cases hb : nameB e0
  · have hn := nameB_no hb
    have e1 : gv f e0 = 0 := by unfold gv; rw [hb]; rfl
    rw [e1]
    have c0 := h.head.cell 0
    obtain ⟨nm, M, _, g, hM, hK⟩ := h.map
    have hnone : M (.int .i64 e0) = none := by
      cases hv : M (.int .i64 e0) with
      | none => rfl
      | some v =>
        obtain ⟨k, hk, e⟩ := hK _ v hv
        cases e
        omega
    have lk := g.look keyed25 Tryd.underlying49 zero3 (key := .int .i64 e0) (kl := .int .i64 e0) (Maps.keyOf_int_mk Tryd.underlying25 hw)
    rw [hnone] at lk
    simp only [Option.getD] at lk
    clear h hb hn e1 hM hK hnone g
    go_enter Tryd.func15, Tryd.ntmps15
    go_wp2
    go_ret
    exact ⟨rfl, rfl⟩
  · have hk : 0 ≤ e0 ∧ e0 < 22 := by unfold nameB at hb; simpa using hb
    obtain ⟨k, rfl⟩ : ∃ k : Nat, e0 = (k : Int) := ⟨e0.toNat, by omega⟩
    have e1 : gv f k = f k := by unfold gv; rw [hb]; simp
    rw [e1]
    exact get_c cb mb hi f k (by omega) w h
theorem one_ln : ∀ k : Fin 22, (ln dg (inc (fun _ => 0) k.val) 22).length = 1 := by decide +kernel
theorem one_sum : ∀ k : Fin 22, sum (inc (fun _ => 0) k.val) = 1 := by decide +kernel
theorem inc_pos {k x : Nat} (h : 0 < inc (fun _ => 0) k x) : inc (fun _ => 0) k x = 1 ∨ inc (fun _ => 0) k x = 2 := by
  unfold inc at *
  by_cases e : x = k
  · simp [e]
  · simp [e] at h

set_option maxRecDepth 100000 in
set_option maxHeartbeats 3200000 in
theorem cempty_w (e0 : Int) (he0 : (Lit.int .i64 e0).wf = true) (w : World) : Calls Tryd.prog 7 #[.int .i64 e0] w fun e w' => e = .returned (.bool true) ∧ Below w.heap.size w w' := by
  have HE0 := Lib.hid he0
  clear he0
  go_enter Tryd.func7, Tryd.ntmps7
  go_wp2_with fail
  refine (examples_c _).mono ?_
  rintro e w1 ⟨rfl, hb1⟩
  go_wp2_with fail
  refine (new_c _).mono ?_
  rintro e w2 ⟨rfl, C2, hb⟩
  have hb2 := hb1.trans (hb.mono hb1.size)
  have hs1 := hb1.size
  clear hb hb1
  go_wp2_with fail
  refine (total_c _ _ _ _ _ (by omega) C2).mono ?_
  rintro e w3 ⟨rfl, hb⟩
  rw [show sum (fun _ => 0) = 0 from rfl]
  have C3 := C2.below hb
  have hb3 := hb2.trans (hb.mono hb2.size)
  clear hb hb2 C2
  go_wp2_with fail
  refine (lines_c _ _ _ _ dg _ C3 (fun k _ _ => dg_size _) (fun k hk hp w _ => absurd hp (by omega))).mono ?_
  rintro e w4 ⟨v, rfl, hown, hb⟩
  rw [show (ln dg (fun _ => 0) 22).length = 0 from rfl] at hown
  obtain ⟨sa, sc, rfl⟩ := own_len hown
  have C4 := C3.below hb
  have hb4 := hb3.trans (hb.mono hb3.size)
  clear hb hb3 C3 hown
  go_wp2_with fail
  refine (getE_c _ _ _ _ e0 HE0.out _ C4).mono ?_
  rintro e w' ⟨rfl, rfl⟩
  rw [show gv (fun _ => 0) e0 = 0 from by unfold gv; split <;> rfl]
  go_wp2_with fail
  refine (name_c e0 _).mono ?_
  rintro e w5 ⟨rfl, hb⟩
  have C5 := C4.below hb
  have hb5 := hb4.trans (hb.mono hb4.size)
  clear hb hb4 C4
  generalize nameS e0 = sn
  cases hnb : nameB e0
  · have HNB := Lib.hid hnb
    clear hnb
    go_wp2_with fail
    refine (add_no _ e0 HNB.out _).mono ?_
    rintro e w6 ⟨rfl, hb⟩
    have C6 := C5.below hb
    have hb6 := hb5.trans (hb.mono hb5.size)
    clear hb hb5 C5
    go_wp2_with fail
    refine (total_c _ _ _ _ _ (by omega) C6).mono ?_
    rintro e w7 ⟨rfl, hb⟩
    rw [show sum (fun _ => 0) = 0 from rfl]
    have C7 := C6.below hb
    have hb7 := hb6.trans (hb.mono hb6.size)
    clear hb hb6 C6
    go_wp2_with fail
    refine (getE_c _ _ _ _ e0 HE0.out _ C7).mono ?_
    rintro e w' ⟨rfl, rfl⟩
    rw [show gv (fun _ => 0) e0 = 0 from by unfold gv; split <;> rfl]
    go_wp2_with fail
    refine (lines_c _ _ _ _ dg _ C7 (fun k _ _ => dg_size _) (fun k hk hp w _ => absurd hp (by omega))).mono ?_
    rintro e w8 ⟨v, rfl, hown, hb⟩
    rw [show (ln dg (fun _ => 0) 22).length = 0 from rfl] at hown
    obtain ⟨sa, sc, rfl⟩ := own_len hown
    have hb8 := hb7.trans (hb.mono hb7.size)
    clear hb hb7 C7 hown
    go_wp2
    go_ret
    exact ⟨rfl, hb8⟩
  · have hk : 0 ≤ e0 ∧ e0 < 22 := by unfold nameB at hnb; simpa using hnb
    obtain ⟨k, rfl⟩ : ∃ k : Nat, e0 = (k : Int) := ⟨e0.toNat, by omega⟩
    have hk2 : k < 22 := by omega
    have HNB := Lib.hid hnb
    clear hnb hk
    go_wp2_with fail
    refine (add_c _ _ _ _ k hk2 (by omega) _ C5).mono ?_
    rintro e w6 ⟨rfl, C6, hb⟩
    have hb6 := hb5.trans (hb _ (by omega) hs1)
    clear hb hb5 C5
    go_wp2_with fail
    refine (total_c _ _ _ _ _ (by omega) C6).mono ?_
    rintro e w7 ⟨rfl, hb⟩
    rw [one_sum ⟨k, hk2⟩]
    have C7 := C6.below hb
    have hb7 := hb6.trans (hb.mono hb6.size)
    clear hb hb6 C6
    go_wp2_with fail
    refine (getE_c _ _ _ _ k HE0.out _ C7).mono ?_
    rintro e w' ⟨rfl, rfl⟩
    rw [show gv (inc (fun _ => 0) k) k = 1 from by unfold gv; rw [HNB.out]; simp [inc]]
    go_wp2_with fail
    refine (lines_c _ _ _ _ dg _ C7 (fun k _ _ => dg_size _) (fun x hx hp w _ => itoa_c _ (inc_pos hp) w)).mono ?_
    rintro e w8 ⟨v, rfl, hown, hb⟩
    rw [one_ln ⟨k, hk2⟩] at hown
    obtain ⟨sa, sc, rfl⟩ := own_len hown
    have hb8 := hb7.trans (hb.mono hb7.size)
    clear hb hb7 C7 hown
    go_wp2
    go_ret
    exact ⟨rfl, hb8⟩
end Go.Proofs.YthndeejgcpmblaaDoor
