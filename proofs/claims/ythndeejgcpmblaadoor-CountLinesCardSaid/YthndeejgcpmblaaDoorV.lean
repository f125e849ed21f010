/- The walk of CountLines. -/
import Derived.Test.YthndeejgcpmblaaDoorU
import Derived.Deep.QuietTactic
import Derived.BigQuiet
namespace Go.Proofs.YthndeejgcpmblaaDoor
open Go.RowKit
set_option linter.unusedSimpArgs false
set_option linter.unusedVariables false

theorem nameB_yes {x : Nat} (h : x < 22) : nameB (x : Int) = true := by unfold nameB; simp; omega
theorem Ct.more {w : World} {cb mb hi hi' : Nat} {f : Nat → Nat} (h : Ct w cb mb hi f) (e : hi ≤ hi') : Ct w cb mb hi' f := by
  obtain ⟨h1, ⟨nm, M, h2, r⟩, h4, h5⟩ := h
  exact ⟨h1, ⟨nm, M, by omega, r⟩, fun k => Nat.le_trans (h4 k) e, h5⟩
theorem Ct.dr {w : World} {cb mb hi : Nat} {f : Nat → Nat} (h : Ct w cb mb hi f) (q : Nat) : Ct (w.drewN q) cb mb hi f := h.of_blocks rfl rfl
theorem bel_dr {B : Nat} {w w' : World} (h : Below B w w') (q : Nat) : Below B w (w'.drewN q) := ⟨h.os, h.tape, h.output, h.size, h.block⟩
theorem own_mono {w : World} {base base' : Nat} {e n : Nat} {v : Value} {xs : List Value} (h : w.ownsRow base e 1 v n xs) (hb : base' ≤ base) : w.ownsRow base' e 1 v n xs := by
  refine ⟨h.1, ?_⟩
  rcases h.2 with q | ⟨g, cap, cur, h1, hg, h2⟩
  · exact .inl q
  · exact .inr ⟨g, cap, cur, h1, by omega, h2⟩
theorem own_at {w : World} {base pf ca k : Nat} {sa : Option Addr} {ls : List ByteArray} (h : w.ownsRow base 9 1 (.slice sa pf ca) pf (ls.map .string)) (hl : ls.length = pf) (hk : k < pf) :
    ∃ g s, sa = some ⟨g, 0, none⟩ ∧ ls[k]? = some s ∧ w.cell? ⟨g, k, none⟩ = some (.string s) ∧ g < w.heap.size := by
  obtain ⟨g, hg⟩ : ∃ g, (Value.slice sa pf ca).ownBlock = some g := by
    rcases h.2 with ⟨_, q⟩ | ⟨g, cap, cur, e, _⟩
    · have : pf = 0 := by
        first
          | (have : ls = [] := by simpa using q
             subst this
             simpa using hl.symm)
          | simpa using q
      omega
    · exact ⟨g, by rw [e]; rfl⟩
  obtain ⟨c, hv⟩ := own_shape h hg
  cases hv
  have hs : ls[k]? = some ls[k] := List.getElem?_eq_getElem (by omega)
  have := h.cells hg k (.string ls[k]) (by simp [hs])
  rw [add_none] at this
  exact ⟨g, ls[k], rfl, hs, by simpa using this, (h.lt g hg).2⟩
theorem cnt_zero : madeCells #[.int .i64 0] 22 = cntA (fun _ => 0) := by
  apply Array.ext'
  apply List.ext_getElem?
  intro j
  simp only [madeCells, cntA, Array.toList_map, Array.toList_range, List.getElem?_map]
  by_cases h : j < 22 <;> simp [h, Nat.mod_one]
set_option maxRecDepth 100000 in
set_option maxHeartbeats 3200000 in
theorem lines_law (a : Option Addr) (len cap : Nat) (z : List Int) (w : World) (hin : IsInts .i64 w a len z) (hP : Pow w) (hz : 0 < w.heap.size) :
    Calls Tryd.prog 5 #[.slice a len cap] w fun e w' => e = .returned (.bool true) ∧ Below w.heap.size w w' := by
  have HI := Lib.hid hin
  have HP := Lib.hid hP
  have hmk : ∀ W : World, (Instr.makeSlice 32 (.int .i64 22) (.int .i64 22)).run Tryd.prog W = .ok (.slice (some ⟨W.heap.size, 0, none⟩) 22 22) (W.alloc (.cells (cntA fun _ => 0) 3)) := fun W => by
    rw [← cnt_zero]
    kernel_rfl
  clear hin hP
  go_enter Tryd.func5, Tryd.ntmps5
  go_wp2_with fail
  refine (examples_c w).mono ?_
  rintro e w1 ⟨rfl, hb1⟩
  have hs1 := hb1.size
  have HB1 := Lib.hid hb1
  clear hb1
  go_wp2_with fail
  refine (new_c w1).mono ?_
  rintro e w2 ⟨rfl, C2, hb2⟩
  go_wp2_with fail
  have hs2 := C2.head.lt
  have C3 := C2.below ((Below.refl _ _).alloc (Nat.le_refl _) (.cells (cntA fun _ => 0) 3))
  have K3 := Has.new w2 (cntA fun _ => 0) 3
  have B3 : Below w.heap.size w (w2.alloc (.cells (cntA fun _ => 0) 3)) := (HB1.out.trans (hb2.mono hs1)).alloc (by have := hb2.size; omega) _
  clear C2 hb2 hmk
  obtain ⟨b, hb⟩ : ∃ b, b = w2.heap.size := ⟨_, rfl⟩
  rw [← hb] at K3 ⊢
  go_loopw [6, 7, 8] (fun n i _ wr => ∃ (j : Nat) (f : Nat → Nat), j ≤ 200 ∧ i = .int .i64 j ∧ n = .int .i64 (tot f 22 : Nat) ∧ Ct wr (w1.heap.size + 1) w1.heap.size j f ∧ Has wr b 3 (cntA f) ∧ Below w.heap.size w wr ∧ tot f 22 ≤ j) (fun _ i _ _ => 200 - (intOf i).toNat)
  case atStart => exact ⟨0, _, by omega, rfl, rfl, C3, K3, B3, Nat.le_refl _⟩
  case round =>
    obtain ⟨j, f, hj, rfl, rfl, C4, K4, B4, hT⟩ := hrel
    clear C3 K3 B3
    have hbn : b ≠ w1.heap.size := by omega
    have hbn2 : b ≠ w1.heap.size + 1 := by omega
    have HBE := Lib.hid hb
    clear hb
    by_cases hgo : j < len ∧ j < 200
    · obtain ⟨hlt, h200⟩ := hgo
      have hj1 : (j : Int) < (len : Int) := by omega
      have hj0 : (0 : Int) ≤ (j : Int) := Int.natCast_nonneg _
      have hj2 : (j : Int) < 200 := by omega
      rcases HI.out with ⟨h0, _⟩ | ⟨bb, off, rfl, hbl, hzl, hm', hc, hr⟩
      · omega
      have hcell := (B4.cell (p := ⟨bb, off + j, none⟩) hbl).trans (hc j hlt)
      have hwf := hr j hlt
      have HC : Hid (∀ W : World, Below w.heap.size w W → W.cell? ⟨bb, off + j, none⟩ = some (.int .i64 (z.getD j 0))) := fun W hB => (hB.cell (p := ⟨bb, off + j, none⟩) hbl).trans (hc j hlt)
      generalize z.getD j 0 = v at hcell hwf HC
      obtain ⟨hv0, hv1⟩ := wf_i64 hwf
      have HWF := Lib.hid hwf
      clear hc hr hwf
      cases hnb : nameB v
      · have hno := nameB_no hnb
        have HNB := Lib.hid hnb
        have CZ : gv f v = 0 := by unfold gv; rw [hnb]; rfl
        have HCZ := Lib.hid CZ
        clear hnb CZ
        by_cases hneg : v < 0
        · clear hno
          go_wp2_with fail
          refine (add_no _ v HNB.out _).mono ?_
          rintro e w3 ⟨rfl, hb⟩
          have C5 := C4.below hb
          have K5 := K4.below hb
          have B5 := B4.trans (hb.mono B4.size)
          have c5 := HC.out _ B5
          have ge := fun q => (getE_c _ _ _ _ v HWF.out (w3.drewN q) (C5.of_blocks rfl rfl)).mono (fun _ _ h => And.intro h.1 h.2.symm)
          rw [HCZ.out] at ge
          have GE := Lib.hid ge
          have C5H := Lib.hid (C5.more (show j ≤ j + 1 by omega))
          have K5H := Lib.hid K5
          have B5H := Lib.hid B5
          clear hb C4 K4 B4 hcell ge C5 K5 B5
          go_wp2_with fail
          go_quiet ((go_at_call 15; exact Calls.quiet_of_same (GE.out _)))
          go_wp2
          go_roundw
          case rel => exact ⟨j + 1, f, by omega, by go_num, rfl, C5H.out.dr _, K5H.out, bel_dr B5H.out _, by omega⟩
          case measure => simp [intOf]; omega
        · have hge : 22 ≤ v := by omega
          have hneg2 : (0 : Int) ≤ v := by omega
          clear hno
          go_wp2_with fail
          refine (add_no _ v HNB.out _).mono ?_
          rintro e w3 ⟨rfl, hb⟩
          have C5 := C4.below hb
          have K5 := K4.below hb
          have B5 := B4.trans (hb.mono B4.size)
          have c5 := HC.out _ B5
          have ge := fun q => (getE_c _ _ _ _ v HWF.out (w3.drewN q) (C5.of_blocks rfl rfl)).mono (fun _ _ h => And.intro h.1 h.2.symm)
          rw [HCZ.out] at ge
          have GE := Lib.hid ge
          have C5H := Lib.hid (C5.more (show j ≤ j + 1 by omega))
          have K5H := Lib.hid K5
          have B5H := Lib.hid B5
          clear hb C4 K4 B4 hcell ge C5 K5 B5
          go_wp2_with fail
          go_quiet ((go_at_call 15; exact Calls.quiet_of_same (GE.out _)))
          go_wp2
          go_roundw
          case rel => exact ⟨j + 1, f, by omega, by go_num, rfl, C5H.out.dr _, K5H.out, bel_dr B5H.out _, by omega⟩
          case measure => simp [intOf]; omega
      · obtain ⟨hx0, hx22⟩ : 0 ≤ v ∧ v < 22 := by unfold nameB at hnb; simpa using hnb
        obtain ⟨x, rfl⟩ : ∃ x : Nat, v = (x : Int) := ⟨v.toNat, by omega⟩
        have hxn : x < 22 := by omega
        clear hnb
        go_wp2_with fail
        refine (add_o _ _ _ _ x hxn (by omega) wr C4).mono ?_
        rintro e w3 ⟨rfl, C5, hb5, e5⟩
        have K5 : Has w3 b 3 (cntA f) := (e5 b hbn K4.lt).trans K4
        have B5 := B4.trans (hb5 w.heap.size (by omega) B4.size)
        have c5 := HC.out _ B5
        have hfx := C4.small x
        have hT2 := tot_inc f x 22 hxn
        have kc : w3.cell? ⟨b, x, none⟩ = some (.int .i64 (f x)) := (K5.cell x).trans (cntA_get f x hxn)
        have kf := K5.free x
        have K6 := K5.set x (.int .i64 ((f x : Int) + 1))
        rw [cntA_set f x _ rfl] at K6
        have C6 := C5.of_blocks (w' := w3.setCell ⟨b, x, none⟩ (.int .i64 ((f x : Int) + 1))) (Below.heap_setCell _ _ _ _ (Ne.symm hbn2)) (Below.heap_setCell _ _ _ _ (Ne.symm hbn))
        have B6 : Below w.heap.size w (w3.setCell ⟨b, x, none⟩ (.int .i64 ((f x : Int) + 1))) := B5.setCell (p := ⟨b, x, none⟩) (by show w.heap.size ≤ b; have := HBE.out; omega) _
        have c6 := HC.out _ B6
        have k6 : (w3.setCell ⟨b, x, none⟩ (.int .i64 ((f x : Int) + 1))).cell? ⟨b, x, none⟩ = some (.int .i64 ((f x : Int) + 1)) := by
          rw [K6.cell x, cntA_get _ x hxn]; simp [inc]
        have ge : ∀ q, Calls Tryd.prog 15 #[.pointer (some ⟨w1.heap.size + 1, 0, none⟩), .int .i64 x] ((w3.setCell ⟨b, x, none⟩ (.int .i64 ((f x : Int) + 1))).drewN q) fun e w' => e = .returned (.int .i64 ((f x : Int) + 1)) ∧ w' = (w3.setCell ⟨b, x, none⟩ (.int .i64 ((f x : Int) + 1))).drewN q := fun q => (get_c _ _ _ _ x hxn ((w3.setCell ⟨b, x, none⟩ (.int .i64 ((f x : Int) + 1))).drewN q) (C6.dr q)).mono (fun _ _ h => And.intro (by rw [h.1]; simp [inc]) h.2.symm)
        have GE := Lib.hid ge
        have C6H := Lib.hid C6
        have K6H := Lib.hid K6
        have B6H := Lib.hid B6
        have hne : (((f x : Int) + 1) != 0) = true := by simp; omega
        have HT2 := Lib.hid hT2
        clear C4 K4 B4 hcell C5 hb5 e5 K5 B5 K6 C6 B6 ge hT2
        generalize f x = fx at kc hfx k6 c6 hne GE C6H K6H B6H
        generalize tot f 22 = tk at hT HT2
        have hcl : (wr.heap.size : Int) = wr.heap.size := rfl
        clear hcl
        go_wp2_with fail
        go_quiet ((go_at_call 15; exact Calls.quiet_of_same (GE.out _)))
        go_wp2
        go_roundw
        case rel => exact ⟨j + 1, inc f x, by omega, by go_num, by rw [HT2.out]; go_num, C6H.out.dr _, K6H.out, bel_dr B6H.out _, by rw [HT2.out]; omega⟩
        case measure => simp [intOf]; omega
    · have HG : Hid (¬ (j < len ∧ j < 200)) := hgo
      have HTJ := Lib.hid hT
      obtain ⟨wo, rfl⟩ : ∃ wo : World, wo = wr := ⟨_, rfl⟩
      by_cases hlt : j < len
      all_goals
        have h200 : ¬ (j < len ∧ j < 200) := HG.out
        first
          | (have hja : (j : Int) < (len : Int) := by omega
             have hjb : ¬ (j : Int) < 200 := by omega
             clear h200 hgo)
          | (have hja : ¬ (j : Int) < (len : Int) := by omega
             clear h200 hgo)
        have PW := Lib.hid (HP.out.below B4 hz)
        have hsm := C4.small
        have HSM := Lib.hid hsm
        clear hsm
        go_wp2_with fail
        refine (lines_c _ _ _ _ dd _ C4 (fun k hk _ => dd_size _ (by have := HSM.out k; omega)) (fun k hk hp W hW => itoa_any _ (by have := HSM.out k; omega) W (PW.out.below hW (by have := B4.size; omega)))).mono ?_
        rintro e w4 ⟨va, rfl, owna, hb⟩
        have C7 := C4.below hb
        have K7 := K4.below hb
        have B7 := B4.trans (hb.mono B4.size)
        clear hb C4 K4 B4
        go_wp2_with fail
        refine (rlines_c b f _ K7 (fun k => by have := HSM.out k; omega)).mono ?_
        rintro e w5 ⟨vb, rfl, ownb, hb⟩
        have owna5 := own_below owna hb
        have C8 := C7.below hb
        have B8 := B7.trans (hb.mono B7.size)
        clear hb C7 K7 B7 owna
        rw [ln_pos] at owna5 ownb
        obtain ⟨ls, hls⟩ : ∃ ls, ls = ln dd f 22 := ⟨_, rfl⟩
        rw [← hls] at owna5 ownb
        have hll : ls.length = pos f 22 := by rw [hls, ln_pos]
        obtain ⟨pf, hpf⟩ : ∃ pf, pf = pos f 22 := ⟨_, rfl⟩
        have hp22 := pos_le f 22
        rw [← hpf] at owna5 ownb hll hp22
        have LL := Lib.hid hll
        clear hls hll hpf
        obtain ⟨sa, ca, rfl⟩ := own_len owna5
        obtain ⟨sb, cb, rfl⟩ := own_len ownb
        have OA := Lib.hid owna5
        have OB := Lib.hid ownb
        clear owna5 ownb
        go_wp2_with fail
        go_loopw [11] (fun i wr => ∃ k : Nat, k ≤ pf ∧ i = .int .i64 k ∧ Below w5.heap.size w5 wr) (fun i _ => pf - (intOf i).toNat)
        case atStart => exact ⟨0, by omega, rfl, Below.refl _ _⟩
        case round =>
          obtain ⟨k, hk, rfl, hb⟩ := hrel
          by_cases hkp : k < pf
          · have hk0 : (0 : Int) ≤ (k : Int) := Int.natCast_nonneg _
            have hk1 : (k : Int) < (pf : Int) := by omega
            obtain ⟨ga, s, rfl, hs1, ka, la⟩ := own_at OA.out LL.out hkp
            obtain ⟨gb, s2, rfl, hs2, kb2, lb⟩ := own_at OB.out LL.out hkp
            obtain rfl : s = s2 := Option.some.inj (hs1.symm.trans hs2)
            have ka2 := (hb.cell (p := ⟨ga, k, none⟩) la).trans ka
            have kb3 := (hb.cell (p := ⟨gb, k, none⟩) lb).trans kb2
            have HB := Lib.hid hb
            clear hs1 hs2 ka kb2 hb
            go_wp2_with fail
            go_quiet (fail)
            go_wp2
            go_roundw
            case rel => exact ⟨k + 1, by omega, by go_num, bel_dr HB.out _⟩
            case measure => simp [intOf]; omega
          · obtain rfl : k = pf := by omega
            have C9 := C8.below hb
            have B9 := B8.trans (hb.mono B8.size)
            have htj := HTJ.out
            clear hb C8 B8
            go_wp2_with fail
            refine (total_c _ _ _ _ _ (by omega) C9).mono ?_
            rintro e w7 ⟨rfl, hb⟩
            rw [show sum f = tot f 22 from rfl]
            have FIN := Lib.hid (B9.trans (hb.mono B9.size))
            clear hb C9 B9
            go_wp2
            go_ret
            exact ⟨rfl, FIN.out⟩
theorem lines_w (a : Option Addr) (len cap : Nat) {w : World} (hin : ∃ z, IsInts .i64 w a len z) (hP : Pow w) (hz : 0 < w.heap.size) :
    Calls Tryd.prog 5 #[.slice a len cap] w fun e w' => e = .returned (.bool true) ∧ Below w.heap.size w w' := by
  obtain ⟨z, hin⟩ := hin
  exact lines_law a len cap z w hin hP hz
end Go.Proofs.YthndeejgcpmblaaDoor
