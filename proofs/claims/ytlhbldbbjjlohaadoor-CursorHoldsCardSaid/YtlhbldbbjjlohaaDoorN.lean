/- The walk of CursorHolds. -/
import Derived.Test.YtlhbldbbjjlohaaDoorE2
import Derived.Test.YtlhbldbbjjlohaaDoorArgs
import Derived.Test.YtlhbldbbjjlohaaDoorGMapOps
import Derived.Deep.RegionHeld3
namespace Go.Proofs.YtlhbldbbjjlohaaDoor
open Go.RowKit
set_option linter.unusedSimpArgs false
set_option linter.unusedVariables false
open V2 (Only)

theorem keyed3 : Maps.Keyed Tryd.prog 3 := Maps.int_keyed Tryd.underlying3
theorem zero3 (w : World) : (zeroValue 3).run Tryd.prog w = .ok (.int .i64 0) w := by kernel_rfl

def one (b : Bool) : Int := if b then 1 else 0
/-- The law's own map: a number that is used holds 1, another one 0 or nothing. -/
def MapOK (w : World) (mb hi : Nat) (U : Nat → Bool) : Prop := ∃ nm M, nm ≤ hi ∧ GMap Tryd.prog w 3 mb nm M ∧ ∀ x : Nat, (M (.int .i64 x)).getD (.int .i64 0) = .int .i64 (one (U x))
theorem wf_nat (x : Nat) (hx : x < 65536) : (Lit.int .i64 (x : Int)).wf = true := by
  have hmin : IntKind.i64.min = -9223372036854775808 := rfl
  have hmax : IntKind.i64.max = 9223372036854775807 := rfl
  simp only [Lit.wf, Bool.and_eq_true, decide_eq_true_eq]
  omega
section
variable {w w' : World} {mb hi : Nat} {U : Nat → Bool}
theorem MapOK.look (h : MapOK w mb hi U) (x : Nat) (hx : x < 65536) (b : Bool) (hb : U x = b) : (Instr.lookup 41 (.map (some mb)) (.int .i64 x) false).run Tryd.prog w = .ok (.int .i64 (one b)) w := by
  obtain ⟨nm, M, _, g, hM⟩ := h
  have := g.look keyed3 Tryd.underlying41 zero3 (key := .int .i64 x) (kl := .int .i64 x) (Maps.keyOf_int_mk Tryd.underlying3 (wf_nat x hx))
  rw [hM x, hb] at this
  exact this
theorem MapOK.store (h : MapOK w mb hi U) (hh : hi < 65536) (x : Nat) (hx : x < 65536) (b : Bool) (v : Int) (hv : v = one b) : ∃ w', (Instr.mapUpdate 41 (.map (some mb)) (.int .i64 x) (.int .i64 v)).run Tryd.prog w = .ok () w' ∧ MapOK w' mb (hi + 1) (setU U x b) ∧ w.mapTurned w' mb := by
  obtain ⟨nm, M, hn, g, hM⟩ := h
  subst hv
  obtain ⟨w', hrun, g', ht⟩ := g.store keyed3 Tryd.underlying41 (by unfold maxLen; omega) (key := .int .i64 x) (kl := .int .i64 x) (val := .int .i64 (one b)) trivial (Maps.keyOf_int_mk Tryd.underlying3 (wf_nat x hx))
  refine ⟨w', hrun, ⟨_, _, ?_, g', fun y => ?_⟩, ht⟩
  · split <;> omega
  · by_cases e : y = x
    · subst e; rw [putM_same]; simp [setU]
    · rw [putM_other _ _ (by simp; omega), hM y]; simp [setU, e]
theorem MapOK.kept (h : MapOK w mb hi U) (e : w'.heap[mb]? = w.heap[mb]?) : MapOK w' mb hi U := by
  obtain ⟨nm, M, hn, g, hM⟩ := h
  exact ⟨nm, M, hn, g.of_block e, hM⟩
theorem MapOK.congr {V : Nat → Bool} (h : MapOK w mb hi U) (e : ∀ k, U k = V k) : MapOK w mb hi V := by
  obtain rfl : U = V := funext e
  exact h
theorem MapOK.more {h2 : Nat} (h : MapOK w mb hi U) (e : hi ≤ h2) : MapOK w mb h2 U := by
  obtain ⟨nm, M, hn, q⟩ := h
  exact ⟨nm, M, Nat.le_trans hn e, q⟩
end

/-- The law's state. -/
structure LS (w0 w : World) (cb wb mb n at1 hi : Nat) (U V : Nat → Bool) : Prop where
  st : St w0 w cb wb n at1 U
  map : MapOK w mb hi V
  n1 : mb ≠ cb
  n2 : mb ≠ wb
  n3 : w0.heap.size ≤ mb
section
variable {w0 w w' : World} {cb wb mb n at1 hi : Nat} {U V : Nat → Bool}
theorem LS.moved (h : LS w0 w cb wb mb n at1 hi U V) {at2 : Nat} {U2 : Nat → Bool} (s : St w0 w' cb wb n at2 U2) (o : Only cb wb w w') : LS w0 w' cb wb mb n at2 hi U2 V :=
  ⟨s, h.map.kept (o.2.2 mb h.n1 h.n2), h.n1, h.n2, h.n3⟩
theorem LS.turned (h : LS w0 w cb wb mb n at1 hi U V) {h2 : Nat} {V2 : Nat → Bool} (m : MapOK w' mb h2 V2) (t : w.mapTurned w' mb) : LS w0 w' cb wb mb n at1 h2 U V2 :=
  ⟨h.st.other (turned_below t h.n3) (fun b hb _ => turned_block t hb) h.n1 h.n2, m, h.n1, h.n2, h.n3⟩
theorem LS.congr (h : LS w0 w cb wb mb n at1 hi U V) {V2 : Nat → Bool} {h2 : Nat} (e : ∀ k, V k = V2 k) (g : hi ≤ h2) : LS w0 w cb wb mb n at1 h2 U V2 :=
  ⟨h.st, (h.map.congr e).more g, h.n1, h.n2, h.n3⟩
end

def TakeP (w0 w : World) (cb wb n at1 : Nat) (U : Nat → Bool) (e : Ending) (w' : World) : Prop :=
      ((∀ k, k < n → U k = true) ∧ e = .returned (.tuple #[.int .i64 0, .bool false]) ∧ St w0 w' cb wb n at1 U ∧ Only cb wb w w') ∨
      ∃ k, V2.Next U n at1 k ∧ e = .returned (.tuple #[.int .i64 k, .bool true]) ∧ St w0 w' cb wb n ((k + 1) % n) (setU U k true) ∧ Only cb wb w w'
theorem tookA {w0 w w' : World} {cb wb n at1 : Nat} {U : Nat → Bool} {e : Ending} (H : TakeP w0 w cb wb n at1 U e w') (h : ∀ k, k < n → U k = true) : e = .returned (.tuple #[.int .i64 0, .bool false]) ∧ St w0 w' cb wb n at1 U ∧ Only cb wb w w' := by
  rcases H with ⟨_, h1⟩ | ⟨k, hk, _⟩
  · exact h1
  · have := h k hk.1; rw [hk.2.1] at this; cases this
theorem tookB {w0 w w' : World} {cb wb n at1 : Nat} {U : Nat → Bool} {e : Ending} (H : TakeP w0 w cb wb n at1 U e w') (h : ¬ ∀ k, k < n → U k = true) : ∃ k, (k < n ∧ U k = false) ∧ e = .returned (.tuple #[.int .i64 k, .bool true]) ∧ St w0 w' cb wb n ((k + 1) % n) (setU U k true) ∧ Only cb wb w w' := by
  rcases H with ⟨h1, _⟩ | ⟨k, hk, q⟩
  · exact absurd h1 h
  · exact ⟨k, ⟨hk.1, hk.2.1⟩, q⟩
set_option maxRecDepth 100000 in
set_option maxHeartbeats 3200000 in
theorem holds_c (m : Int) (a : Option Addr) (len cap : Nat) (z : List Int) (n : Nat) (hn1 : 1 ≤ n) (hn2 : n ≤ 100) (hm0 : 0 ≤ m) (hm1 : m ≤ 255) (hN : 1 + m % 100 = (n : Int)) (w : World) (hin : IsInts .u8 w a len z) (hT : Tab w) (hz : 0 < w.heap.size) :
    Calls Tryd.prog 6 #[.int .u8 m, .slice a len cap] w fun e w' => e = .returned (.bool true) ∧ Below w.heap.size w w' := by
  have HT := Lib.hid hT
  have HI := Lib.hid hin
  have hmm := @run_makeMap Tryd.prog
  clear hT hin
  go_enter Tryd.func6, Tryd.ntmps6
  go_wp2_with fail
  refine (examples_c _ HT.out hz).mono ?_
  rintro e w1 ⟨rfl, hb1⟩
  have HT1 := Lib.hid (HT.out.below hb1 hz)
  go_wp2_with fail
  refine (new_s w _ n (by omega) (by omega) HT1.out hb1 hz).mono ?_
  rintro e w2 ⟨rfl, S2⟩
  have hsz2 : w2.heap.size ≥ w1.heap.size + 2 := by have := S2.cur.head.lt; omega
  have L : LS w (w2.alloc (.map #[] 0)) (w1.heap.size + 1) w1.heap.size w2.heap.size n 0 0 (fun _ => false) (fun _ => false) :=
    ⟨S2.grow ((Below.refl _ _).alloc (Nat.le_refl _) _), ⟨0, _, Nat.le_refl _, GMap.made _ _ _, fun x => rfl⟩, by omega, by omega, by have := S2.bel.size; omega⟩
  have hq : cnt (fun _ => false) n = 0 := cnt_none n
  clear S2 HT1 HT hb1
  obtain ⟨mb, hmb⟩ : ∃ mb, mb = w2.heap.size := ⟨_, rfl⟩
  rw [← hmb] at L
  go_wp2_with fail
  rw [← hmb]
  go_loopw [10, 11] (fun c i wr => ∃ (j at1 : Nat) (U : Nat → Bool), j ≤ 60 ∧ i = .int .i64 j ∧ c = .int .i64 (cnt U n) ∧ LS w wr (w1.heap.size + 1) w1.heap.size mb n at1 (3 * j) U U) (fun _ i _ => 60 - (intOf i).toNat)
  case atStart => exact ⟨0, 0, _, by omega, rfl, by rw [hq]; rfl, L⟩
  case round =>
    obtain ⟨j, at1, U, hj, rfl, rfl, L2⟩ := hrel
    clear L hq hmb
    by_cases hlt : j < len
    · by_cases h60 : j < 60
      · have hj60 : (j : Int) < 60 := by omega
        have hjl : (j : Int) < (len : Int) := by omega
        go_wp2_with fail
        go_loopw [10, 12] (fun c i wr => ∃ (k at1 : Nat) (U : Nat → Bool), k ≤ 2 ∧ i = .int .i64 k ∧ c = .int .i64 (cnt U n) ∧ LS w wr (w1.heap.size + 1) w1.heap.size mb n at1 (3 * j + k) U U) (fun _ i _ => 2 - (intOf i).toNat)
        case atStart => exact ⟨0, at1, U, by omega, rfl, rfl, L2⟩
        case round =>
          obtain ⟨k, at2, V, hk, rfl, rfl, L3⟩ := hrel
          clear L2
          obtain ⟨q, hq⟩ : ∃ q, q = cnt V n := ⟨_, rfl⟩
          rw [← hq]
          by_cases hk2 : k < 2
          · have HQ := Lib.hid hq
            clear hq
            go_wp2_with fail
            refine (take2 L3.st).mono ?_
            intro e w3 H
            by_cases hall : ∀ k, k < n → V k = true
            · obtain ⟨rfl, S3, O3⟩ := tookA H hall
              have hqn : ¬ (q : Int) < (n : Int) := by rw [HQ.out, cnt_all V n hall]; omega
              have L4 := L3.moved S3 O3
              clear L3 S3 O3 hall H
              go_wp2
              go_roundw
              case rel => exact ⟨k + 1, _, V, by omega, by go_num, by rw [HQ.out], L4.congr (fun _ => rfl) (by omega)⟩
              case measure => simp [intOf]; omega
            · obtain ⟨x, hx, rfl, S3, O3⟩ := tookB H hall
              have hxn := hx.1
              have hxu := hx.2
              have hqn : (q : Int) < (n : Int) := by have := cnt_lt V n x hxn hxu; have := HQ.out; omega
              have L4 := L3.moved S3 O3
              have hl : (Instr.lookup 41 (.map (some mb)) (.int .i64 x) false).run Tryd.prog w3 = .ok (.int .i64 0) w3 := L4.map.look x (by omega) false hxu
              obtain ⟨w4, hs, m4, t4⟩ := L4.map.store (by omega) x (by omega) true 1 rfl
              have L5 := L4.turned m4 t4
              have hqe : cnt (setU V x true) n = q + 1 := by rw [cnt_in V n x hxn hxu, HQ.out]
              have HQE := Lib.hid hqe
              clear L3 S3 O3 L4 m4 t4 hx hxu hqe hall H
              go_wp2
              go_roundw
              case rel => exact ⟨k + 1, _, _, by omega, by go_num, by rw [HQE.out]; go_num, L5.congr (fun _ => rfl) (by omega)⟩
              case measure => simp [intOf]; omega
          · obtain rfl : k = 2 := by omega
            rcases HI.out with ⟨h0, _⟩ | ⟨b, off, rfl, hbl, hzl, hm', hc, hr⟩
            · omega
            have hcell := (L3.st.bel.cell (p := ⟨b, off + j, none⟩) hbl).trans (hc j hlt)
            have hv := wf_u8 (hr j hlt)
            generalize z.getD j 0 = v at hcell hv
            obtain ⟨hv0, hv1⟩ := hv
            have hnz : (n : Int) ≠ 0 := by omega
            have e0 := Int.emod_nonneg v hnz
            have e1 := Int.emod_lt_of_pos v (show 0 < (n : Int) by omega)
            obtain ⟨x, hx⟩ : ∃ x : Nat, v % (n : Int) = (x : Int) := ⟨(v % (n : Int)).toNat, by omega⟩
            rw [hx] at e0 e1
            have hxn : x < n := by omega
            have hqb : q ≤ n := by rw [hq]; exact cnt_le V n
            have hqi : (q : Int) ≤ 100 := by omega
            have HQ := Lib.hid hq
            have LD := L3.moved (L3.st.grow ((Below.refl _ _).drew)) (Only.drew (Only.refl _ _ _))
            cases hu : V x
            · have hl : Hid (∀ W : World, W.heap[mb]? = wr.heap[mb]? → (Instr.lookup 41 (.map (some mb)) (.int .i64 x) false).run Tryd.prog W = .ok (.int .i64 0) W) := fun W e => (L3.map.kept e).look x (by omega) false hu
              have hub : usedB V n x = false := by simp [usedB, hu]
              have HUB := Lib.hid hub
              clear hc hr hbl hzl hq hub
              go_wp2_with fail
              go_region_held3 (fun W => (Instr.lookup 41 (.map (some mb)) (.int .i64 x) false).run Tryd.prog W = .ok (.int .i64 0) W) (first | exact hl.out _ rfl)
                (first | (go_at_call 10; refine (nofree_s _ LD.st HUB.out).mono ?_; rintro e wF ⟨rfl, rfl⟩))
              all_goals
                rename_i hx2
                obtain ⟨w5, hs5, m5, t5⟩ := LD.map.store (by omega) x (by omega) false 0 rfl
                have L6 := (LD.turned m5 t5).congr (V2 := V) (h2 := 3 * (j + 1)) (fun y => by unfold setU; split <;> simp_all) (by omega)
                clear hl LD L3 m5 t5 hcell hu HI
                go_wp2_with fail
                refine (len_s q L6.st HQ.out.symm).mono ?_
                rintro e w' ⟨rfl, rfl⟩
                clear hx2 hs5
                go_wp2_with fail
                refine (used_s x false L6.st HUB.out).mono ?_
                rintro e w' ⟨rfl, rfl⟩
                go_wp2
                go_roundw
                case rel => exact ⟨j + 1, _, V, by omega, by go_num, by rw [HQ.out], L6⟩
                case measure => simp [intOf]; omega
            · have hl : Hid (∀ W : World, W.heap[mb]? = wr.heap[mb]? → (Instr.lookup 41 (.map (some mb)) (.int .i64 x) false).run Tryd.prog W = .ok (.int .i64 1) W) := fun W e => (L3.map.kept e).look x (by omega) true hu
              have hub : usedB (setU V x false) n x = false := by simp [usedB, setU]
              have HUB := Lib.hid hub
              have HU := Lib.hid hu
              have N12 : Hid (mb ≠ w1.heap.size + 1 ∧ mb ≠ w1.heap.size) := ⟨L3.n1, L3.n2⟩
              have hqc := cnt_out V n x hxn hu
              rw [← hq] at hqc
              obtain ⟨q2, hq2⟩ : ∃ q2, q2 = cnt (setU V x false) n := ⟨_, rfl⟩
              rw [← hq2] at hqc
              have HQ2 := Lib.hid hq2
              have hqq : (q : Int) - 1 = (q2 : Int) := by omega
              clear hc hr hbl hzl hq hub hu hq2 hqc
              go_wp2_with fail
              go_region_held3 (fun W => (Instr.lookup 41 (.map (some mb)) (.int .i64 x) false).run Tryd.prog W = .ok (.int .i64 1) W) (first | exact hl.out _ rfl | exact hl.out _ (OF.2.2 mb N12.out.1 N12.out.2))
                (first | (go_at_call 10; refine (free2 x LD.st hxn HU.out).mono ?_; rintro e wF ⟨rfl, SF, OF⟩))
              all_goals
                rename_i hx2
                have LF := LD.moved SF OF
                obtain ⟨w5, hs5, m5, t5⟩ := LF.map.store (by omega) x (by omega) false 0 rfl
                have L6 := (LF.turned m5 t5).congr (V2 := setU V x false) (h2 := 3 * (j + 1)) (fun y => rfl) (by omega)
                clear hl LD LF L3 m5 t5 hcell HI SF OF
                go_wp2_with fail
                refine (len_s q2 L6.st HQ2.out.symm).mono ?_
                rintro e w' ⟨rfl, rfl⟩
                clear hx2 hs5
                go_wp2_with fail
                refine (used_s x false L6.st HUB.out).mono ?_
                rintro e w' ⟨rfl, rfl⟩
                go_wp2
                go_roundw
                case rel => exact ⟨j + 1, _, _, by omega, by go_num, by rw [HQ2.out], L6⟩
                case measure => simp [intOf]; omega
      · go_wp2
        go_ret
        exact ⟨rfl, L2.st.bel⟩
    · go_wp2
      go_ret
      exact ⟨rfl, L2.st.bel⟩
theorem holds_w (m : Int) (hm : (Lit.int .u8 m).wf = true) (a : Option Addr) (len cap : Nat) {w : World} (hin : ∃ z, IsInts .u8 w a len z) (hT : Tab w) (hz : 0 < w.heap.size) :
    Calls Tryd.prog 6 #[.int .u8 m, .slice a len cap] w fun e w' => e = .returned (.bool true) ∧ Below w.heap.size w w' := by
  obtain ⟨z, hin⟩ := hin
  obtain ⟨m0, m1⟩ := wf_u8 hm
  exact holds_c m a len cap z (1 + m % 100).toNat (by omega) (by omega) m0 m1 (by omega) w hin hT hz
end Go.Proofs.YtlhbldbbjjlohaaDoor
