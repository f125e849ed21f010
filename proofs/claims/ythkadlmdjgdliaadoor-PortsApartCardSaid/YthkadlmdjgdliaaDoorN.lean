/- The walk of PortsRound. -/
import Derived.Test.YthkadlmdjgdliaaDoorM
import Derived.Test.YthkadlmdjgdliaaDoorArgs
namespace Go.Proofs.YthkadlmdjgdliaaDoor
open Go.RowKit
set_option linter.unusedSimpArgs false
set_option linter.unusedVariables false
open V2 (Only)

theorem clk_nat (i : Nat) (h : i ≤ 1099511627776) : clk (i : Int) = i := by unfold clk; rw [if_neg (by omega), if_neg (by omega)]; omega
/-- At the head of round i nothing is lent, and what rests has rested. -/
def RI (A : PA) (n i : Nat) : Prop := (∀ x, A.L x = false) ∧ (∀ x u, A.G x = some u → u ≤ i) ∧ A.at1 = i % n
theorem RI.exp {A : PA} {n i : Nat} (h : RI A n i) (x : Nat) : (A.exp i).G x = none := by
  show expG i (A.G x) = none
  cases hg : A.G x with
  | none => rfl
  | some u => have := h.2.1 x u hg; simp [expG, this]
theorem RI.free {A : PA} {n i : Nat} (h : RI A n i) (x : Nat) : (A.exp i).U x = false := by
  unfold PA.U
  rw [h.exp x]
  show (A.L x || false) = false
  rw [h.1 x]; rfl
theorem RI.next {A : PA} {n i : Nat} (h : RI A n i) (hn : 0 < n) : V2.Next (A.exp i).U n A.at1 (i % n) :=
  ⟨Nat.mod_lt _ hn, h.free _, .inl ⟨by rw [h.2.2]; exact Nat.le_refl _, fun j a b => by rw [h.2.2] at a; omega⟩⟩
theorem RI.zero (n : Nat) : Hid (RI PA.new n 0) := (⟨fun _ => rfl, fun x u h => (by cases h), (by simp [PA.new])⟩ : RI PA.new n 0)
theorem RI.step {A : PA} {n i : Nat} (h : RI A n i) (hn : 0 < n) : RI (((A.exp i).take n (i % n)).give (i % n) (i + 0)) n (i + 1) := by
  refine ⟨fun x => ?_, fun x u hu => ?_, ?_⟩
  · show setU (setU (A.exp i).L (i % n) true) (i % n) false x = false
    unfold setU
    split
    · rfl
    · exact h.1 x
  · have hu : setG (A.exp i).G (i % n) (some (i + 0)) x = some u := hu
    unfold setG at hu
    split at hu
    · cases hu; omega
    · rw [h.exp x] at hu; cases hu
  · show (i % n + 1) % n = (i + 1) % n
    simp
set_option maxRecDepth 100000 in
set_option maxHeartbeats 3200000 in
theorem round_c (m : Int) (n : Nat) (hn1 : 2 ≤ n) (hn2 : n ≤ 40) (hm0 : 0 ≤ m) (hm1 : m ≤ 255) (hN : 2 + m % 39 = (n : Int)) (k0 k1 k2 k3 : Int) {kl : Lit} (hk : keyOf Tryd.prog 24 (kv k0 k1 k2 k3) = some kl) (w : World) (hT : Tab w) (hz : 0 < w.heap.size) :
    Calls Tryd.prog 3 #[.int .u8 m, .agg #[.int .i64 k0, .int .u32 k1, .int .u32 k2, .int .i64 k3]] w fun e w' => e = .returned (.bool true) ∧ Below w.heap.size w w' := by
  have HK := Lib.hid hk
  have hb0 : Below w.heap.size w (w.alloc (.cells #[.int .i64 k0, .int .u32 k1, .int .u32 k2, .int .i64 k3] 24)) := (Below.refl _ _).alloc (Nat.le_refl _) _
  have HT := Lib.hid (hT.below hb0 hz)
  have HB0 := Lib.hid hb0
  have HBX := Lib.hid (Has.new w #[.int .i64 k0, .int .u32 k1, .int .u32 k2, .int .i64 k3] 24)
  clear hk hT hb0
  go_enter Tryd.func3, Tryd.ntmps3
  go_wp2_with fail
  refine (examples_c _ HT.out (by simp)).mono ?_
  rintro e w1 ⟨rfl, hb1⟩
  have HB1 := Lib.hid hb1
  have hs1 := hb1.size
  simp at hs1
  have HX1 := Lib.hid (HBX.out.below hb1)
  have HT1 := Lib.hid (HT.out.below hb1 (by simp))
  clear hb1 HT HBX
  go_wp2_with fail
  refine (ports_new 100 n 0 (by omega) (by omega) (by omega) (by omega) w1 HT1.out (by omega)).mono ?_
  rintro e w2 ⟨pb, pm, rfl, S2⟩
  have P2 : PS ⟨w1, fun b => b < w1.heap.size⟩ w2 pb pm 100 n 0 0 (fun _ => PA.new) := ⟨_, S2⟩
  clear S2
  go_wp2_with fail
  go_loopw [9] (fun i wr => ∃ (j : Nat) (S : Lit → PA), j ≤ 2 * n ∧ i = .int .i64 j ∧ PS ⟨w1, fun b => b < w1.heap.size⟩ wr pb pm 100 n 0 (3 * j) S ∧ Hid (RI (S kl) n j)) (fun i _ => 2 * n - (intOf i).toNat)
  case atStart => exact ⟨0, _, by omega, rfl, P2, RI.zero n⟩
  case round =>
    clear P2
    obtain ⟨j, S, hj, rfl, P3, HR⟩ := hrel
    by_cases hlt : j < 2 * n
    · have hji : (j : Int) < 2 * (n : Int) := by omega
      obtain ⟨c0, c1, c2, c3⟩ := P3.key4 HX1.out (show w.heap.size < w1.heap.size by omega)
      have hn0 : ¬ n = 0 := by omega
      obtain ⟨q, hq⟩ : ∃ q, q = j % n := ⟨_, rfl⟩
      have hqn : q < n := by rw [hq]; exact Nat.mod_lt _ (by omega)
      have hmod : (j : Int) % (n : Int) = (q : Int) := by rw [hq]; simp
      have NX : Hid (V2.Next ((S kl).exp (clk j)).U n (S kl).at1 q) := by
        show V2.Next ((S kl).exp (clk j)).U n (S kl).at1 q
        rw [clk_nat j (by omega), hq]; exact HR.out.next (by omega)
      have ST : Hid (RI ((((S kl).exp (clk j)).take n q).give q (clk j + 0)) n (j + 1)) := by
        show RI ((((S kl).exp (clk j)).take n q).give q (clk j + 0)) n (j + 1)
        rw [clk_nat j (by omega), hq]; exact HR.out.step (by omega)
      clear hq
      go_wp2_with fail
      refine (takeNextS HK.out j P3 (by omega) q NX.out).mono ?_
      rintro e w3 ⟨S3, t3, rfl, P4⟩
      rw [show ((100 : Nat) : Int) + (q : Int) = 100 + (q : Int) from rfl]
      have T3 := Lib.hid t3.1
      clear t3 c0 c1 c2 c3 P3
      obtain ⟨c0, c1, c2, c3⟩ := P4.key4 HX1.out (show w.heap.size < w1.heap.size by omega)
      go_wp2_with fail
      refine (giveS HK.out q (100 + q) j rfl P4 (by omega) (by rw [T3.out]; show setU _ q true q = true; simp [setU])).mono ?_
      rintro e w4 ⟨S4, t4, rfl, P5⟩
      have T4 : Hid (S4 kl = _) := t4.1.trans (congrArg (fun A => PA.give A _ _) T3.out)
      clear t4 c0 c1 c2 c3 P4
      obtain ⟨c0, c1, c2, c3⟩ := P5.key4 HX1.out (show w.heap.size < w1.heap.size by omega)
      go_wp2_with fail
      refine (lentP HK.out (100 + q) (by omega) (by omega) P5 false (by rw [T4.out]; unfold lentB; rw [show ((100 : Int) + q - ((100 : Nat) : Int)).toNat = q by omega]; simp [PA.give, setU])).mono ?_
      rintro e w5 ⟨rfl, P6⟩
      have RN : Hid (RI (S4 kl) n (j + 1)) := by
        show RI (S4 kl) n (j + 1)
        rw [T4.out]; exact ST.out
      clear c0 c1 c2 c3 P5
      go_wp2_with fail
      go_roundw
      case rel => exact ⟨j + 1, S4, by omega, by go_num, P6, RN.out⟩
      case measure => simp [intOf]; omega
    · have hji : ¬ (j : Int) < 2 * (n : Int) := by omega
      have FIN := Lib.hid ((HB0.out.trans (HB1.out.mono (by simp))).trans ((P3.keeps.below (fun b hb => hb)).mono (show w.heap.size ≤ w1.heap.size by omega)))
      clear P3
      go_wp2
      go_ret
      exact ⟨rfl, FIN.out⟩
theorem round_w (m : Int) (hm : (Lit.int .u8 m).wf = true) (k0 k1 k2 k3 : Int) (h0 : IntKind.i64.has k0) (h1 : IntKind.u32.has k1) (h2 : IntKind.u32.has k2) (h3 : IntKind.i64.has k3) (w : World) (hT : Tab w) (hz : 0 < w.heap.size) :
    Calls Tryd.prog 3 #[.int .u8 m, .agg #[.int .i64 k0, .int .u32 k1, .int .u32 k2, .int .i64 k3]] w fun e w' => e = .returned (.bool true) ∧ Below w.heap.size w w' := by
  obtain ⟨m0, m1⟩ := wf_u8 hm
  have wfh : ∀ {q : IntKind} {n : Int}, q.has n → (Lit.int q n).wf = true := by
    intro q n h
    unfold IntKind.has at h
    simp only [Lit.wf, Bool.and_eq_true, decide_eq_true_eq]
    exact h
  obtain ⟨kl, hk⟩ := key_some (wfh h0) (wfh h1) (wfh h2) (wfh h3)
  exact round_c m (2 + m % 39).toNat (by omega) (by omega) m0 m1 (by omega) k0 k1 k2 k3 hk w hT hz
end Go.Proofs.YthkadlmdjgdliaaDoor
