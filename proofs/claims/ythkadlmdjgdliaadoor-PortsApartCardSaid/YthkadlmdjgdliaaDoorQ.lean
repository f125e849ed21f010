/- The walk of PortsApart. -/
import Derived.Test.YthkadlmdjgdliaaDoorN
namespace Go.Proofs.YthkadlmdjgdliaaDoor
open Go.RowKit
set_option linter.unusedSimpArgs false
set_option linter.unusedVariables false
open V2 (Only)

/-- Behind i takes of one key's: the numbers below i are lent. -/
def TI (A : PA) (n i : Nat) : Prop := (∀ x, A.L x = decide (x < i)) ∧ (∀ x, A.G x = none) ∧ A.at1 = i % n
theorem TI.zero (n : Nat) : TI PA.new n 0 := ⟨fun _ => (by simp [PA.new]), fun x => rfl, (by simp [PA.new])⟩
theorem TI.exp {A : PA} {n i : Nat} (h : TI A n i) (c : Nat) : TI (A.exp c) n i := ⟨h.1, fun x => (by show expG c (A.G x) = none; rw [h.2.1 x]; rfl), h.2.2⟩
theorem TI.U {A : PA} {n i : Nat} (h : TI A n i) (x : Nat) : A.U x = decide (x < i) := by unfold PA.U; rw [h.1 x, h.2.1 x]; simp
theorem TI.next {A : PA} {n i : Nat} (h : TI A n i) (hi : i < n) (c : Nat) : V2.Next (A.exp c).U n A.at1 i := by
  have h2 := h.exp c
  refine ⟨hi, by rw [h2.U]; simp, .inl ⟨by rw [h.2.2, Nat.mod_eq_of_lt hi]; exact Nat.le_refl _, fun j a b => by rw [h2.U]; simp; exact b⟩⟩
theorem TI.step {A : PA} {n i : Nat} (h : TI A n i) (hi : i < n) (c : Nat) : TI ((A.exp c).take n i) n (i + 1) := by
  have h2 := h.exp c
  refine ⟨fun x => ?_, h2.2.1, rfl⟩
  show setU (A.exp c).L i true x = _
  unfold setU
  split
  · subst_vars; simp
  · rw [h2.1 x]; simp; omega
/-- All are lent but g, which was given and rests till u. -/
def GI (A : PA) (n g u : Nat) : Prop := (∀ x, A.L x = (decide (x < n) && decide (x ≠ g))) ∧ A.G g = some u ∧ (∀ x, x ≠ g → A.G x = none) ∧ A.at1 = 0
theorem GI.of {A : PA} {n g u : Nat} (h : TI A n n) (hn : 0 < n) : GI (A.give g u) n g u := by
  refine ⟨fun x => ?_, ?_, fun x hx => ?_, by show A.at1 = 0; rw [h.2.2]; exact Nat.mod_self n⟩
  · show setU A.L g false x = _
    unfold setU
    split
    · subst_vars; simp
    · rename_i hx; rw [h.1 x]; simp [hx]
  · show setG A.G g (some u) g = _
    simp [setG]
  · show setG A.G g (some u) x = _
    simp [setG, hx, h.2.1 x]
theorem GI.full {A : PA} {n g u c : Nat} (h : GI A n g u) (hc : c < u) (x : Nat) (hx : x < n) : (A.exp c).U x = true := by
  unfold PA.U
  show (A.L x || (expG c (A.G x)).isSome) = true
  by_cases e : x = g
  · subst e; rw [h.2.1]; simp [expG, show ¬ u ≤ c by omega]
  · rw [h.1 x]; simp [hx, e]
theorem GI.exp {A : PA} {n g u c : Nat} (h : GI A n g u) (hc : c < u) : GI (A.exp c) n g u := by
  refine ⟨h.1, ?_, fun x hx => ?_, h.2.2.2⟩
  · show expG c (A.G g) = _
    rw [h.2.1]; simp [expG, show ¬ u ≤ c by omega]
  · show expG c (A.G x) = _
    rw [h.2.2.1 x hx]; rfl
theorem GI.next {A : PA} {n g u c : Nat} (h : GI A n g u) (hg : g < n) (hc : u ≤ c) : V2.Next (A.exp c).U n A.at1 g := by
  have HU : ∀ x, (A.exp c).U x = (decide (x < n) && decide (x ≠ g)) := by
    intro x
    unfold PA.U
    show (A.L x || (expG c (A.G x)).isSome) = _
    rw [h.1 x]
    by_cases e : x = g
    · subst e; rw [h.2.1]; simp [expG, hc]
    · rw [h.2.2.1 x e]; simp [expG]
  refine ⟨hg, by rw [HU]; simp, .inl ⟨by rw [h.2.2.2]; exact Nat.zero_le _, fun j a b => by rw [HU]; simp; omega⟩⟩
theorem GI.none {A : PA} {n g u c : Nat} (h : GI A n g u) (hc : u ≤ c) : ((A.exp c).take n g).G g = .none := by
  show expG c (A.G g) = .none
  rw [h.2.1]; simp [expG, hc]
theorem TI.full {A : PA} {n : Nat} (h : TI A n n) (c x : Nat) (hx : x < n) : (A.exp c).U x = true := by rw [(h.exp c).U]; simp [hx]
theorem rest_is {low n : Nat} {A : PA} {g u : Nat} (h : GI A n g u) (now : Int) : restB low A ((low : Int) + g) now = decide (clk now < u) := by
  unfold restB
  rw [show ((low : Int) + g - low).toNat = g by omega, h.2.1]
  simp [over]; omega

section
variable {w : World} {pb pm low n rest t : Nat}
theorem PS.box2 {w1 : World} (h : Sys ⟨w, fun b => b < w.heap.size⟩ w1 pb pm low n rest 0 (fun _ => none) (fun _ => PA.new)) (xs ys : Array Value) (ty : TypeId) :
    PS ⟨(w1.alloc (.cells xs ty)).alloc (.cells ys ty), fun b => b < w.heap.size ∨ b = w1.heap.size ∨ b = w1.heap.size + 1⟩ ((w1.alloc (.cells xs ty)).alloc (.cells ys ty)) pb pm low n rest 0 (fun _ => PA.new) := by
  have h2 := (h.grow ((Below.refl _ _).alloc (Nat.le_refl _) (.cells xs ty))).grow ((Below.refl _ _).alloc (Nat.le_refl _) (.cells ys ty))
  have hs := h.bel.size
  have l1 := h.head.lt
  have l2 := h.mlt
  have b1 := h.b1
  have b2 := h.b2
  have ps := h.pos
  simp at b1 b2 ps hs
  exact ⟨_, h2.rebase _ (fun b hb => by simp; omega) (.inl (by simpa using ps)) (by simp; omega) (by simp; omega) (fun _ _ e => by cases e)⟩
end
set_option maxRecDepth 100000 in
set_option maxHeartbeats 6400000 in
theorem apart_c (a0 a1 a2 a3 pr : Int) (low n rest g : Nat) (hl : 1 + a0 % 65000 = (low : Int)) (hn : 1 + a1 % 60 = (n : Int)) (hr : a2 % 1001 = (rest : Int)) (hg : a3 % (n : Int) = (g : Int)) (hgn : g < n) (hl1 : 1 ≤ low) (hl2 : low ≤ 65000) (hn1 : 1 ≤ n) (hn2 : n ≤ 60) (hr2 : rest ≤ 1000)
    (b0 : 0 ≤ a0 ∧ a0 ≤ 65535) (b1 : 0 ≤ a1 ∧ a1 ≤ 255) (b2 : 0 ≤ a2 ∧ a2 ≤ 65535) (b3 : 0 ≤ a3 ∧ a3 ≤ 255) (hpr : (Lit.int .i64 pr).wf = true) (w : World) (hT : Tab w) (hz : 0 < w.heap.size) :
    Calls Tryd.prog 5 #[.int .u16 a0, .int .u8 a1, .int .u16 a2, .int .u8 a3, .int .i64 pr] w fun e w' => e = .returned (.bool true) ∧ Below w.heap.size w w' := by
  obtain ⟨kl, hk⟩ := key_some (k0 := pr) (k1 := 1) (k2 := 2) (k3 := 3) hpr (by decide) (by decide) (by decide)
  obtain ⟨ko, hko⟩ := key_some (k0 := pr) (k1 := 1) (k2 := 2) (k3 := 4) hpr (by decide) (by decide) (by decide)
  have hne : ko ≠ kl := fun e => by
    subst e
    have := keyed24.inj hk hko
    unfold kv at this
    simp at this
  have HK := Lib.hid hk
  have HO := Lib.hid hko
  have HNE := Lib.hid hne
  have HT := Lib.hid hT
  obtain ⟨b00, b01⟩ := b0
  obtain ⟨b10, b11⟩ := b1
  obtain ⟨b20, b21⟩ := b2
  obtain ⟨b30, b31⟩ := b3
  clear hk hko hT hne hpr
  go_enter Tryd.func5, Tryd.ntmps5
  go_wp2_with fail
  refine (examples_c w HT.out hz).mono ?_
  rintro e w1 ⟨rfl, hb1⟩
  have HB1 := Lib.hid hb1
  have hs1 := hb1.size
  have HT1 := Lib.hid (HT.out.below hb1 hz)
  clear hb1 HT
  go_wp2_with fail
  refine (ports_new low n rest hl1 hn1 (by omega) (by omega) w1 HT1.out (by omega)).mono ?_
  rintro e w2 ⟨pb, pm, rfl, S2⟩
  have P2 := PS.box2 S2 #[.int .i64 pr, .int .u32 1, .int .u32 2, .int .i64 3] #[.int .i64 pr, .int .u32 1, .int .u32 2, .int .i64 4] 24
  have HBK := Lib.hid ((Has.new w2 #[.int .i64 pr, .int .u32 1, .int .u32 2, .int .i64 3] 24).alloc (.cells #[.int .i64 pr, .int .u32 1, .int .u32 2, .int .i64 4] 24))
  have HBO : Hid (Has ((w2.alloc (.cells #[.int .i64 pr, .int .u32 1, .int .u32 2, .int .i64 3] 24)).alloc (.cells #[.int .i64 pr, .int .u32 1, .int .u32 2, .int .i64 4] 24)) (w2.heap.size + 1) 24 #[.int .i64 pr, .int .u32 1, .int .u32 2, .int .i64 4]) := by
    have := Has.new (w2.alloc (.cells #[.int .i64 pr, .int .u32 1, .int .u32 2, .int .i64 3] 24)) #[.int .i64 pr, .int .u32 1, .int .u32 2, .int .i64 4] 24
    simp at this
    exact this
  have HBB : Hid (Below w1.heap.size w1 ((w2.alloc (.cells #[.int .i64 pr, .int .u32 1, .int .u32 2, .int .i64 3] 24)).alloc (.cells #[.int .i64 pr, .int .u32 1, .int .u32 2, .int .i64 4] 24))) := by
    have q := S2.bel.below (fun b hb => hb)
    have hz := q.size
    exact (q.alloc hz _).alloc (by simp at hz ⊢; omega) _
  clear S2
  go_wp2_with fail
  obtain ⟨wq, hwq⟩ : ∃ wq : World, wq = (w2.alloc (.cells #[.int .i64 pr, .int .u32 1, .int .u32 2, .int .i64 3] 24)).alloc (.cells #[.int .i64 pr, .int .u32 1, .int .u32 2, .int .i64 4] 24) := ⟨_, rfl⟩
  rw [← hwq] at P2 HBK HBO HBB ⊢
  clear hwq
  go_loopw [19] (fun i wr => ∃ (j : Nat) (S : Lit → PA), j ≤ n ∧ i = .int .i64 j ∧ PS ⟨wq, fun b => b < w1.heap.size ∨ b = w2.heap.size ∨ b = w2.heap.size + 1⟩ wr pb pm low n rest (2 * j) S ∧ Hid (TI (S kl) n j ∧ S ko = PA.new)) (fun i _ => n - (intOf i).toNat)
  case atStart => exact ⟨0, _, by omega, rfl, P2, TI.zero n, rfl⟩
  case round =>
    clear P2
    obtain ⟨j, S, hj, rfl, P3, HI⟩ := hrel
    by_cases hlt : j < n
    · have hji : (j : Int) < (n : Int) := by omega
      obtain ⟨c0, c1, c2, c3⟩ := P3.key4 HBK.out (.inr (.inl rfl))
      go_wp2_with fail
      refine (takeNextS HK.out 5 P3 (by omega) j (HI.out.1.next hlt _)).mono ?_
      rintro e w3 ⟨S3, t3, rfl, P4⟩
      have T3 : Hid (TI (S3 kl) n (j + 1) ∧ S3 ko = PA.new) := ⟨by rw [t3.1]; exact HI.out.1.step hlt _, (t3.2 ko HNE.out).trans HI.out.2⟩
      clear t3 c0 c1 c2 c3 P3
      obtain ⟨c0, c1, c2, c3⟩ := P4.key4 HBK.out (.inr (.inl rfl))
      go_wp2_with fail
      refine (lentP HK.out (low + j) (by omega) (by omega) P4 true (by unfold lentB; rw [show ((low : Int) + j - low).toNat = j by omega, T3.out.1.1]; simp; omega)).mono ?_
      rintro e w4 ⟨rfl, P5⟩
      clear c0 c1 c2 c3 P4
      obtain ⟨c0, c1, c2, c3⟩ := P5.key4 HBO.out (.inr (.inr rfl))
      go_wp2_with fail
      refine (lentP HO.out (low + j) (by omega) (by omega) P5 false (by unfold lentB; rw [T3.out.2]; simp [PA.new])).mono ?_
      rintro e w5 ⟨rfl, P6⟩
      clear c0 c1 c2 c3 P5
      go_wp2_with fail
      go_roundw
      case rel => exact ⟨j + 1, S3, by omega, by go_num, P6, T3.out⟩
      case measure => simp [intOf]; omega
    · obtain rfl : j = n := by omega
      obtain ⟨c0, c1, c2, c3⟩ := P3.key4 HBK.out (.inr (.inl rfl))
      go_wp2_with fail
      refine (takeFullS HK.out 5 P3 (by omega) (fun x hx => HI.out.1.full _ x hx)).mono ?_
      rintro e w3 ⟨S3, t3, rfl, P4⟩
      have T3 : Hid (TI (S3 kl) j j ∧ S3 ko = PA.new) := ⟨by rw [t3.1]; exact HI.out.1.exp _, (t3.2 ko HNE.out).trans HI.out.2⟩
      clear t3 c0 c1 c2 c3 P3 HI
      obtain ⟨c0, c1, c2, c3⟩ := P4.key4 HBO.out (.inr (.inr rfl))
      go_wp2_with fail
      refine (takeNextS HO.out 5 P4 (by omega) 0 (by rw [T3.out.2]; exact ⟨by omega, rfl, .inl ⟨Nat.le_refl _, fun j a b => by omega⟩⟩)).mono ?_
      rintro e w4 ⟨S4, t4, rfl, P5⟩
      rw [show (low : Int) + ((0 : Nat) : Int) = (low : Int) from by simp]
      have T4 : Hid (TI (S4 kl) j j) := by
        show TI (S4 kl) j j
        rw [t4.2 kl (Ne.symm HNE.out)]; exact T3.out.1
      clear t4 c0 c1 c2 c3 P4 T3
      obtain ⟨c0, c1, c2, c3⟩ := P5.key4 HBK.out (.inr (.inl rfl))
      go_wp2_with fail
      refine (giveS HK.out g (low + g) 10 rfl P5 (by omega) (by rw [T4.out.1]; simp [hgn])).mono ?_
      rintro e w5 ⟨S5, t5, rfl, P6⟩
      have T5 : Hid (GI (S5 kl) j g (10 + rest)) := by
        show GI (S5 kl) j g (10 + rest)
        rw [t5.1, show clk 10 = 10 from rfl]; exact GI.of T4.out (by omega)
      clear t5 c0 c1 c2 c3 P5 T4
      obtain ⟨c0, c1, c2, c3⟩ := P6.key4 HBK.out (.inr (.inl rfl))
      go_wp2_with fail
      refine (giveNo HK.out (low + g) 10 (by omega) (by omega) P6 (by unfold lentB; rw [show ((low : Int) + g - low).toNat = g by omega, T5.out.1]; simp)).mono ?_
      rintro e w6 ⟨rfl, P7⟩
      clear c0 c1 c2 c3 P6
      obtain ⟨c0, c1, c2, c3⟩ := P7.key4 HBK.out (.inr (.inl rfl))
      go_wp2_with fail
      refine (restsP HK.out (low + g) 10 (by omega) (by omega) P7 (decide ((0 : Int) < (rest : Int))) (by rw [rest_is T5.out, show clk 10 = 10 from rfl]; exact decide_eq_decide.2 (by omega))).mono ?_
      rintro e w7 ⟨rfl, P8⟩
      clear c0 c1 c2 c3 P7
      obtain ⟨c0, c1, c2, c3⟩ := P8.key4 HBK.out (.inr (.inl rfl))
      go_wp2_with fail
      refine (restsP HK.out (low + g) (9 + rest) (by omega) (by omega) P8 true (by rw [rest_is T5.out, show (9 : Int) + (rest : Int) = ((9 + rest : Nat) : Int) by simp, clk_nat _ (by omega)]; simp)).mono ?_
      rintro e w8 ⟨rfl, P9⟩
      clear c0 c1 c2 c3 P8
      obtain ⟨c0, c1, c2, c3⟩ := P9.key4 HBK.out (.inr (.inl rfl))
      go_wp2_with fail
      refine (restsP HK.out (low + g) (10 + rest) (by omega) (by omega) P9 false (by rw [rest_is T5.out, show (10 : Int) + (rest : Int) = ((10 + rest : Nat) : Int) by simp, clk_nat _ (by omega)]; simp)).mono ?_
      rintro e w9 ⟨rfl, PA⟩
      clear c0 c1 c2 c3 P9
      obtain ⟨c0, c1, c2, c3⟩ := PA.key4 HBK.out (.inr (.inl rfl))
      go_wp2_with fail
      refine (takeFullS HK.out (9 + rest) PA (by omega) (fun x hx => by rw [show (9 : Int) + (rest : Int) = ((9 + rest : Nat) : Int) by simp, clk_nat _ (by omega)]; exact T5.out.full (by omega) x hx)).mono ?_
      rintro e wA ⟨S6, t6, rfl, PB⟩
      have T6 : Hid (GI (S6 kl) j g (10 + rest)) := by
        show GI (S6 kl) j g (10 + rest)
        rw [t6.1, show (9 : Int) + (rest : Int) = ((9 + rest : Nat) : Int) by simp, clk_nat _ (by omega)]; exact T5.out.exp (by omega)
      clear t6 c0 c1 c2 c3 PA T5
      obtain ⟨c0, c1, c2, c3⟩ := PB.key4 HBK.out (.inr (.inl rfl))
      go_wp2_with fail
      refine (takeNextS HK.out (10 + rest) PB (by omega) g (by rw [show (10 : Int) + (rest : Int) = ((10 + rest : Nat) : Int) by simp, clk_nat _ (by omega)]; exact T6.out.next hgn (by omega))).mono ?_
      rintro e wB ⟨S7, t7, rfl, PC⟩
      have T7 : Hid ((S7 kl).G g = none) := by
        show (S7 kl).G g = none
        rw [t7.1, show (10 : Int) + (rest : Int) = ((10 + rest : Nat) : Int) by simp, clk_nat _ (by omega)]; exact T6.out.none (by omega)
      clear t7 c0 c1 c2 c3 PB T6
      obtain ⟨c0, c1, c2, c3⟩ := PC.key4 HBK.out (.inr (.inl rfl))
      go_wp2_with fail
      refine (restsP HK.out (low + g) 0 (by omega) (by omega) PC false (by unfold restB; rw [show ((low : Int) + g - low).toNat = g by omega, T7.out]; simp [over])).mono ?_
      rintro e wC ⟨rfl, PD⟩
      have FIN := Lib.hid ((HB1.out.trans (HBB.out.mono hs1)).trans ((PD.keeps.below (B := w1.heap.size) (fun b hb => .inl hb)).mono hs1))
      clear c0 c1 c2 c3 PC PD
      go_wp2
      go_ret
      exact ⟨rfl, FIN.out⟩
theorem apart_w (a0 : Int) (h0 : (Lit.int .u16 a0).wf = true) (a1 : Int) (h1 : (Lit.int .u8 a1).wf = true) (a2 : Int) (h2 : (Lit.int .u16 a2).wf = true) (a3 : Int) (h3 : (Lit.int .u8 a3).wf = true) (pr : Int) (hpr : (Lit.int .i64 pr).wf = true) (w : World) (hT : Tab w) (hz : 0 < w.heap.size) :
    Calls Tryd.prog 5 #[.int .u16 a0, .int .u8 a1, .int .u16 a2, .int .u8 a3, .int .i64 pr] w fun e w' => e = .returned (.bool true) ∧ Below w.heap.size w w' := by
  have b0 := wf_u16 h0
  have b1 := wf_u8 h1
  have b2 := wf_u16 h2
  have b3 := wf_u8 h3
  have q := Int.emod_nonneg a3 (show ((1 + a1 % 60).toNat : Int) ≠ 0 by omega)
  have q2 := Int.emod_lt_of_pos a3 (show (0 : Int) < ((1 + a1 % 60).toNat : Int) by omega)
  exact apart_c a0 a1 a2 a3 pr (1 + a0 % 65000).toNat (1 + a1 % 60).toNat (a2 % 1001).toNat (a3 % ((1 + a1 % 60).toNat : Int)).toNat (by omega) (by omega) (by omega) (by omega) (by omega) (by omega) (by omega) (by omega) (by omega) (by omega) b0 b1 b2 b3 hpr w hT hz
end Go.Proofs.YthkadlmdjgdliaaDoor
