/- The examples of ports; the walk of PortsRound. -/
import Derived.Test.YthkadlmdjgdliaaDoorL
namespace Go.Proofs.YthkadlmdjgdliaaDoor
open Go.RowKit
set_option linter.unusedSimpArgs false
set_option linter.unusedVariables false
open V2 (Only)

section
variable {w0 : Base} {w w' : World} {pb pm low n rest t : Nat} {S : Lit → PA} {k0 k1 k2 k3 : Int} {kl : Lit}
/-- What a deed made of the parts. -/
def To (S : Lit → PA) (kl : Lit) (A : PA) (S' : Lit → PA) : Prop := S' kl = A ∧ ∀ x, x ≠ kl → S' x = S x
theorem To.upd (S : Lit → PA) (kl : Lit) (A : PA) : To S kl A (upd S kl A) := ⟨upd_same _ _ _, fun x hx => upd_other _ _ hx⟩
theorem takeNextS (hk : keyOf Tryd.prog 24 (kv k0 k1 k2 k3) = some kl) (now : Int) (h : PS w0 w pb pm low n rest t S) (ht : t < 60000) (k : Nat) (hn : V2.Next ((S kl).exp (clk now)).U n (S kl).at1 k) :
    Calls Tryd.prog 9 #[.pointer (some ⟨pb, 0, none⟩), kv k0 k1 k2 k3, .int .i64 now] w fun e w' => ∃ S', To S kl (((S kl).exp (clk now)).take n k) S' ∧ e = .returned (.tuple #[.int .i64 ((low : Int) + k), .int .i64 0]) ∧ PS w0 w' pb pm low n rest (t + 2) S' :=
  (takeNext hk now h ht k hn).mono fun e w' ⟨he, hp⟩ => ⟨_, To.upd _ _ _, he, hp⟩
theorem takeFullS (hk : keyOf Tryd.prog 24 (kv k0 k1 k2 k3) = some kl) (now : Int) (h : PS w0 w pb pm low n rest t S) (ht : t < 60000) (ha : ∀ x, x < n → ((S kl).exp (clk now)).U x = true) :
    Calls Tryd.prog 9 #[.pointer (some ⟨pb, 0, none⟩), kv k0 k1 k2 k3, .int .i64 now] w fun e w' => ∃ S', To S kl ((S kl).exp (clk now)) S' ∧ e = .returned (.tuple #[.int .i64 0, .int .i64 17]) ∧ PS w0 w' pb pm low n rest (t + 2) S' :=
  (takeFull hk now h ht ha).mono fun e w' ⟨he, hp⟩ => ⟨_, To.upd _ _ _, he, hp⟩
theorem giveS (hk : keyOf Tryd.prog 24 (kv k0 k1 k2 k3) = some kl) (x : Nat) (port now : Int) (hx : port = (low : Int) + x) (h : PS w0 w pb pm low n rest t S) (ht : t < 65536) (hl : (S kl).L x = true) :
    Calls Tryd.prog 10 #[.pointer (some ⟨pb, 0, none⟩), kv k0 k1 k2 k3, .int .i64 port, .int .i64 now] w fun e w' => ∃ S', To S kl ((S kl).give x (clk now + rest)) S' ∧ e = .returned (.bool true) ∧ PS w0 w' pb pm low n rest (t + 1) S' := by
  subst hx
  exact (giveYes hk x now h ht hl).mono fun e w' ⟨he, hp⟩ => ⟨_, To.upd _ _ _, he, hp⟩
theorem PS.key4 (h : PS w0 w pb pm low n rest t S) {b : Nat} {a c d e : Value} (hb : Has w0.w b 24 #[a, c, d, e]) (hz : w0.Z b) : w.cell? ⟨b, 0, none⟩ = some a ∧ w.cell? ⟨b, 1, none⟩ = some c ∧ w.cell? ⟨b, 2, none⟩ = some d ∧ w.cell? ⟨b, 3, none⟩ = some e :=
  ⟨(h.box hb hz).cell 0, (h.box hb hz).cell 1, (h.box hb hz).cell 2, (h.box hb hz).cell 3⟩
theorem PS.box1 {w1 : World} (h : Sys ⟨w, fun b => b < w.heap.size⟩ w1 pb pm low n rest 0 (fun _ => none) (fun _ => PA.new)) (xs : Array Value) (ty : TypeId) :
    PS ⟨w1.alloc (.cells xs ty), fun b => b < w.heap.size ∨ b = w1.heap.size⟩ (w1.alloc (.cells xs ty)) pb pm low n rest 0 (fun _ => PA.new) := by
  have h2 := h.grow ((Below.refl _ _).alloc (Nat.le_refl _) (.cells xs ty))
  have hs := h.bel.size
  have l1 := h.head.lt
  have l2 := h.mlt
  have b1 := h.b1
  have b2 := h.b2
  have ps := h.pos
  simp at b1 b2 ps hs
  exact ⟨_, h2.rebase _ (fun b hb => by simp; omega) (.inl (by simpa using ps)) (by simp; omega) (by simp; omega) (fun _ _ e => by cases e)⟩
/-- Below the law's own start nothing was turned. -/
theorem PS.bel {a b : World} {Z : Nat → Prop} (h : PS ⟨b, Z⟩ w pb pm low n rest t S) (hab : Below a.heap.size a b) (hz : ∀ x, x < a.heap.size → Z x) : Below a.heap.size a w := hab.trans (h.keeps.below hz)
end
theorem nxt1 {U : Nat → Bool} {at1 : Nat} (h0 : at1 = 0) (hU : U 0 = false) : V2.Next U 1 at1 0 := ⟨by omega, hU, .inl ⟨by omega, fun j a b => by omega⟩⟩

set_option maxRecDepth 100000 in
set_option maxHeartbeats 3200000 in
theorem examples_c (w : World) (hT : Tab w) (hp : 0 < w.heap.size) : Calls Tryd.prog 7 #[] w fun e w' => e = .returned (.bool true) ∧ Below w.heap.size w w' := by
  obtain ⟨kl, hk⟩ := key_some (k0 := 6) (k1 := 1) (k2 := 0) (k3 := 0) (by decide) (by decide) (by decide) (by decide)
  have HK := Lib.hid hk
  have HT := Lib.hid hT
  clear hk hT
  go_enter Tryd.func7, Tryd.ntmps7
  go_wp2_with fail
  refine (ports_new 1000 1 5 (by omega) (by omega) (by omega) (by omega) w HT.out hp).mono ?_
  rintro e w1 ⟨pb, pm, rfl, S1⟩
  go_wp2_with fail
  refine (ports_bad 0 1 5 (by omega) (by omega) (by omega) w1).mono ?_
  rintro e w' ⟨rfl, rfl⟩
  have P1 := PS.box1 S1 #[.int .i64 6, .int .u32 1, .int .u32 0, .int .i64 0] 24
  have hb1 : Hid (Below w.heap.size w (w1.alloc (.cells #[.int .i64 6, .int .u32 1, .int .u32 0, .int .i64 0] 24))) := ((S1.bel.below (fun b hb => hb)).alloc S1.bel.size _)
  have HB := Lib.hid (Has.new w1 #[.int .i64 6, .int .u32 1, .int .u32 0, .int .i64 0] 24)
  clear S1
  go_wp2_with fail
  refine (takeNextS HK.out 0 P1 (by omega) 0 (nxt1 rfl rfl)).mono ?_
  rintro e w2 ⟨S2, t2, rfl, P2⟩
  rw [show ((1000 : Nat) : Int) + ((0 : Nat) : Int) = 1000 from rfl]
  have T2 := Lib.hid t2.1
  obtain ⟨c0, c1, c2, c3⟩ := P2.key4 HB.out (.inr rfl)
  clear t2 P1
  go_wp2_with fail
  refine (takeFullS HK.out 0 P2 (by omega) (fun x hx => by obtain rfl : x = 0 := by omega
                                                           rw [T2.out]; rfl)).mono ?_
  rintro e w3 ⟨S3, t3, rfl, P3⟩
  have T3 : Hid (S3 kl = _) := t3.1.trans (congrArg (fun A => PA.exp A _) T2.out)
  clear c0 c1 c2 c3 t3 P2
  obtain ⟨c0, c1, c2, c3⟩ := P3.key4 HB.out (.inr rfl)
  go_wp2_with fail
  refine (giveS HK.out 0 1000 2 rfl P3 (by omega) (by rw [T3.out]; rfl)).mono ?_
  rintro e w4 ⟨S4, t4, rfl, P4⟩
  have T4 : Hid (S4 kl = _) := t4.1.trans (congrArg (fun A => PA.give A _ _) T3.out)
  clear c0 c1 c2 c3 t4 P3
  obtain ⟨c0, c1, c2, c3⟩ := P4.key4 HB.out (.inr rfl)
  go_wp2_with fail
  refine (takeFullS HK.out 6 P4 (by omega) (fun x hx => by obtain rfl : x = 0 := by omega
                                                           rw [T4.out]; rfl)).mono ?_
  rintro e w5 ⟨S5, t5, rfl, P5⟩
  have T5 : Hid (S5 kl = _) := t5.1.trans (congrArg (fun A => PA.exp A _) T4.out)
  clear c0 c1 c2 c3 t5 P4
  obtain ⟨c0, c1, c2, c3⟩ := P5.key4 HB.out (.inr rfl)
  go_wp2_with fail
  refine (takeNextS HK.out 7 P5 (by omega) 0 (nxt1 (by rw [T5.out]; rfl) (by rw [T5.out]; rfl))).mono ?_
  rintro e w6 ⟨S6, t6, rfl, P6⟩
  rw [show ((1000 : Nat) : Int) + ((0 : Nat) : Int) = 1000 from rfl]
  clear c0 c1 c2 c3 t6 P5
  have FIN := Lib.hid (P6.bel hb1.out (fun x hx => .inl hx))
  clear P6
  go_wp2
  go_ret
  exact ⟨rfl, FIN.out⟩
end Go.Proofs.YthkadlmdjgdliaaDoor
