/- The document's ports: the walks of New, Lent, Rests. -/
import Derived.Test.YthkadlmdjgdliaaDoorRB
namespace Go.Proofs.YthkadlmdjgdliaaDoor
open Go.RowKit
set_option linter.unusedSimpArgs false
set_option linter.unusedVariables false
open V2 (Only)

/-- The document's ports, their parts unnamed; at most t of them. -/
def RP (w0 : Base) (w : World) (rb low n rest t : Nat) (S : K4 → PA) : Prop := ∃ L B, RSys w0 w rb low n rest L B S ∧ L.length ≤ t
def RQ (w0 : Base) (w : World) (rb low n rest t : Nat) (S : K4 → PA) (k : K4) (p : RB) : Prop := ∃ L B, RSys w0 w rb low n rest L B S ∧ L.length ≤ t ∧ k ∈ L ∧ B k = p
section
variable {w0 : Base} {w w' : World} {rb low n rest t : Nat} {S : K4 → PA} {k : K4} {p : RB}
theorem RP.grow (h : RP w0 w rb low n rest t S) (hb : Below w.heap.size w w') : RP w0 w' rb low n rest t S := by
  obtain ⟨L, B, h, ht⟩ := h
  exact ⟨L, B, h.grow hb, ht⟩
theorem RP.more (h : RP w0 w rb low n rest t S) {t' : Nat} (ht : t ≤ t') : RP w0 w rb low n rest t' S := by
  obtain ⟨L, B, h, h1⟩ := h
  exact ⟨L, B, h, by omega⟩
theorem RQ.rp (h : RQ w0 w rb low n rest t S k p) : RP w0 w rb low n rest t S := by
  obtain ⟨L, B, h, h1, _⟩ := h
  exact ⟨L, B, h, h1⟩
theorem RQ.grow (h : RQ w0 w rb low n rest t S k p) (hb : Below w.heap.size w w') : RQ w0 w' rb low n rest t S k p := by
  obtain ⟨L, B, h, ht⟩ := h
  exact ⟨L, B, h.grow hb, ht⟩
theorem RP.bounds (h : RP w0 w rb low n rest t S) : 1 ≤ n ∧ 1 ≤ low ∧ low + n ≤ 65536 ∧ rest ≤ 1099511627776 := by
  obtain ⟨L, B, h, _⟩ := h
  exact ⟨h.lo1, h.lo2, h.hi1, h.hi2⟩
theorem RP.cells (h : RP w0 w rb low n rest t S) : w.cell? ⟨rb, 0, none⟩ = some (.int .i64 low) ∧ w.cell? ⟨rb, 1, none⟩ = some (.int .i64 n) ∧ w.cell? ⟨rb, 2, none⟩ = some (.int .i64 rest) := by
  obtain ⟨L, B, h, _⟩ := h
  obtain ⟨v, h1, _⟩ := h.head
  exact ⟨h1.cell 0, h1.cell 1, h1.cell 2⟩
theorem RP.lt (h : RP w0 w rb low n rest t S) : rb < w.heap.size := by obtain ⟨L, B, h, _⟩ := h; exact h.lt
theorem RP.keeps (h : RP w0 w rb low n rest t S) : Keeps w0 w := by obtain ⟨L, B, h, _⟩ := h; exact h.bel
theorem RQ.part (h : RQ w0 w rb low n rest t S k p) : RPart w p k n (S k) := by
  obtain ⟨L, B, h, _, hk, rfl⟩ := h
  exact (h.part k hk).1
/-- The part of a key is turned. -/
theorem RQ.turn (h : RQ w0 w rb low n rest t S k p) (c : Chg (fun b => p.lo ≤ b ∧ b < p.hi) w w') {A : PA} (hA : RPart w' p k n A) : RQ w0 w' rb low n rest t (updK S k A) k p := by
  obtain ⟨L, B, h, ht, hk, rfl⟩ := h
  exact ⟨L, B, h.turn hk c hA, ht, hk, rfl⟩
theorem rpart (k0 k1 k2 k3 : Int) (h : RP w0 w rb low n rest t S) (ht : t < 60000) :
    Calls Tryd.prog 22 #[.pointer (some ⟨rb, 0, none⟩), kv k0 k1 k2 k3] w fun e w' => ∃ p : RB, e = .returned (.pointer (some ⟨p.xb, 0, none⟩)) ∧ RQ w0 w' rb low n rest (t + 1) S (k0, k1, k2, k3) p := by
  obtain ⟨L, B, h, hl⟩ := h
  refine (rpart_c k0 k1 k2 k3 h (by omega)).mono ?_
  rintro e w' ⟨x, L', B', rfl, rfl, hm, hs, hl2⟩
  exact ⟨_, rfl, L', B', hs, by omega, hm, rfl⟩
/-- The cells of a part. -/
theorem RQ.st (h : RQ w0 w rb low n rest t S k p) {x : Nat} (hx : x < n) : w.cell? ⟨p.xb, 5, none⟩ = some (.slice (some ⟨p.sb, 0, none⟩) n n) ∧ w.cell? ⟨p.sb, x, none⟩ = some (.int .i64 (code (S k) x)) ∧ w.frozen? ⟨p.sb, x, none⟩ = false := by
  obtain ⟨f, h1, h2⟩ := h.part.st
  refine ⟨h.part.head.cell 5, ?_, h1.free x⟩
  rw [h1.cell x, intsA_get _ _ _ hx, h2 x hx]
theorem RQ.un (h : RQ w0 w rb low n rest t S k p) {x : Nat} (hx : x < n) : w.cell? ⟨p.xb, 6, none⟩ = some (.slice (some ⟨p.nb, 0, none⟩) n n) ∧ (∃ u, w.cell? ⟨p.nb, x, none⟩ = some (.int .i64 u) ∧ ∀ v, (S k).G x = some v → u = v) ∧ w.frozen? ⟨p.nb, x, none⟩ = false := by
  obtain ⟨f, h1, h2⟩ := h.part.un
  refine ⟨h.part.head.cell 6, ⟨f x, ?_, h2 x hx⟩, h1.free x⟩
  rw [h1.cell x, intsA_get _ _ _ hx]
theorem rnew_bad15 (low many rest : Int) (h1 : -9223372036854775808 ≤ low) (h2 : low ≤ 9223372036854775807) (h : low < 1 ∨ many < 1 ∨ 65536 < low ∨ 65536 - low < many ∨ rest < 0 ∨ 1099511627776 < rest) (w : World) :
    Calls Tryd.prog 12 #[.int .i64 low, .int .i64 many, .int .i64 rest] w fun e w' => e = .returned (.pointer none) ∧ w = w' := by
  by_cases a1 : low < 1
  · clear h
    go_enter Tryd.func12, Tryd.ntmps12
    go_wp2
    go_ret
    exact ⟨rfl, rfl⟩
  by_cases a2 : many < 1
  · clear h
    go_enter Tryd.func12, Tryd.ntmps12
    go_wp2
    go_ret
    exact ⟨rfl, rfl⟩
  by_cases a3 : 65536 < low
  · clear h
    go_enter Tryd.func12, Tryd.ntmps12
    go_wp2
    go_ret
    exact ⟨rfl, rfl⟩
  by_cases a6 : 65536 < many
  · clear h
    go_enter Tryd.func12, Tryd.ntmps12
    go_wp2
    go_ret
    exact ⟨rfl, rfl⟩
  by_cases a4 : 65536 < low + many
  · clear h
    go_enter Tryd.func12, Tryd.ntmps12
    go_wp2
    go_ret
    exact ⟨rfl, rfl⟩
  by_cases a5 : rest < 0
  · clear h
    go_enter Tryd.func12, Tryd.ntmps12
    go_wp2
    go_ret
    exact ⟨rfl, rfl⟩
  have a7 : 1099511627776 < rest := by omega
  clear h
  go_enter Tryd.func12, Tryd.ntmps12
  go_wp2
  go_ret
  exact ⟨rfl, rfl⟩
theorem rnew15 (low n rest : Nat) (hlo : 1 ≤ low) (hn : 1 ≤ n) (hhi : low + n ≤ 65536) (hr : rest ≤ 1099511627776) (w : World) :
    Calls Tryd.prog 12 #[.int .i64 low, .int .i64 n, .int .i64 rest] w fun e w' => ∃ rb, e = .returned (.pointer (some ⟨rb, 0, none⟩)) ∧ RP ⟨w, fun b => b < w.heap.size⟩ w' rb low n rest 0 (fun _ => PA.new) := by
  have FIN : Hid (RP ⟨w, fun b => b < w.heap.size⟩ (w.alloc (.cells #[.int .i64 low, .int .i64 n, .int .i64 rest, .slice none 0 0] 69)) w.heap.size low n rest 0 (fun _ => PA.new)) := by
    have b2 : Below w.heap.size w (w.alloc (.cells #[.int .i64 low, .int .i64 n, .int .i64 rest, .slice none 0 0] 69)) := (Below.refl _ _).alloc (Nat.le_refl _) _
    exact ⟨[], fun _ => ⟨0, 0, 0, 0, 0, 0, 0⟩, ⟨⟨_, Has.new _ _ _, ⟨rfl, .inl ⟨rfl, rfl⟩⟩, fun b hb => by cases hb⟩, fun k hk => (by cases hk), fun _ _ => rfl, fun k hk => (by cases hk), ⟨b2.os, b2.tape, b2.output, b2.size, b2.block⟩, fun b h => h, by simp, hn, hlo, hhi, hr⟩, Nat.le_refl _⟩
  go_enter Tryd.func12, Tryd.ntmps12
  go_wp2
  go_ret
  exact ⟨_, rfl, FIN.out⟩
theorem rlent (k0 k1 k2 k3 : Int) (port : Int) (hp1 : -9223372036854775808 ≤ port) (hp2 : port ≤ 9223372036854775807) (h : RP w0 w rb low n rest t S) (ht : t < 60000) (htop : ∀ x, (S (k0, k1, k2, k3)).U x = true → x < n) :
    Calls Tryd.prog 14 #[.pointer (some ⟨rb, 0, none⟩), kv k0 k1 k2 k3, .int .i64 port] w fun e w' => e = .returned (.bool (lentB low (S (k0, k1, k2, k3)) port)) ∧ RP w0 w' rb low n rest (t + 1) S := by
  have H2 := h.grow ((Below.refl _ _).alloc (Nat.le_refl _) (.cells #[.int .i64 k0, .int .u32 k1, .int .u32 k2, .int .i64 k3] 40))
  obtain ⟨c0, c1, c2⟩ := H2.cells
  obtain ⟨n1, n2, n3, n4⟩ := h.bounds
  have HH := Lib.hid H2
  unfold kv
  clear h H2 c2
  by_cases hlow : port < low
  · have e1 : lentB low (S (k0, k1, k2, k3)) port = false := by unfold lentB; simp; omega
    rw [e1]
    clear e1
    go_enter Tryd.func14, Tryd.ntmps14
    go_wp2
    go_ret
    exact ⟨rfl, HH.out.more (by omega)⟩
  · obtain ⟨x, rfl⟩ : ∃ x : Nat, port = (low : Int) + x := ⟨(port - low).toNat, by omega⟩
    have hwx : IntKind.i64.wrap ((low : Int) + x - low) = x := by rw [show (low : Int) + x - low = x by omega]; exact IntWalk.i64_in _ (by omega)
    have e0 : lentB low (S (k0, k1, k2, k3)) ((low : Int) + x) = (S (k0, k1, k2, k3)).L x := by
      unfold lentB
      rw [show ((low : Int) + x - low).toNat = x by omega]
      simp
      intro; omega
    rw [e0]
    clear e0
    have hg : ¬ (low : Int) + x < low := hlow
    by_cases hx : x < n
    · have hxi : (x : Int) < (n : Int) := by omega
      obtain ⟨b, hb⟩ : ∃ b, (S (k0, k1, k2, k3)).L x = b := ⟨_, rfl⟩
      rw [hb]
      have HBB := Lib.hid hb
      clear hb htop
      go_enter Tryd.func14, Tryd.ntmps14
      go_wp2_with fail
      refine (rpart k0 k1 k2 k3 HH.out ht).mono ?_
      rintro e w1 ⟨p, rfl, Q⟩
      obtain ⟨d5, ds, _⟩ := Q.st hx
      have FIN := Lib.hid Q.rp
      clear Q c0 c1
      cases b
      · rcases (show code (S (k0, k1, k2, k3)) x = 0 ∨ code (S (k0, k1, k2, k3)) x = 2 by unfold code; rw [HBB.out]; cases ((S (k0, k1, k2, k3)).G x).isSome <;> simp) with hz | hz
        all_goals
          rw [hz] at ds
          clear hz
          go_wp2
          go_ret
          exact ⟨rfl, FIN.out⟩
      · have hz : code (S (k0, k1, k2, k3)) x = 1 := by unfold code; rw [HBB.out]; rfl
        rw [hz] at ds
        clear hz
        go_wp2
        go_ret
        exact ⟨rfl, FIN.out⟩
    · have hxi : ¬ (x : Int) < (n : Int) := by omega
      have hb : (S (k0, k1, k2, k3)).L x = false := by
        cases hb : (S (k0, k1, k2, k3)).L x with
        | false => rfl
        | true => exact absurd (htop x (by unfold PA.U; rw [hb]; rfl)) hx
      rw [hb]
      clear hb htop
      go_enter Tryd.func14, Tryd.ntmps14
      go_wp2
      go_ret
      exact ⟨rfl, HH.out.more (by omega)⟩
set_option maxRecDepth 100000 in
set_option maxHeartbeats 1600000 in
theorem rrests (k0 k1 k2 k3 : Int) (port now : Int) (hp1 : -9223372036854775808 ≤ port) (hp2 : port ≤ 9223372036854775807) (h : RP w0 w rb low n rest t S) (ht : t < 60000) (htop : ∀ x, (S (k0, k1, k2, k3)).U x = true → x < n) :
    Calls Tryd.prog 16 #[.pointer (some ⟨rb, 0, none⟩), kv k0 k1 k2 k3, .int .i64 port, .int .i64 now] w fun e w' => e = .returned (.bool (restB low (S (k0, k1, k2, k3)) port now)) ∧ RP w0 w' rb low n rest (t + 1) S := by
  have H2 := h.grow ((Below.refl _ _).alloc (Nat.le_refl _) (.cells #[.int .i64 k0, .int .u32 k1, .int .u32 k2, .int .i64 k3] 40))
  obtain ⟨c0, c1, c2⟩ := H2.cells
  obtain ⟨n1, n2, n3, n4⟩ := h.bounds
  have HH := Lib.hid H2
  unfold kv
  clear h H2 c2
  by_cases hlow : port < low
  · have e1 : restB low (S (k0, k1, k2, k3)) port now = false := by unfold restB; simp; intro; omega
    rw [e1]
    clear e1
    go_enter Tryd.func16, Tryd.ntmps16
    go_wp2
    go_ret
    exact ⟨rfl, HH.out.more (by omega)⟩
  · obtain ⟨x, rfl⟩ : ∃ x : Nat, port = (low : Int) + x := ⟨(port - low).toNat, by omega⟩
    have hwx : IntKind.i64.wrap ((low : Int) + x - low) = x := by rw [show (low : Int) + x - low = x by omega]; exact IntWalk.i64_in _ (by omega)
    have e0 : restB low (S (k0, k1, k2, k3)) ((low : Int) + x) now = over (clk now) ((S (k0, k1, k2, k3)).G x) := by
      unfold restB
      rw [show ((low : Int) + x - low).toNat = x by omega]
      simp
      intro; omega
    rw [e0]
    clear e0
    have hg : ¬ (low : Int) + x < low := hlow
    by_cases hx : x < n
    · have hxi : (x : Int) < (n : Int) := by omega
      have hxg : ¬ (n : Int) ≤ (x : Int) := by omega
      obtain ⟨G, hG⟩ : ∃ G, (S (k0, k1, k2, k3)).G x = G := ⟨_, rfl⟩
      rw [hG]
      have HGG := Lib.hid hG
      have HT := Lib.hid htop
      clear hG htop
      cases G with
      | none =>
        rw [show over (clk now) none = false from rfl]
        go_enter Tryd.func16, Tryd.ntmps16
        go_wp2_with fail
        refine (rpart k0 k1 k2 k3 HH.out ht).mono ?_
        rintro e w1 ⟨p, rfl, Q⟩
        obtain ⟨d5, ds, _⟩ := Q.st hx
        obtain ⟨d6, ⟨u, du, hu⟩, _⟩ := Q.un hx
        have FIN := Lib.hid Q.rp
        have AP := Q.part.apart x
        clear Q c0 c1
        rcases (show code (S (k0, k1, k2, k3)) x = 0 ∨ code (S (k0, k1, k2, k3)) x = 1 by unfold code; rw [HGG.out]; cases ((S (k0, k1, k2, k3)).L x) <;> simp) with hz | hz
        · rw [hz] at ds
          clear hz AP hu
          go_wp2_with fail
          go_quiet (fail)
          all_goals
            go_wp2
            go_ret
            exact ⟨rfl, FIN.out.grow (Below.drN (Below.refl _ _) _)⟩
        · rw [hz] at ds
          clear hz AP hu
          go_wp2_with fail
          go_quiet (fail)
          all_goals
            go_wp2
            go_ret
            exact ⟨rfl, FIN.out.grow (Below.drN (Below.refl _ _) _)⟩
      | some v =>
        have e2 : over (clk now) (some v) = decide (((clk now : Nat) : Int) < (v : Int)) := by simp [over]
        rw [e2]
        clear e2
        go_enter Tryd.func16, Tryd.ntmps16
        go_wp2_with fail
        refine (rpart k0 k1 k2 k3 HH.out ht).mono ?_
        rintro e w1 ⟨p, rfl, Q⟩
        obtain ⟨d5, ds, _⟩ := Q.st hx
        obtain ⟨d6, ⟨u, du, hu⟩, _⟩ := Q.un hx
        have FIN := Lib.hid Q.rp
        have AP := Q.part.apart x
        clear Q c0 c1
        obtain rfl := hu v HGG.out
        have hl : (S (k0, k1, k2, k3)).L x = false := by
          cases hl : (S (k0, k1, k2, k3)).L x with
          | false => rfl
          | true => have := AP hl; rw [HGG.out] at this; cases this
        have hz : code (S (k0, k1, k2, k3)) x = 2 := by unfold code; rw [hl, HGG.out]; rfl
        rw [hz] at ds
        clear hz AP hu hl
        go_wp2_with fail
        go_quiet ((go_at_call 23; exact Calls.quiet_of_same ((rclock_c now _).mono (fun _ _ q => And.intro q.1 q.2.symm))))
        all_goals
          go_wp2
          all_goals
            go_ret
            refine ⟨?_, FIN.out.grow (Below.drN (Below.refl _ _) _)⟩
            first | rfl | simp
    · have hxi : ¬ (x : Int) < (n : Int) := by omega
      have hxg : (n : Int) ≤ (x : Int) := by omega
      have hb : (S (k0, k1, k2, k3)).G x = none := by
        cases hb : (S (k0, k1, k2, k3)).G x with
        | none => rfl
        | some v => exact absurd (htop x (by unfold PA.U; rw [hb]; simp)) hx
      rw [hb]
      rw [show over (clk now) none = false from rfl]
      clear hb htop
      go_enter Tryd.func16, Tryd.ntmps16
      go_wp2
      go_ret
      exact ⟨rfl, HH.out.more (by omega)⟩
end
end Go.Proofs.YthkadlmdjgdliaaDoor
