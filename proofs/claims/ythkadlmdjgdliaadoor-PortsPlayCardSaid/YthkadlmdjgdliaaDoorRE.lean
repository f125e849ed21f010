/- The document's ports: the walk of Take. -/
import Derived.Test.YthkadlmdjgdliaaDoorRD
namespace Go.Proofs.YthkadlmdjgdliaaDoor
open Go.RowKit
set_option linter.unusedSimpArgs false
set_option linter.unusedVariables false
open V2 (Only)

theorem expTo_U {A : PA} {c j u : Nat} (hj : A.G j = some u) (hc : u ≤ c) (ap : A.L j = false) : (A.expTo c (j + 1)).U = setU (A.expTo c j).U j false := by
  have e := expTo_G (A := A) (c := c) (j := j) (by rw [hj]; simp [expG, hc])
  funext x
  unfold PA.U setU
  rw [e]
  unfold setG
  by_cases q : x = j
  · subst q
    show (A.L x || _) = _
    simp [ap]
  · simp [q]
    rfl
theorem expTo_code {A : PA} {c j u : Nat} (hj : A.G j = some u) (hc : u ≤ c) (ap : A.L j = false) (x : Nat) : code (A.expTo c (j + 1)) x = if x = j then 0 else code (A.expTo c j) x := by
  have e := expTo_G (A := A) (c := c) (j := j) (by rw [hj]; simp [expG, hc])
  unfold code
  rw [e]
  unfold setG
  by_cases q : x = j
  · subst q
    simp [PA.expTo, ap]
  · simp [q]
    rfl
theorem expTo_sub {A : PA} {c j u : Nat} (hj : A.G j = some u) (hc : u ≤ c) (x v : Nat) (h : (A.expTo c (j + 1)).G x = some v) : (A.expTo c j).G x = some v := by
  rw [expTo_G (A := A) (c := c) (j := j) (by rw [hj]; simp [expG, hc])] at h
  unfold setG at h
  split at h
  · cases h
  · exact h
section
variable {w0 : Base} {w w' : World} {rb low n rest t : Nat} {S : K4 → PA} {k : K4} {p : RB}
def RTakeQ (w0 : Base) (rb low n rest t : Nat) (S : K4 → PA) (k : K4) (A : PA) (e : Ending) (w' : World) : Prop :=
  ((∀ x, x < n → A.U x = true) ∧ e = .returned (.tuple #[.int .i64 0, .int .i64 17]) ∧ RP w0 w' rb low n rest t (updK S k A)) ∨
  ∃ x, V2.Next A.U n A.at1 x ∧ e = .returned (.tuple #[.int .i64 ((low : Int) + x), .int .i64 0]) ∧ RP w0 w' rb low n rest t (updK S k (A.take n x))
set_option maxRecDepth 100000 in
set_option maxHeartbeats 3200000 in
theorem rtake_p (k0 k1 k2 k3 : Int) (now : Int) (h : RP w0 w rb low n rest t S) (ht : t < 50000) (htop : ∀ x, (S (k0, k1, k2, k3)).U x = true → x < n) :
    Calls Tryd.prog 17 #[.pointer (some ⟨rb, 0, none⟩), kv k0 k1 k2 k3, .int .i64 now] w (RTakeQ w0 rb low n rest (t + 1) S (k0, k1, k2, k3) ((S (k0, k1, k2, k3)).exp (clk now))) := by
  obtain ⟨n1, n2, n3, n4⟩ := h.bounds
  have H2 := h.grow ((Below.refl _ _).alloc (Nat.le_refl _) (.cells #[.int .i64 k0, .int .u32 k1, .int .u32 k2, .int .i64 k3] 40))
  have HTOP := Lib.hid htop
  have hcl := clk_le now
  unfold kv
  clear h htop
  go_enter Tryd.func17, Tryd.ntmps17
  go_wp2_with fail
  refine (rpart k0 k1 k2 k3 H2 (by omega)).mono ?_
  rintro e w1 ⟨p, rfl, Q⟩
  have Q1 : Hid (RQ w0 w1 rb low n rest (t + 1) (updK S (k0, k1, k2, k3) ((S (k0, k1, k2, k3)).expTo (clk now) 0)) (k0, k1, k2, k3) p) := by
    show RQ _ _ _ _ _ _ _ _ _ _
    rw [expTo_zero, updK_self]; exact Q
  have AP : Hid (∀ x, (S (k0, k1, k2, k3)).L x = true → (S (k0, k1, k2, k3)).G x = none) := Q.part.apart
  clear Q H2
  go_wp2_with fail
  go_loopw [9] (fun i wr => ∃ j : Nat, j ≤ n ∧ i = .int .i64 j ∧ Hid (RQ w0 wr rb low n rest (t + 1) (updK S (k0, k1, k2, k3) ((S (k0, k1, k2, k3)).expTo (clk now) j)) (k0, k1, k2, k3) p)) (fun i _ => n - (intOf i).toNat)
  case atStart => exact ⟨0, by omega, rfl, Q1.out⟩
  case round =>
    obtain ⟨j, hj, rfl, HR⟩ := hrel
    obtain ⟨c0, c1, c2⟩ := HR.out.rp.cells
    clear c2 Q1
    by_cases hlt : j < n
    · have hji : (j : Int) < (n : Int) := by omega
      obtain ⟨d5, ds, fs⟩ := HR.out.st hlt
      obtain ⟨d6, ⟨u, du, hu⟩, fu⟩ := HR.out.un hlt
      have d4 : wr.cell? ⟨p.xb, 4, none⟩ = _ := HR.out.part.head.cell 4
      simp at d4
      rw [updK_same] at ds hu
      obtain ⟨G, hG⟩ : ∃ G, (S (k0, k1, k2, k3)).G j = G := ⟨_, rfl⟩
      rw [expTo_at, hG] at hu
      have HG := Lib.hid hG
      have HU := Lib.hid hu
      clear c0 hu fu
      by_cases hz : code ((S (k0, k1, k2, k3)).expTo (clk now) j) j = 2
      · rw [hz] at ds
        have hz := Lib.hid hz
        obtain ⟨v, rfl⟩ : ∃ v, G = some v := by
          cases G with
          | some v => exact ⟨v, rfl⟩
          | none =>
            have := hz.out
            unfold code at this
            rw [expTo_at, HG.out] at this
            split at this <;> simp at this
        obtain rfl := HU.out v rfl
        have hl : Hid ((S (k0, k1, k2, k3)).L j = false) := by
          show _ = _
          cases hl : (S (k0, k1, k2, k3)).L j with
          | false => rfl
          | true => have := AP.out j hl; rw [HG.out] at this; cases this
        clear hz hG
        by_cases hc : v ≤ clk now
        · have hci : (v : Int) ≤ (clk now : Int) := by omega
          go_wp2_with fail
          go_quiet ((go_at_call 23; exact Calls.quiet_of_same ((rclock_c now _).mono (fun _ _ q => And.intro q.1 q.2.symm))))
          obtain ⟨wd, hwd⟩ : ∃ wd, wd = wr.drewN nq := ⟨_, rfl⟩
          have QD : RQ w0 wd rb low n rest (t + 1) (updK S (k0, k1, k2, k3) ((S (k0, k1, k2, k3)).expTo (clk now) j)) (k0, k1, k2, k3) p := by
            rw [hwd]; exact HR.out.grow (Below.drN (Below.refl _ _) _)
          rw [← hwd]
          clear hwd d4 d5 ds fs d6 du c1
          obtain ⟨d5, ds, fs⟩ := QD.st hlt
          have ne := QD.part.ne
          have d4 : wd.cell? ⟨p.xb, 4, none⟩ = _ := QD.part.head.cell 4
          simp at d4
          have d4' : (wd.setCell ⟨p.sb, j, none⟩ (.int .i64 0)).cell? ⟨p.xb, 4, none⟩ = some (.pointer (some ⟨p.cb, 0, none⟩)) := (World.cell?_of_block (w := wd) (a := ⟨p.xb, 4, none⟩) (Below.heap_setCell _ ⟨p.sb, j, none⟩ _ p.xb ne.2.2.1)).trans d4
          have RC := QD.part.cur
          rw [updK_same] at RC
          have RC' := Lib.hid (RC.of_blocks (w' := wd.setCell ⟨p.sb, j, none⟩ (.int .i64 0)) (Below.heap_setCell _ ⟨p.sb, j, none⟩ _ p.cb ne.2.2.2.2.1) (Below.heap_setCell _ ⟨p.sb, j, none⟩ _ p.ub ne.2.2.2.2.2.2.1))
          have HQ := Lib.hid QD
          clear RC QD d4 ne HR
          go_wp2_with fail
          refine (rfree_c p.cb p.ub n _ _ j _ RC'.out).mono ?_
          rintro e w4 ⟨rfl, C4, O4⟩
          have FIN : Hid (RQ w0 w4 rb low n rest (t + 1) (updK S (k0, k1, k2, k3) ((S (k0, k1, k2, k3)).expTo (clk now) (j + 1))) (k0, k1, k2, k3) p) := by
            have Q := HQ.out
            have ne := Q.part.ne
            have P := Q.part
            rw [updK_same] at P
            have hu1 : usedB ((S (k0, k1, k2, k3)).expTo (clk now) j).U n j = true := by
              unfold usedB PA.U
              rw [show (((j : Int)).toNat) = j from rfl, expTo_at, HG.out]
              simp [hlt]
            have C5 : Rc w4 p.cb p.ub n ((S (k0, k1, k2, k3)).expTo (clk now) (j + 1)).at1 ((S (k0, k1, k2, k3)).expTo (clk now) (j + 1)).U := by
              rw [expTo_U HG.out hc hl.out]
              unfold freed at C4
              rw [hu1] at C4
              exact C4
            have := Q.turn (((Chg.refl _ _).set P.i4 _ _).trans (Chg.only O4 P.i2 P.i3)) (P.put (j := j) (v := 0) ((O4.2.2 _ ne.1 ne.2.1).trans (Below.heap_setCell _ ⟨p.sb, j, none⟩ _ p.xb ne.2.2.1)) ((O4.2.2 _ (Ne.symm ne.2.2.2.2.2.1) (Ne.symm ne.2.2.2.2.2.2.2.1)).trans (Below.heap_setCell _ ⟨p.sb, j, none⟩ _ p.nb (Ne.symm ne.2.2.2.2.2.2.2.2))) (O4.2.2 _ (Ne.symm ne.2.2.2.2.1) (Ne.symm ne.2.2.2.2.2.2.1)) C5 (fun x _ => expTo_code HG.out hc hl.out x) (fun x v h => expTo_sub HG.out hc x v h) (fun x hx => ?_))
            · rwa [updK_updK] at this
            · have hx : (S (k0, k1, k2, k3)).L x = true := hx
              have := AP.out x hx
              unfold PA.expTo
              simp [this, expG]
          clear C4 O4
          go_wp2_with fail
          go_roundw
          case rel => exact ⟨j + 1, by omega, by go_num, FIN.out⟩
          case measure => simp [intOf]; omega
        · have hci : ¬ (v : Int) ≤ (clk now : Int) := by omega
          go_wp2_with fail
          go_quiet ((go_at_call 23; exact Calls.quiet_of_same ((rclock_c now _).mono (fun _ _ q => And.intro q.1 q.2.symm))))
          go_wp2_with fail
          go_roundw
          case rel =>
            refine ⟨j + 1, by omega, by go_num, ?_⟩
            rw [expTo_same (by rw [HG.out]; simp [expG, hc])]
            exact HR.out.grow (Below.drN (Below.refl _ _) _)
          case measure => simp [intOf]; omega
      · obtain ⟨z, hzz⟩ : ∃ z, code ((S (k0, k1, k2, k3)).expTo (clk now) j) j = z := ⟨_, rfl⟩
        rw [hzz] at ds hz
        have ZZ := Lib.hid hzz
        clear hzz hG
        go_wp2_with fail
        go_quiet (fail)
        go_wp2_with fail
        go_roundw
        case rel =>
          refine ⟨j + 1, by omega, by go_num, ?_⟩
          have hn : (S (k0, k1, k2, k3)).G j = none := by
            cases hq : (S (k0, k1, k2, k3)).G j with
            | none => rfl
            | some v =>
              exfalso
              apply hz
              rw [← ZZ.out]
              unfold code
              rw [expTo_at, hq]
              have hl : (S (k0, k1, k2, k3)).L j = false := by
                cases hl : (S (k0, k1, k2, k3)).L j with
                | false => rfl
                | true => have := AP.out j hl; rw [hq] at this; cases this
              simp [PA.expTo, hl]
          rw [expTo_same (by rw [hn]; rfl)]
          exact HR.out.grow (Below.drN (Below.refl _ _) _)
        case measure => simp [intOf]; omega
    · have hji : ¬ (j : Int) < (n : Int) := by omega
      obtain rfl : j = n := by omega
      have Q : RQ w0 wr rb low j rest (t + 1) (updK S (k0, k1, k2, k3) ((S (k0, k1, k2, k3)).exp (clk now))) (k0, k1, k2, k3) p := by
        rw [← expTo_all (clk now) HTOP.out]; exact HR.out
      clear HR
      have d4 : wr.cell? ⟨p.xb, 4, none⟩ = _ := Q.part.head.cell 4
      simp at d4
      have RC := Q.part.cur
      rw [updK_same] at RC
      have HRC := Lib.hid RC
      have HQ := Lib.hid Q
      clear RC Q
      go_wp2_with fail
      refine (rtake_c p.cb p.ub j _ _ _ HRC.out).mono ?_
      rintro e w4 H
      rcases H with ⟨hf, rfl, rfl⟩ | ⟨x, hx, rfl, C4, O4⟩
      · have HF := Lib.hid hf
        clear hf
        go_wp2
        go_ret2
        exact .inl ⟨HF.out, rfl, HQ.out.rp⟩
      · have hxn := hx.1
        have ne := HQ.out.part.ne
        have HX := Lib.hid hx
        have hrb : rb ≠ p.sb ∧ rb ≠ p.cb ∧ rb ≠ p.ub := by
          obtain ⟨L, B, hs, _, hk, rfl⟩ := HQ.out
          have q := (hs.part _ hk).2.2.2
          have i4 := (hs.part _ hk).1.i4
          have i2 := (hs.part _ hk).1.i2
          have i3 := (hs.part _ hk).1.i3
          refine ⟨?_, ?_, ?_⟩ <;> omega
        obtain ⟨a5, as1, fs⟩ := HQ.out.st hxn
        have E5 : w4.heap[p.xb]? = wr.heap[p.xb]? := O4.2.2 _ ne.1 ne.2.1
        have E6 : w4.heap[p.sb]? = wr.heap[p.sb]? := O4.2.2 _ (Ne.symm ne.2.2.2.2.1) (Ne.symm ne.2.2.2.2.2.2.1)
        have E7 : w4.heap[rb]? = wr.heap[rb]? := O4.2.2 _ hrb.2.1 hrb.2.2
        have d5 := (World.cell?_of_block (w := wr) (a := ⟨p.xb, 5, none⟩) E5).trans a5
        have ds := (World.cell?_of_block (w := wr) (a := ⟨p.sb, x, none⟩) E6).trans as1
        have fs := (World.frozen?_of_block (w := wr) (a := ⟨p.sb, x, none⟩) E6).trans fs
        have c0' := (World.cell?_of_block (w := wr) (a := ⟨rb, 0, none⟩) E7).trans c0
        have c0'' : (w4.setCell ⟨p.sb, x, none⟩ (.int .i64 1)).cell? ⟨rb, 0, none⟩ = some (.int .i64 low) := (World.cell?_of_block (w := w4) (a := ⟨rb, 0, none⟩) (Below.heap_setCell _ ⟨p.sb, x, none⟩ _ rb hrb.1)).trans c0'
        have FIN : Hid (RP w0 (w4.setCell ⟨p.sb, x, none⟩ (.int .i64 1)) rb low j rest (t + 1) (updK S (k0, k1, k2, k3) (((S (k0, k1, k2, k3)).exp (clk now)).take j x))) := by
          have Q := HQ.out
          have P := Q.part
          rw [updK_same] at P
          obtain ⟨f, f1, f2⟩ := P.st
          have hU : (((S (k0, k1, k2, k3)).exp (clk now)).take j x).U = setU ((S (k0, k1, k2, k3)).exp (clk now)).U x true := by
            funext y
            unfold PA.U PA.take setU
            by_cases e : y = x
            · subst e; simp
            · simp [e]
          have C5 : Rc (w4.setCell ⟨p.sb, x, none⟩ (.int .i64 1)) p.cb p.ub j (((S (k0, k1, k2, k3)).exp (clk now)).take j x).at1 (((S (k0, k1, k2, k3)).exp (clk now)).take j x).U := by
            rw [hU]
            exact C4.of_blocks (Below.heap_setCell _ ⟨p.sb, x, none⟩ _ p.cb ne.2.2.2.2.1) (Below.heap_setCell _ ⟨p.sb, x, none⟩ _ p.ub ne.2.2.2.2.2.2.1)
          have gx : ((S (k0, k1, k2, k3)).exp (clk now)).G x = none := by
            have := HX.out.2.1
            unfold PA.U at this
            cases hq : ((S (k0, k1, k2, k3)).exp (clk now)).G x with
            | none => rfl
            | some v => rw [hq] at this; simp at this
          have := Q.turn ((Chg.only O4 P.i2 P.i3).set P.i4 _ _) (P.put (j := x) (v := 1) (A2 := ((S (k0, k1, k2, k3)).exp (clk now)).take j x) ((Below.heap_setCell _ ⟨p.sb, x, none⟩ _ p.xb ne.2.2.1).trans E5) ((Below.heap_setCell _ ⟨p.sb, x, none⟩ _ p.nb (Ne.symm ne.2.2.2.2.2.2.2.2)).trans (O4.2.2 _ (Ne.symm ne.2.2.2.2.2.1) (Ne.symm ne.2.2.2.2.2.2.2.1))) ?_ C5 (fun y _ => ?_) (fun y v h => h) (fun y hy => ?_))
          · rw [updK_updK] at this
            exact this.rp
          · have f4 : Has w4 p.sb 3 (intsA j f) := E6.trans f1
            exact (f4.set x (.int .i64 1)).trans (f1.set x (.int .i64 1)).symm
          · unfold code PA.take setU
            by_cases e : y = x
            · subst e; simp
            · simp [e]
          · have hy : setU ((S (k0, k1, k2, k3)).exp (clk now)).L x true y = true := hy
            show ((S (k0, k1, k2, k3)).exp (clk now)).G y = none
            unfold setU at hy
            by_cases e : y = x
            · rw [e]; exact gx
            · simp [e] at hy
              exact P.apart y hy
        have hw1 : IntKind.i64.wrap ((low : Int) + x) = (low : Int) + x := IntWalk.i64_in _ (by omega)
        clear hx C4 O4 E5 E6 E7 a5 as1 c0
        go_wp2
        go_ret2
        exact .inr ⟨x, HX.out, rfl, FIN.out⟩
end
end Go.Proofs.YthkadlmdjgdliaaDoor
