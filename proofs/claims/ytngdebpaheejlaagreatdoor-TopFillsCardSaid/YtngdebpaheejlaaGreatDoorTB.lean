/- The top's begins. -/
import Derived.Test.YtngdebpaheejlaaGreatDoorZp
import Derived.Test.YtngdebpaheejlaaGreatDoorDI
import Derived.Test.YtngdebpaheejlaaGreatDoorDJ
namespace Go.Proofs.YtngdebpaheejlaaGreatDoor
open Go.RowKit Go.Shelf
set_option linter.unusedSimpArgs false
set_option linter.unusedVariables false
/-- Both balancers in memory, the list of services and the World: m1, m2 services served. -/
structure St (b f pb wh mb t am bm sv sm pm hm cn cm r k s xb tb lb wb : Nat) (m1 m2 : Nat) (T T2 : Nat → Nat) (o : Nat → Nat) (w : World) : Prop where
  bal : Bal o w b f sv sm pm hm cn cm r k m1 0 T
  flw : ∀ kv, Flw o w f pb wh mb t am bm k r s 0 0 0 kv (fun _ => none) (fun _ => none) zero25
  dx : DX o w xb tb m2 T2
  ol : o lb = 31
  ow : o wb = 31
  hl : Has w lb 63 svcsV
  hw : Has w wb 31 #[.pointer (some ⟨b, 0, none⟩), .pointer (some ⟨xb, 0, none⟩), .slice none 0 0, .slice none 0 0]
section
variable {b f pb wh mb t am bm sv sm pm hm cn cm r k s xb tb lb wb : Nat} {m1 m2 m1' m2' : Nat} {T T2 T' T2' : Nat → Nat} {o o' : Nat → Nat} {w w' : World}
theorem St.below (h : St b f pb wh mb t am bm sv sm pm hm cn cm r k s xb tb lb wb m1 m2 T T2 o w) (g : GG w w') : St b f pb wh mb t am bm sv sm pm hm cn cm r k s xb tb lb wb m1 m2 T T2 o w' :=
  ⟨h.bal.below g, fun kv => (h.flw kv).below g, h.dx.keep g.size (fun c hc _ => Below.block g c hc), h.ol, h.ow, Has.below h.hl g, Has.below h.hw g⟩
theorem St.stepB (hm1 : m1 ≤ 10) (h : St b f pb wh mb t am bm sv sm pm hm cn cm r k s xb tb lb wb m1 m2 T T2 o w) (hB : Bal o' w' b f sv sm pm hm cn cm r k m1' 0 T') (hE : ∀ c, c < w.heap.size → o' c = o c) (hC : Chg (fun c => 6 ≤ o c ∧ o c ≤ 30) w w') : St b f pb wh mb t am bm sv sm pm hm cn cm r k s xb tb lb wb m1' m2 T' T2 o' w' := by
  have hk : ∀ c, c < w.heap.size → ¬ (6 ≤ o c ∧ o c ≤ 30) → w'.heap[c]? = w.heap[c]? := fun c hc e => hC.block c hc e
  refine ⟨hB, fun kv => ((h.flw kv).re hE).keep (fun c hc e => hk c hc (by have := hE c hc; omega)), (h.dx.re (fun c hc _ => hE c hc)).keep hC.size (fun c hc e => hk c hc (by have := hE c hc; omega)), (hE lb h.hl.lt).trans h.ol, (hE wb h.hw.lt).trans h.ow, (hk lb h.hl.lt (by have := h.ol; omega)).trans h.hl, (hk wb h.hw.lt (by have := h.ow; omega)).trans h.hw⟩
theorem St.stepD (hm1 : m1 ≤ 10) (h : St b f pb wh mb t am bm sv sm pm hm cn cm r k s xb tb lb wb m1 m2 T T2 o w) (hD : DX o' w' xb tb m2' T2') (hE : ∀ c, c < w.heap.size → o' c = o c) (hC : Chg (fun c => 39 ≤ o c) w w') : St b f pb wh mb t am bm sv sm pm hm cn cm r k s xb tb lb wb m1 m2' T T2' o' w' := by
  have hk : ∀ c, c < w.heap.size → ¬ 39 ≤ o c → w'.heap[c]? = w.heap[c]? := fun c hc e => hC.block c hc e
  refine ⟨(h.bal.re hE).keep (fun c hc e1 e2 => hk c hc (by have := hE c hc; omega)), fun kv => ((h.flw kv).re hE).keep (fun c hc e => hk c hc (by have := hE c hc; omega)), hD, (hE lb h.hl.lt).trans h.ol, (hE wb h.hw.lt).trans h.ow, (hk lb h.hl.lt (by have := h.ol; omega)).trans h.hl, (hk wb h.hw.lt (by have := h.ow; omega)).trans h.hw⟩
end
/-- The pools' states behind i services. -/
def Tn (i : Nat) : Nat → Nat := fun j => if 1 ≤ j ∧ j ≤ i ∧ j ≤ 3 then 2 else 0
theorem Tn_zero : Tn 0 = fun _ => 0 := by
  funext j
  unfold Tn
  rw [if_neg (by omega)]
theorem Tn_at (i j : Nat) (h : i < j) : Tn i j = 0 := by
  unfold Tn
  rw [if_neg (by omega)]
theorem Tn_next (i : Nat) (hi : i < 3) : setT (setT (Tn i) (i + 1) 1) (i + 1) 2 = Tn (i + 1) := by
  funext j
  unfold setT Tn
  by_cases e : j = i + 1
  · subst e
    rw [if_pos rfl, if_pos (by omega)]
  · rw [if_neg e, if_neg e]
    by_cases e2 : 1 ≤ j ∧ j ≤ i ∧ j ≤ 3
    · rw [if_pos e2, if_pos (by omega)]
    · rw [if_neg e2, if_neg (by omega)]
theorem Tn_last : Tn 3 = Tn 4 := by
  funext j
  unfold Tn
  by_cases e : 1 ≤ j ∧ j ≤ 3
  · rw [if_pos (by omega), if_pos (by omega)]
  · rw [if_neg (by omega), if_neg (by omega)]
def Tq (j q : Nat) : Nat → Nat := if q = 1 then Tn j else if q = 2 then setT (Tn j) (j + 1) 1 else Tn (j + 1)
theorem Tq_set (j q : Nat) (hj : j < 3) (hq : q = 1 ∨ q = 2) : setT (Tq j q) (j + 1) q = Tq j (q + 1) := by
  rcases hq with rfl | rfl
  · rfl
  · exact Tn_next j hj
theorem Tq_at (j q : Nat) (hq : q = 1 ∨ q = 2) : Tq j q (j + 1) = q - 1 := by
  rcases hq with rfl | rfl
  · exact Tn_at j (j + 1) (by omega)
  · show setT (Tn j) (j + 1) 1 (j + 1) = 1
    unfold setT
    rw [if_pos rfl]
def Begun (r k s wb : Nat) (w w' : World) : Prop := ∃ b f pb wh mb t am bm sv sm pm hm cn cm xb tb lb o, (∀ c, c < w.heap.size → o c = 0) ∧ St b f pb wh mb t am bm sv sm pm hm cn cm r k s xb tb lb wb 4 4 (Tn 4) (Tn 4) o w' ∧ Below w.heap.size w w'
set_option maxRecDepth 100000 in
set_option maxHeartbeats 6400000 in
theorem begins_c (r k s : Nat) (hs : s = 5 ∨ s = 20) (h1 : 1 ≤ r) (h2 : r ≤ 40) (h3 : 1 ≤ k) (h4 : k ≤ 30) (w : World) (hT : CU.Tab w) : Calls Tryz.prog 5 #[.int .i64 (r : Int), .int .i64 (k : Int)] w fun e w' => ∃ wb, e = .returned (.tuple #[.pointer (some ⟨wb, 0, none⟩), .bool true]) ∧ Begun r k s wb w w' := by
  have l0 : 0 < w.heap.size := by
    have := hT 0 (by decide)
    rcases Nat.eq_zero_or_pos w.heap.size with q | q
    · simp [World.cell?, Array.getElem?_eq_none (show w.heap.size ≤ 0 by omega)] at this
    · exact q
  obtain ⟨key, hkey⟩ : ∃ x, x = bs kk := ⟨_, rfl⟩
  have HK := Lib.hid hkey
  have HC := Lib.hid (config_c r k w)
  have HL : Hid ((⟨#[102, 101, 100, 99, 98, 97, 57, 56, 55, 54, 53, 52, 51, 50, 49, 48]⟩ : ByteArray) = key) := by show _ = key; rw [hkey]; exact kk_bs
  rw [← hkey] at HC
  clear hkey
  go_enter Tryz.func5, Tryz.ntmps5
  go_wp2_with fail
  refine HC.out.mono ?_
  rintro e w1 ⟨rfl, b1⟩
  clear HC
  have g1 : GG w (w1.alloc (.cells #[.int .i64 (r : Int), .int .i64 2000, .int .i64 (k : Int), .int .i64 10, .int .i64 5, .int .i64 50, .int .i64 9, .int .i64 7, .int .i64 20, .string key, .int .i64 5] 50)) := GG.alloc b1 _
  have hX := Has.new w1 #[.int .i64 (r : Int), .int .i64 2000, .int .i64 (k : Int), .int .i64 10, .int .i64 5, .int .i64 50, .int .i64 9, .int .i64 7, .int .i64 20, .string key, .int .i64 5] 50
  have hT1 : CU.Tab (w1.alloc (.cells #[.int .i64 (r : Int), .int .i64 2000, .int .i64 (k : Int), .int .i64 10, .int .i64 5, .int .i64 50, .int .i64 9, .int .i64 7, .int .i64 20, .string key, .int .i64 5] 50)) := Tab_keep hT (Below.block g1 0 l0)
  have HB : Hid (Calls Tryz.prog 12 #[.agg #[.int .i64 (r : Int), .int .i64 2000, .int .i64 (k : Int), .int .i64 10, .int .i64 5, .int .i64 50, .int .i64 9, .int .i64 7, .int .i64 20, .string key, .int .i64 5]] (w1.alloc (.cells #[.int .i64 (r : Int), .int .i64 2000, .int .i64 (k : Int), .int .i64 10, .int .i64 5, .int .i64 50, .int .i64 9, .int .i64 7, .int .i64 20, .string key, .int .i64 5] 50)) fun e w' => ∃ b, e = .returned (.tuple #[.pointer (some ⟨b, 0, none⟩), .int .i64 0]) ∧ BNew (fun _ => 0) (w1.alloc (.cells #[.int .i64 (r : Int), .int .i64 2000, .int .i64 (k : Int), .int .i64 10, .int .i64 5, .int .i64 50, .int .i64 9, .int .i64 7, .int .i64 20, .string key, .int .i64 5] 50)) w' b r k s) := by
    have := bnew_c (fun _ => 0) rfl r k s hs h1 h2 h3 h4 (w1.alloc (.cells #[.int .i64 (r : Int), .int .i64 2000, .int .i64 (k : Int), .int .i64 10, .int .i64 5, .int .i64 50, .int .i64 9, .int .i64 7, .int .i64 20, .string key, .int .i64 5] 50)) hT1
    rw [← HK.out] at this
    exact this
  have HD := Lib.hid (fun W => dxnew_c r k h1 h2 h3 h4 ⟨#[102, 101, 100, 99, 98, 97, 57, 56, 55, 54, 53, 52, 51, 50, 49, 48]⟩ kk_bs W)
  go_wp2_with fail
  refine HB.out.mono ?_
  clear HB hX
  rintro e w2 ⟨b, rfl, f, pb, wh, mb, t, am, bm, sv, sm, pm, hm, cn, cm, o, hE, hF, hB, b2⟩
  have g2 := g1.step b2
  have s1 := g1.size
  have s2 := b2.size
  go_wp2_with fail
  refine (HD.out w2).mono ?_
  rintro e w3 ⟨xb, rfl, c, tb, c0, c39, hDX, b3⟩
  have s3 := b3.size
  have g3 : GG w2 (w3.alloc (.cells #[.pointer (some ⟨b, 0, none⟩), .pointer (some ⟨xb, 0, none⟩), .slice none 0 0, .slice none 0 0] 31)) := GG.alloc b3 _
  have hW3 := Has.new w3 #[.pointer (some ⟨b, 0, none⟩), .pointer (some ⟨xb, 0, none⟩), .slice none 0 0, .slice none 0 0] 31
  go_wp2_with fail
  refine (services_c _).mono ?_
  rintro e w4 ⟨lb, rfl, hlb, hl4, b4⟩
  have hlb : w3.heap.size + 1 ≤ lb := by simpa using hlb
  have g34 : GG w3 w4 := GG.step ((GG.refl w3).alloc _) b4
  have g24 : GG w2 w4 := GG.trans b3 g34
  have g04 : GG w w4 := g2.trans g24
  obtain ⟨o2, ho2⟩ : ∃ o2 : Nat → Nat, o2 = fun x => if x < w2.heap.size then o x else if x < w3.heap.size then c x else 31 := ⟨_, rfl⟩
  have oe : ∀ x, o2 x = if x < w2.heap.size then o x else if x < w3.heap.size then c x else 31 := fun x => by rw [ho2]
  have INI : Hid ((∀ x, x < w.heap.size → o2 x = 0) ∧ St b f pb wh mb t am bm sv sm pm hm cn cm r k s xb tb lb w3.heap.size 0 0 (fun _ => 0) (fun _ => 0) o2 w4 ∧ Below w.heap.size w w4) := by
    refine ⟨fun x hx => ?_, ⟨(hB.re (fun x hx => by rw [oe, if_pos hx])).below g24, fun kv => ((hF kv).re (fun x hx => by rw [oe, if_pos hx])).below g24, (hDX.re (fun x hx e => ?_)).keep g34.size (fun x hx _ => Below.block g34 x hx), ?_, ?_, hl4, Has.below hW3 b4⟩, g04⟩
    · rw [oe, if_pos (by omega)]; exact hE.1 x (by omega)
    · have : w2.heap.size ≤ x := by
        rcases Nat.lt_or_ge x w2.heap.size with q | q
        · have := c0 x q; omega
        · exact q
      rw [oe, if_neg (by omega), if_pos hx]
    · rw [oe, if_neg (by omega), if_neg (by omega)]
    · rw [oe, if_neg (by omega), if_neg (by omega)]
  clear hB hF hDX hE oe ho2 hW3 hl4 g34 g24 g3 b4 c0 c39 b3 b2 g2 g1 hT1 HD
  go_wp2_with fail
  obtain ⟨wb, hwb⟩ : ∃ wb, wb = w3.heap.size := ⟨_, rfl⟩
  rw [← hwb] at INI ⊢
  clear hwb
  go_loopw [12] (fun i wr => ∃ j : Nat, j ≤ 4 ∧ i = .int .i64 (j : Int) ∧ Hid (∃ o, (∀ x, x < w.heap.size → o x = 0) ∧ St b f pb wh mb t am bm sv sm pm hm cn cm r k s xb tb lb wb j j (Tn j) (Tn j) o wr ∧ Below w.heap.size w wr)) (fun i _ => 4 - (intOf i).toNat)
  case atStart => exact ⟨0, by omega, rfl, o2, INI.out.1, by rw [Tn_zero]; exact INI.out.2.1, INI.out.2.2⟩
  case round =>
    obtain ⟨j, hj, rfl, HS⟩ := hrel
    clear INI
    obtain ⟨o, oz, hS, hB⟩ := HS.out
    have hj' : j = 0 ∨ j = 1 ∨ j = 2 ∨ j = 3 ∨ j = 4 := by omega
    clear hj HS
    rcases hj' with rfl | rfl | rfl | rfl | rfl
    · have HS := Lib.hid hS
      have l0 : wr.cell? ⟨lb, 0, none⟩ = some (.int .i64 6) := (hS.hl.cell 0).trans rfl
      have l1 : wr.cell? ⟨lb, 1, none⟩ = some (.int .u32 100) := (hS.hl.cell 1).trans rfl
      have l2 : wr.cell? ⟨lb, 2, none⟩ = some (.int .i64 80) := (hS.hl.cell 2).trans rfl
      have l3 : wr.cell? ⟨lb, 3, none⟩ = some (.bool false) := (hS.hl.cell 3).trans rfl
      have l4 : wr.cell? ⟨lb, 4, none⟩ = some (.int .u32 200) := (hS.hl.cell 4).trans rfl
      have HV := Lib.hid (bserve1_c o b f sv sm pm hm cn cm r k 0 (Tn 0) (Tn_at _ _ (by decide)) wr hS.bal)
      clear hS
      go_wp2_with fail
      refine HV.out.mono ?_
      clear HV l0 l1 l2 l3 l4
      rintro e w5 ⟨o5, rfl, hE5, hB5, hC5⟩
      have hS5 := HS.out.stepB (by decide) hB5 hE5.1 hC5
      have oz5 : ∀ x, x < w.heap.size → o5 x = 0 := fun x hx => (hE5.1 x (Nat.lt_of_lt_of_le hx hB.size)).trans (oz x hx)
      have hBB : Below w.heap.size w w5 := hB.trans ⟨hC5.os, hC5.tape, hC5.output, hC5.size, fun x hx => hC5.block x (Nat.lt_of_lt_of_le hx hB.size) (fun e => by have := oz x hx; omega)⟩
      have HS5 := Lib.hid hS5
      clear hB5 hE5 hC5 HS hB oz hS5
      go_wp2_with fail
      have l0 : ∀ V : Gr w5, V.1.cell? ⟨lb, 0, none⟩ = some (.int .i64 6) := fun V => ((V.has HS5.out.hl).cell 0).trans rfl
      have l1 : ∀ V : Gr w5, V.1.cell? ⟨lb, 1, none⟩ = some (.int .u32 100) := fun V => ((V.has HS5.out.hl).cell 1).trans rfl
      have l2 : ∀ V : Gr w5, V.1.cell? ⟨lb, 2, none⟩ = some (.int .i64 80) := fun V => ((V.has HS5.out.hl).cell 2).trans rfl
      have l3 : ∀ V : Gr w5, V.1.cell? ⟨lb, 3, none⟩ = some (.bool false) := fun V => ((V.has HS5.out.hl).cell 3).trans rfl
      have l4 : ∀ V : Gr w5, V.1.cell? ⟨lb, 4, none⟩ = some (.int .u32 200) := fun V => ((V.has HS5.out.hl).cell 4).trans rfl
      refine wp_region_grows_mid 27 (by kernel_rfl) (by kernel_rfl) ?_
      simp only [List.take_succ_cons, List.take_zero, List.drop_succ_cons, List.drop_zero]
      repeat (go_big_quiet_step (fail))
      refine wpQuiet_nil ?_
      intro V
      have HS6 := Lib.hid (HS5.out.below V.2)
      have hB6 := hBB.trans (V.2.mono hBB.size)
      clear l0 l1 l2 l3 l4 HS5 hBB
      obtain ⟨w6, hw⟩ : ∃ W, W = V.1 := ⟨_, rfl⟩
      rw [← hw] at HS6 hB6 ⊢
      clear hw V
      have HV := Lib.hid (dserve1_c o5 xb tb (Tn 0) (Tn_at _ _ (by decide)) w6 HS6.out.dx)
      go_wp2_with fail
      refine HV.out.mono ?_
      clear HV
      rintro e w7 ⟨rfl, o7, hE7, hE7', hD7, hC7⟩
      have HS7 := Lib.hid (HS6.out.stepD (by decide) hD7 hE7 hC7)
      have oz7 : ∀ x, x < w.heap.size → o7 x = 0 := fun x hx => (hE7 x (Nat.lt_of_lt_of_le hx hB6.size)).trans (oz5 x hx)
      have hB7 : Below w.heap.size w w7 := hB6.trans ⟨hC7.os, hC7.tape, hC7.output, hC7.size, fun x hx => hC7.block x (Nat.lt_of_lt_of_le hx hB6.size) (fun e => by have := oz5 x hx; omega)⟩
      clear hD7 hE7 hE7' hC7 HS6 hB6 oz5
      go_wp2_with fail
      repeat (go_big_quiet_step (fail))
      refine wpQuiet_nil ?_
      go_wp2_with fail
      have INQ : Hid (∃ o, (∀ x, x < w.heap.size → o x = 0) ∧ St b f pb wh mb t am bm sv sm pm hm cn cm r k s xb tb lb wb 1 1 (Tq 0 1) (Tq 0 1) o w7 ∧ Below w.heap.size w w7) := ⟨o7, oz7, HS7.out, hB7⟩
      clear HS7 oz7 hB7
      go_loopw [17] (fun kq wr => ∃ q : Nat, 1 ≤ q ∧ q ≤ 3 ∧ kq = .int .i64 (q : Int) ∧ Hid (∃ o, (∀ x, x < w.heap.size → o x = 0) ∧ St b f pb wh mb t am bm sv sm pm hm cn cm r k s xb tb lb wb 1 1 (Tq 0 q) (Tq 0 q) o wr ∧ Below w.heap.size w wr)) (fun kq _ => 3 - (intOf kq).toNat)
      case atStart => exact ⟨1, by omega, by omega, rfl, INQ.out⟩
      case round =>
        obtain ⟨q, hq1, hq3, rfl, HS⟩ := hrel
        have hq' : q = 1 ∨ q = 2 ∨ q = 3 := by omega
        clear hq1 hq3 INQ
        rcases hq' with rfl | rfl | rfl
        · obtain ⟨o8, oz8, hS8, hB8⟩ := HS.out
          have hX := Has.new wr #[.int .i64 1, .int .u32 51, .int .i64 8080] 68
          have g8 : GG wr (wr.alloc (.cells #[.int .i64 1, .int .u32 51, .int .i64 8080] 68)) := (GG.refl _).alloc _
          have hS9 := (hS8.stepB (by decide) (hS8.bal.re (o' := owner o8 wr.heap.size 31) (fun c hc => own_lt hc)) (fun c hc => own_lt hc) (Chg.refl _ _)).below g8
          have ob : owner o8 wr.heap.size 31 wr.heap.size = 31 := own_back (Nat.le_refl _)
          have oz9 : ∀ x, x < w.heap.size → owner o8 wr.heap.size 31 x = 0 := fun x hx => (own_lt (Nat.lt_of_lt_of_le hx hB8.size)).trans (oz8 x hx)
          have hB9 : Below w.heap.size w (wr.alloc (.cells #[.int .i64 1, .int .u32 51, .int .i64 8080] 68)) := hB8.trans (Below.mono g8 hB8.size)
          obtain ⟨o9, ho9⟩ : ∃ O, O = owner o8 wr.heap.size 31 := ⟨_, rfl⟩
          rw [← ho9] at hS9 ob oz9
          have HV := Lib.hid (badd1_c o9 b f sv sm pm hm cn cm r k 1 0 1 (Tq 0 1) (by decide) (by decide) (by decide) (Tq_at 0 1 (by decide)) _ hS9.bal)
          have HS9 := Lib.hid hS9
          have HB9 := Lib.hid hB9
          clear ho9 hS8 oz8 hB8 hS9 hB9 HS g8
          go_wp2_with fail
          obtain ⟨w8, hw⟩ : ∃ W, W = wr.alloc (.cells #[.int .i64 1, .int .u32 51, .int .i64 8080] 68) := ⟨_, rfl⟩
          obtain ⟨bq, hbq⟩ : ∃ B, B = wr.heap.size := ⟨_, rfl⟩
          rw [← hw] at hX HV HS9 HB9 ⊢
          rw [← hbq] at hX ob ⊢
          clear hw hbq
          refine HV.out.mono ?_
          clear HV
          rintro e w9 ⟨o10, rfl, hE, hBn, hC⟩
          rw [Tq_set 0 1 (by decide) (by decide)] at hBn
          have hS10 := HS9.out.stepB (by decide) hBn hE.1 hC
          have hX10 := hX.chg hC (fun e => by omega)
          have hBs := HB9.out
          have oz10 : ∀ x, x < w.heap.size → o10 x = 0 := fun x hx => (hE.1 x (Nat.lt_of_lt_of_le hx hBs.size)).trans (oz9 x hx)
          have hB10 : Below w.heap.size w w9 := hBs.trans ⟨hC.os, hC.tape, hC.output, hC.size, fun x hx => hC.block x (Nat.lt_of_lt_of_le hx hBs.size) (fun e => by have := oz9 x hx; omega)⟩
          have HV := Lib.hid (dadd1_c o10 xb tb 1 1 (Tq 0 1) (by decide) (by decide) (by decide) (Tq_at 0 1 (by decide)) w9 hS10.dx)
          have HS10 := Lib.hid hS10
          have HB10 := Lib.hid hB10
          have x0 := (hX10.cell 0).trans rfl
          have x1 := (hX10.cell 1).trans rfl
          have x2 := (hX10.cell 2).trans rfl
          clear hS10 hB10 hBs hE hBn hC hX HS9 HB9 hX10 oz9 ob
          go_wp2_with fail
          refine HV.out.mono ?_
          clear HV x0 x1 x2
          rintro e w10 ⟨rfl, o11, hE, hE', hDn, hC⟩
          rw [Tq_set 0 1 (by decide) (by decide)] at hDn
          have hBs := HB10.out
          have FIN : Hid (∃ o, (∀ x, x < w.heap.size → o x = 0) ∧ St b f pb wh mb t am bm sv sm pm hm cn cm r k s xb tb lb wb 1 1 (Tq 0 2) (Tq 0 2) o w10 ∧ Below w.heap.size w w10) := ⟨o11, fun x hx => (hE x (Nat.lt_of_lt_of_le hx hBs.size)).trans (oz10 x hx), HS10.out.stepD (by decide) hDn hE hC, hBs.trans ⟨hC.os, hC.tape, hC.output, hC.size, fun x hx => hC.block x (Nat.lt_of_lt_of_le hx hBs.size) (fun e => by have := oz10 x hx; omega)⟩⟩
          clear HS10 HB10 hBs hE hE' hDn hC oz10
          go_wp2_with fail
          go_roundw
          case rel => exact ⟨2, by omega, by omega, by first | rfl | simp, FIN.out⟩
          case measure => simp [intOf]
        · obtain ⟨o8, oz8, hS8, hB8⟩ := HS.out
          have hX := Has.new wr #[.int .i64 2, .int .u32 52, .int .i64 8080] 68
          have g8 : GG wr (wr.alloc (.cells #[.int .i64 2, .int .u32 52, .int .i64 8080] 68)) := (GG.refl _).alloc _
          have hS9 := (hS8.stepB (by decide) (hS8.bal.re (o' := owner o8 wr.heap.size 31) (fun c hc => own_lt hc)) (fun c hc => own_lt hc) (Chg.refl _ _)).below g8
          have ob : owner o8 wr.heap.size 31 wr.heap.size = 31 := own_back (Nat.le_refl _)
          have oz9 : ∀ x, x < w.heap.size → owner o8 wr.heap.size 31 x = 0 := fun x hx => (own_lt (Nat.lt_of_lt_of_le hx hB8.size)).trans (oz8 x hx)
          have hB9 : Below w.heap.size w (wr.alloc (.cells #[.int .i64 2, .int .u32 52, .int .i64 8080] 68)) := hB8.trans (Below.mono g8 hB8.size)
          obtain ⟨o9, ho9⟩ : ∃ O, O = owner o8 wr.heap.size 31 := ⟨_, rfl⟩
          rw [← ho9] at hS9 ob oz9
          have HV := Lib.hid (badd2_c o9 b f sv sm pm hm cn cm r k 1 0 1 (Tq 0 2) (by decide) (by decide) (by decide) (Tq_at 0 2 (by decide)) _ hS9.bal)
          have HS9 := Lib.hid hS9
          have HB9 := Lib.hid hB9
          clear ho9 hS8 oz8 hB8 hS9 hB9 HS g8
          go_wp2_with fail
          obtain ⟨w8, hw⟩ : ∃ W, W = wr.alloc (.cells #[.int .i64 2, .int .u32 52, .int .i64 8080] 68) := ⟨_, rfl⟩
          obtain ⟨bq, hbq⟩ : ∃ B, B = wr.heap.size := ⟨_, rfl⟩
          rw [← hw] at hX HV HS9 HB9 ⊢
          rw [← hbq] at hX ob ⊢
          clear hw hbq
          refine HV.out.mono ?_
          clear HV
          rintro e w9 ⟨o10, rfl, hE, hBn, hC⟩
          rw [Tq_set 0 2 (by decide) (by decide)] at hBn
          have hS10 := HS9.out.stepB (by decide) hBn hE.1 hC
          have hX10 := hX.chg hC (fun e => by omega)
          have hBs := HB9.out
          have oz10 : ∀ x, x < w.heap.size → o10 x = 0 := fun x hx => (hE.1 x (Nat.lt_of_lt_of_le hx hBs.size)).trans (oz9 x hx)
          have hB10 : Below w.heap.size w w9 := hBs.trans ⟨hC.os, hC.tape, hC.output, hC.size, fun x hx => hC.block x (Nat.lt_of_lt_of_le hx hBs.size) (fun e => by have := oz9 x hx; omega)⟩
          have HV := Lib.hid (dadd2_c o10 xb tb 1 1 (Tq 0 2) (by decide) (by decide) (by decide) (Tq_at 0 2 (by decide)) w9 hS10.dx)
          have HS10 := Lib.hid hS10
          have HB10 := Lib.hid hB10
          have x0 := (hX10.cell 0).trans rfl
          have x1 := (hX10.cell 1).trans rfl
          have x2 := (hX10.cell 2).trans rfl
          clear hS10 hB10 hBs hE hBn hC hX HS9 HB9 hX10 oz9 ob
          go_wp2_with fail
          refine HV.out.mono ?_
          clear HV x0 x1 x2
          rintro e w10 ⟨rfl, o11, hE, hE', hDn, hC⟩
          rw [Tq_set 0 2 (by decide) (by decide)] at hDn
          have hBs := HB10.out
          have FIN : Hid (∃ o, (∀ x, x < w.heap.size → o x = 0) ∧ St b f pb wh mb t am bm sv sm pm hm cn cm r k s xb tb lb wb 1 1 (Tq 0 3) (Tq 0 3) o w10 ∧ Below w.heap.size w w10) := ⟨o11, fun x hx => (hE x (Nat.lt_of_lt_of_le hx hBs.size)).trans (oz10 x hx), HS10.out.stepD (by decide) hDn hE hC, hBs.trans ⟨hC.os, hC.tape, hC.output, hC.size, fun x hx => hC.block x (Nat.lt_of_lt_of_le hx hBs.size) (fun e => by have := oz10 x hx; omega)⟩⟩
          clear HS10 HB10 hBs hE hE' hDn hC oz10
          go_wp2_with fail
          go_roundw
          case rel => exact ⟨3, by omega, by omega, by first | rfl | simp, FIN.out⟩
          case measure => simp [intOf]
        · go_wp2_with fail
          go_roundw
          case rel => exact ⟨1, by omega, by first | rfl | simp, HS.out⟩
          case measure => simp [intOf]
    · have HS := Lib.hid hS
      have l0 : wr.cell? ⟨lb, 5, none⟩ = some (.int .i64 17) := (hS.hl.cell 5).trans rfl
      have l1 : wr.cell? ⟨lb, 6, none⟩ = some (.int .u32 100) := (hS.hl.cell 6).trans rfl
      have l2 : wr.cell? ⟨lb, 7, none⟩ = some (.int .i64 53) := (hS.hl.cell 7).trans rfl
      have l3 : wr.cell? ⟨lb, 8, none⟩ = some (.bool false) := (hS.hl.cell 8).trans rfl
      have l4 : wr.cell? ⟨lb, 9, none⟩ = some (.int .u32 200) := (hS.hl.cell 9).trans rfl
      have HV := Lib.hid (bserve2_c o b f sv sm pm hm cn cm r k 0 (Tn 1) (Tn_at _ _ (by decide)) wr hS.bal)
      clear hS
      go_wp2_with fail
      refine HV.out.mono ?_
      clear HV l0 l1 l2 l3 l4
      rintro e w5 ⟨o5, rfl, hE5, hB5, hC5⟩
      have hS5 := HS.out.stepB (by decide) hB5 hE5.1 hC5
      have oz5 : ∀ x, x < w.heap.size → o5 x = 0 := fun x hx => (hE5.1 x (Nat.lt_of_lt_of_le hx hB.size)).trans (oz x hx)
      have hBB : Below w.heap.size w w5 := hB.trans ⟨hC5.os, hC5.tape, hC5.output, hC5.size, fun x hx => hC5.block x (Nat.lt_of_lt_of_le hx hB.size) (fun e => by have := oz x hx; omega)⟩
      have HS5 := Lib.hid hS5
      clear hB5 hE5 hC5 HS hB oz hS5
      go_wp2_with fail
      have l0 : ∀ V : Gr w5, V.1.cell? ⟨lb, 5, none⟩ = some (.int .i64 17) := fun V => ((V.has HS5.out.hl).cell 5).trans rfl
      have l1 : ∀ V : Gr w5, V.1.cell? ⟨lb, 6, none⟩ = some (.int .u32 100) := fun V => ((V.has HS5.out.hl).cell 6).trans rfl
      have l2 : ∀ V : Gr w5, V.1.cell? ⟨lb, 7, none⟩ = some (.int .i64 53) := fun V => ((V.has HS5.out.hl).cell 7).trans rfl
      have l3 : ∀ V : Gr w5, V.1.cell? ⟨lb, 8, none⟩ = some (.bool false) := fun V => ((V.has HS5.out.hl).cell 8).trans rfl
      have l4 : ∀ V : Gr w5, V.1.cell? ⟨lb, 9, none⟩ = some (.int .u32 200) := fun V => ((V.has HS5.out.hl).cell 9).trans rfl
      refine wp_region_grows_mid 27 (by kernel_rfl) (by kernel_rfl) ?_
      simp only [List.take_succ_cons, List.take_zero, List.drop_succ_cons, List.drop_zero]
      repeat (go_big_quiet_step (fail))
      refine wpQuiet_nil ?_
      intro V
      have HS6 := Lib.hid (HS5.out.below V.2)
      have hB6 := hBB.trans (V.2.mono hBB.size)
      clear l0 l1 l2 l3 l4 HS5 hBB
      obtain ⟨w6, hw⟩ : ∃ W, W = V.1 := ⟨_, rfl⟩
      rw [← hw] at HS6 hB6 ⊢
      clear hw V
      have HV := Lib.hid (dserve2_c o5 xb tb (Tn 1) (Tn_at _ _ (by decide)) w6 HS6.out.dx)
      go_wp2_with fail
      refine HV.out.mono ?_
      clear HV
      rintro e w7 ⟨rfl, o7, hE7, hE7', hD7, hC7⟩
      have HS7 := Lib.hid (HS6.out.stepD (by decide) hD7 hE7 hC7)
      have oz7 : ∀ x, x < w.heap.size → o7 x = 0 := fun x hx => (hE7 x (Nat.lt_of_lt_of_le hx hB6.size)).trans (oz5 x hx)
      have hB7 : Below w.heap.size w w7 := hB6.trans ⟨hC7.os, hC7.tape, hC7.output, hC7.size, fun x hx => hC7.block x (Nat.lt_of_lt_of_le hx hB6.size) (fun e => by have := oz5 x hx; omega)⟩
      clear hD7 hE7 hE7' hC7 HS6 hB6 oz5
      go_wp2_with fail
      repeat (go_big_quiet_step (fail))
      refine wpQuiet_nil ?_
      go_wp2_with fail
      have INQ : Hid (∃ o, (∀ x, x < w.heap.size → o x = 0) ∧ St b f pb wh mb t am bm sv sm pm hm cn cm r k s xb tb lb wb 2 2 (Tq 1 1) (Tq 1 1) o w7 ∧ Below w.heap.size w w7) := ⟨o7, oz7, HS7.out, hB7⟩
      clear HS7 oz7 hB7
      go_loopw [17] (fun kq wr => ∃ q : Nat, 1 ≤ q ∧ q ≤ 3 ∧ kq = .int .i64 (q : Int) ∧ Hid (∃ o, (∀ x, x < w.heap.size → o x = 0) ∧ St b f pb wh mb t am bm sv sm pm hm cn cm r k s xb tb lb wb 2 2 (Tq 1 q) (Tq 1 q) o wr ∧ Below w.heap.size w wr)) (fun kq _ => 3 - (intOf kq).toNat)
      case atStart => exact ⟨1, by omega, by omega, rfl, INQ.out⟩
      case round =>
        obtain ⟨q, hq1, hq3, rfl, HS⟩ := hrel
        have hq' : q = 1 ∨ q = 2 ∨ q = 3 := by omega
        clear hq1 hq3 INQ
        rcases hq' with rfl | rfl | rfl
        · obtain ⟨o8, oz8, hS8, hB8⟩ := HS.out
          have hX := Has.new wr #[.int .i64 1, .int .u32 51, .int .i64 8080] 68
          have g8 : GG wr (wr.alloc (.cells #[.int .i64 1, .int .u32 51, .int .i64 8080] 68)) := (GG.refl _).alloc _
          have hS9 := (hS8.stepB (by decide) (hS8.bal.re (o' := owner o8 wr.heap.size 31) (fun c hc => own_lt hc)) (fun c hc => own_lt hc) (Chg.refl _ _)).below g8
          have ob : owner o8 wr.heap.size 31 wr.heap.size = 31 := own_back (Nat.le_refl _)
          have oz9 : ∀ x, x < w.heap.size → owner o8 wr.heap.size 31 x = 0 := fun x hx => (own_lt (Nat.lt_of_lt_of_le hx hB8.size)).trans (oz8 x hx)
          have hB9 : Below w.heap.size w (wr.alloc (.cells #[.int .i64 1, .int .u32 51, .int .i64 8080] 68)) := hB8.trans (Below.mono g8 hB8.size)
          obtain ⟨o9, ho9⟩ : ∃ O, O = owner o8 wr.heap.size 31 := ⟨_, rfl⟩
          rw [← ho9] at hS9 ob oz9
          have HV := Lib.hid (badd1_c o9 b f sv sm pm hm cn cm r k 2 0 2 (Tq 1 1) (by decide) (by decide) (by decide) (Tq_at 1 1 (by decide)) _ hS9.bal)
          have HS9 := Lib.hid hS9
          have HB9 := Lib.hid hB9
          clear ho9 hS8 oz8 hB8 hS9 hB9 HS g8
          go_wp2_with fail
          obtain ⟨w8, hw⟩ : ∃ W, W = wr.alloc (.cells #[.int .i64 1, .int .u32 51, .int .i64 8080] 68) := ⟨_, rfl⟩
          obtain ⟨bq, hbq⟩ : ∃ B, B = wr.heap.size := ⟨_, rfl⟩
          rw [← hw] at hX HV HS9 HB9 ⊢
          rw [← hbq] at hX ob ⊢
          clear hw hbq
          refine HV.out.mono ?_
          clear HV
          rintro e w9 ⟨o10, rfl, hE, hBn, hC⟩
          rw [Tq_set 1 1 (by decide) (by decide)] at hBn
          have hS10 := HS9.out.stepB (by decide) hBn hE.1 hC
          have hX10 := hX.chg hC (fun e => by omega)
          have hBs := HB9.out
          have oz10 : ∀ x, x < w.heap.size → o10 x = 0 := fun x hx => (hE.1 x (Nat.lt_of_lt_of_le hx hBs.size)).trans (oz9 x hx)
          have hB10 : Below w.heap.size w w9 := hBs.trans ⟨hC.os, hC.tape, hC.output, hC.size, fun x hx => hC.block x (Nat.lt_of_lt_of_le hx hBs.size) (fun e => by have := oz9 x hx; omega)⟩
          have HV := Lib.hid (dadd1_c o10 xb tb 2 2 (Tq 1 1) (by decide) (by decide) (by decide) (Tq_at 1 1 (by decide)) w9 hS10.dx)
          have HS10 := Lib.hid hS10
          have HB10 := Lib.hid hB10
          have x0 := (hX10.cell 0).trans rfl
          have x1 := (hX10.cell 1).trans rfl
          have x2 := (hX10.cell 2).trans rfl
          clear hS10 hB10 hBs hE hBn hC hX HS9 HB9 hX10 oz9 ob
          go_wp2_with fail
          refine HV.out.mono ?_
          clear HV x0 x1 x2
          rintro e w10 ⟨rfl, o11, hE, hE', hDn, hC⟩
          rw [Tq_set 1 1 (by decide) (by decide)] at hDn
          have hBs := HB10.out
          have FIN : Hid (∃ o, (∀ x, x < w.heap.size → o x = 0) ∧ St b f pb wh mb t am bm sv sm pm hm cn cm r k s xb tb lb wb 2 2 (Tq 1 2) (Tq 1 2) o w10 ∧ Below w.heap.size w w10) := ⟨o11, fun x hx => (hE x (Nat.lt_of_lt_of_le hx hBs.size)).trans (oz10 x hx), HS10.out.stepD (by decide) hDn hE hC, hBs.trans ⟨hC.os, hC.tape, hC.output, hC.size, fun x hx => hC.block x (Nat.lt_of_lt_of_le hx hBs.size) (fun e => by have := oz10 x hx; omega)⟩⟩
          clear HS10 HB10 hBs hE hE' hDn hC oz10
          go_wp2_with fail
          go_roundw
          case rel => exact ⟨2, by omega, by omega, by first | rfl | simp, FIN.out⟩
          case measure => simp [intOf]
        · obtain ⟨o8, oz8, hS8, hB8⟩ := HS.out
          have hX := Has.new wr #[.int .i64 2, .int .u32 52, .int .i64 8080] 68
          have g8 : GG wr (wr.alloc (.cells #[.int .i64 2, .int .u32 52, .int .i64 8080] 68)) := (GG.refl _).alloc _
          have hS9 := (hS8.stepB (by decide) (hS8.bal.re (o' := owner o8 wr.heap.size 31) (fun c hc => own_lt hc)) (fun c hc => own_lt hc) (Chg.refl _ _)).below g8
          have ob : owner o8 wr.heap.size 31 wr.heap.size = 31 := own_back (Nat.le_refl _)
          have oz9 : ∀ x, x < w.heap.size → owner o8 wr.heap.size 31 x = 0 := fun x hx => (own_lt (Nat.lt_of_lt_of_le hx hB8.size)).trans (oz8 x hx)
          have hB9 : Below w.heap.size w (wr.alloc (.cells #[.int .i64 2, .int .u32 52, .int .i64 8080] 68)) := hB8.trans (Below.mono g8 hB8.size)
          obtain ⟨o9, ho9⟩ : ∃ O, O = owner o8 wr.heap.size 31 := ⟨_, rfl⟩
          rw [← ho9] at hS9 ob oz9
          have HV := Lib.hid (badd2_c o9 b f sv sm pm hm cn cm r k 2 0 2 (Tq 1 2) (by decide) (by decide) (by decide) (Tq_at 1 2 (by decide)) _ hS9.bal)
          have HS9 := Lib.hid hS9
          have HB9 := Lib.hid hB9
          clear ho9 hS8 oz8 hB8 hS9 hB9 HS g8
          go_wp2_with fail
          obtain ⟨w8, hw⟩ : ∃ W, W = wr.alloc (.cells #[.int .i64 2, .int .u32 52, .int .i64 8080] 68) := ⟨_, rfl⟩
          obtain ⟨bq, hbq⟩ : ∃ B, B = wr.heap.size := ⟨_, rfl⟩
          rw [← hw] at hX HV HS9 HB9 ⊢
          rw [← hbq] at hX ob ⊢
          clear hw hbq
          refine HV.out.mono ?_
          clear HV
          rintro e w9 ⟨o10, rfl, hE, hBn, hC⟩
          rw [Tq_set 1 2 (by decide) (by decide)] at hBn
          have hS10 := HS9.out.stepB (by decide) hBn hE.1 hC
          have hX10 := hX.chg hC (fun e => by omega)
          have hBs := HB9.out
          have oz10 : ∀ x, x < w.heap.size → o10 x = 0 := fun x hx => (hE.1 x (Nat.lt_of_lt_of_le hx hBs.size)).trans (oz9 x hx)
          have hB10 : Below w.heap.size w w9 := hBs.trans ⟨hC.os, hC.tape, hC.output, hC.size, fun x hx => hC.block x (Nat.lt_of_lt_of_le hx hBs.size) (fun e => by have := oz9 x hx; omega)⟩
          have HV := Lib.hid (dadd2_c o10 xb tb 2 2 (Tq 1 2) (by decide) (by decide) (by decide) (Tq_at 1 2 (by decide)) w9 hS10.dx)
          have HS10 := Lib.hid hS10
          have HB10 := Lib.hid hB10
          have x0 := (hX10.cell 0).trans rfl
          have x1 := (hX10.cell 1).trans rfl
          have x2 := (hX10.cell 2).trans rfl
          clear hS10 hB10 hBs hE hBn hC hX HS9 HB9 hX10 oz9 ob
          go_wp2_with fail
          refine HV.out.mono ?_
          clear HV x0 x1 x2
          rintro e w10 ⟨rfl, o11, hE, hE', hDn, hC⟩
          rw [Tq_set 1 2 (by decide) (by decide)] at hDn
          have hBs := HB10.out
          have FIN : Hid (∃ o, (∀ x, x < w.heap.size → o x = 0) ∧ St b f pb wh mb t am bm sv sm pm hm cn cm r k s xb tb lb wb 2 2 (Tq 1 3) (Tq 1 3) o w10 ∧ Below w.heap.size w w10) := ⟨o11, fun x hx => (hE x (Nat.lt_of_lt_of_le hx hBs.size)).trans (oz10 x hx), HS10.out.stepD (by decide) hDn hE hC, hBs.trans ⟨hC.os, hC.tape, hC.output, hC.size, fun x hx => hC.block x (Nat.lt_of_lt_of_le hx hBs.size) (fun e => by have := oz10 x hx; omega)⟩⟩
          clear HS10 HB10 hBs hE hE' hDn hC oz10
          go_wp2_with fail
          go_roundw
          case rel => exact ⟨3, by omega, by omega, by first | rfl | simp, FIN.out⟩
          case measure => simp [intOf]
        · go_wp2_with fail
          go_roundw
          case rel => exact ⟨2, by omega, by first | rfl | simp, HS.out⟩
          case measure => simp [intOf]
    · have HS := Lib.hid hS
      have l0 : wr.cell? ⟨lb, 10, none⟩ = some (.int .i64 6) := (hS.hl.cell 10).trans rfl
      have l1 : wr.cell? ⟨lb, 11, none⟩ = some (.int .u32 101) := (hS.hl.cell 11).trans rfl
      have l2 : wr.cell? ⟨lb, 12, none⟩ = some (.int .i64 80) := (hS.hl.cell 12).trans rfl
      have l3 : wr.cell? ⟨lb, 13, none⟩ = some (.bool true) := (hS.hl.cell 13).trans rfl
      have l4 : wr.cell? ⟨lb, 14, none⟩ = some (.int .u32 0) := (hS.hl.cell 14).trans rfl
      have HV := Lib.hid (bserve3_c o b f sv sm pm hm cn cm r k 0 (Tn 2) (Tn_at _ _ (by decide)) wr hS.bal)
      clear hS
      go_wp2_with fail
      refine HV.out.mono ?_
      clear HV l0 l1 l2 l3 l4
      rintro e w5 ⟨o5, rfl, hE5, hB5, hC5⟩
      have hS5 := HS.out.stepB (by decide) hB5 hE5.1 hC5
      have oz5 : ∀ x, x < w.heap.size → o5 x = 0 := fun x hx => (hE5.1 x (Nat.lt_of_lt_of_le hx hB.size)).trans (oz x hx)
      have hBB : Below w.heap.size w w5 := hB.trans ⟨hC5.os, hC5.tape, hC5.output, hC5.size, fun x hx => hC5.block x (Nat.lt_of_lt_of_le hx hB.size) (fun e => by have := oz x hx; omega)⟩
      have HS5 := Lib.hid hS5
      clear hB5 hE5 hC5 HS hB oz hS5
      go_wp2_with fail
      have l0 : ∀ V : Gr w5, V.1.cell? ⟨lb, 10, none⟩ = some (.int .i64 6) := fun V => ((V.has HS5.out.hl).cell 10).trans rfl
      have l1 : ∀ V : Gr w5, V.1.cell? ⟨lb, 11, none⟩ = some (.int .u32 101) := fun V => ((V.has HS5.out.hl).cell 11).trans rfl
      have l2 : ∀ V : Gr w5, V.1.cell? ⟨lb, 12, none⟩ = some (.int .i64 80) := fun V => ((V.has HS5.out.hl).cell 12).trans rfl
      have l3 : ∀ V : Gr w5, V.1.cell? ⟨lb, 13, none⟩ = some (.bool true) := fun V => ((V.has HS5.out.hl).cell 13).trans rfl
      have l4 : ∀ V : Gr w5, V.1.cell? ⟨lb, 14, none⟩ = some (.int .u32 0) := fun V => ((V.has HS5.out.hl).cell 14).trans rfl
      refine wp_region_grows_mid 27 (by kernel_rfl) (by kernel_rfl) ?_
      simp only [List.take_succ_cons, List.take_zero, List.drop_succ_cons, List.drop_zero]
      repeat (go_big_quiet_step (fail))
      refine wpQuiet_nil ?_
      intro V
      have HS6 := Lib.hid (HS5.out.below V.2)
      have hB6 := hBB.trans (V.2.mono hBB.size)
      clear l0 l1 l2 l3 l4 HS5 hBB
      obtain ⟨w6, hw⟩ : ∃ W, W = V.1 := ⟨_, rfl⟩
      rw [← hw] at HS6 hB6 ⊢
      clear hw V
      have HV := Lib.hid (dserve3_c o5 xb tb (Tn 2) (Tn_at _ _ (by decide)) w6 HS6.out.dx)
      go_wp2_with fail
      refine HV.out.mono ?_
      clear HV
      rintro e w7 ⟨rfl, o7, hE7, hE7', hD7, hC7⟩
      have HS7 := Lib.hid (HS6.out.stepD (by decide) hD7 hE7 hC7)
      have oz7 : ∀ x, x < w.heap.size → o7 x = 0 := fun x hx => (hE7 x (Nat.lt_of_lt_of_le hx hB6.size)).trans (oz5 x hx)
      have hB7 : Below w.heap.size w w7 := hB6.trans ⟨hC7.os, hC7.tape, hC7.output, hC7.size, fun x hx => hC7.block x (Nat.lt_of_lt_of_le hx hB6.size) (fun e => by have := oz5 x hx; omega)⟩
      clear hD7 hE7 hE7' hC7 HS6 hB6 oz5
      go_wp2_with fail
      repeat (go_big_quiet_step (fail))
      refine wpQuiet_nil ?_
      go_wp2_with fail
      have INQ : Hid (∃ o, (∀ x, x < w.heap.size → o x = 0) ∧ St b f pb wh mb t am bm sv sm pm hm cn cm r k s xb tb lb wb 3 3 (Tq 2 1) (Tq 2 1) o w7 ∧ Below w.heap.size w w7) := ⟨o7, oz7, HS7.out, hB7⟩
      clear HS7 oz7 hB7
      go_loopw [17] (fun kq wr => ∃ q : Nat, 1 ≤ q ∧ q ≤ 3 ∧ kq = .int .i64 (q : Int) ∧ Hid (∃ o, (∀ x, x < w.heap.size → o x = 0) ∧ St b f pb wh mb t am bm sv sm pm hm cn cm r k s xb tb lb wb 3 3 (Tq 2 q) (Tq 2 q) o wr ∧ Below w.heap.size w wr)) (fun kq _ => 3 - (intOf kq).toNat)
      case atStart => exact ⟨1, by omega, by omega, rfl, INQ.out⟩
      case round =>
        obtain ⟨q, hq1, hq3, rfl, HS⟩ := hrel
        have hq' : q = 1 ∨ q = 2 ∨ q = 3 := by omega
        clear hq1 hq3 INQ
        rcases hq' with rfl | rfl | rfl
        · obtain ⟨o8, oz8, hS8, hB8⟩ := HS.out
          have hX := Has.new wr #[.int .i64 1, .int .u32 51, .int .i64 8080] 68
          have g8 : GG wr (wr.alloc (.cells #[.int .i64 1, .int .u32 51, .int .i64 8080] 68)) := (GG.refl _).alloc _
          have hS9 := (hS8.stepB (by decide) (hS8.bal.re (o' := owner o8 wr.heap.size 31) (fun c hc => own_lt hc)) (fun c hc => own_lt hc) (Chg.refl _ _)).below g8
          have ob : owner o8 wr.heap.size 31 wr.heap.size = 31 := own_back (Nat.le_refl _)
          have oz9 : ∀ x, x < w.heap.size → owner o8 wr.heap.size 31 x = 0 := fun x hx => (own_lt (Nat.lt_of_lt_of_le hx hB8.size)).trans (oz8 x hx)
          have hB9 : Below w.heap.size w (wr.alloc (.cells #[.int .i64 1, .int .u32 51, .int .i64 8080] 68)) := hB8.trans (Below.mono g8 hB8.size)
          obtain ⟨o9, ho9⟩ : ∃ O, O = owner o8 wr.heap.size 31 := ⟨_, rfl⟩
          rw [← ho9] at hS9 ob oz9
          have HV := Lib.hid (badd1_c o9 b f sv sm pm hm cn cm r k 3 0 3 (Tq 2 1) (by decide) (by decide) (by decide) (Tq_at 2 1 (by decide)) _ hS9.bal)
          have HS9 := Lib.hid hS9
          have HB9 := Lib.hid hB9
          clear ho9 hS8 oz8 hB8 hS9 hB9 HS g8
          go_wp2_with fail
          obtain ⟨w8, hw⟩ : ∃ W, W = wr.alloc (.cells #[.int .i64 1, .int .u32 51, .int .i64 8080] 68) := ⟨_, rfl⟩
          obtain ⟨bq, hbq⟩ : ∃ B, B = wr.heap.size := ⟨_, rfl⟩
          rw [← hw] at hX HV HS9 HB9 ⊢
          rw [← hbq] at hX ob ⊢
          clear hw hbq
          refine HV.out.mono ?_
          clear HV
          rintro e w9 ⟨o10, rfl, hE, hBn, hC⟩
          rw [Tq_set 2 1 (by decide) (by decide)] at hBn
          have hS10 := HS9.out.stepB (by decide) hBn hE.1 hC
          have hX10 := hX.chg hC (fun e => by omega)
          have hBs := HB9.out
          have oz10 : ∀ x, x < w.heap.size → o10 x = 0 := fun x hx => (hE.1 x (Nat.lt_of_lt_of_le hx hBs.size)).trans (oz9 x hx)
          have hB10 : Below w.heap.size w w9 := hBs.trans ⟨hC.os, hC.tape, hC.output, hC.size, fun x hx => hC.block x (Nat.lt_of_lt_of_le hx hBs.size) (fun e => by have := oz9 x hx; omega)⟩
          have HV := Lib.hid (dadd1_c o10 xb tb 3 3 (Tq 2 1) (by decide) (by decide) (by decide) (Tq_at 2 1 (by decide)) w9 hS10.dx)
          have HS10 := Lib.hid hS10
          have HB10 := Lib.hid hB10
          have x0 := (hX10.cell 0).trans rfl
          have x1 := (hX10.cell 1).trans rfl
          have x2 := (hX10.cell 2).trans rfl
          clear hS10 hB10 hBs hE hBn hC hX HS9 HB9 hX10 oz9 ob
          go_wp2_with fail
          refine HV.out.mono ?_
          clear HV x0 x1 x2
          rintro e w10 ⟨rfl, o11, hE, hE', hDn, hC⟩
          rw [Tq_set 2 1 (by decide) (by decide)] at hDn
          have hBs := HB10.out
          have FIN : Hid (∃ o, (∀ x, x < w.heap.size → o x = 0) ∧ St b f pb wh mb t am bm sv sm pm hm cn cm r k s xb tb lb wb 3 3 (Tq 2 2) (Tq 2 2) o w10 ∧ Below w.heap.size w w10) := ⟨o11, fun x hx => (hE x (Nat.lt_of_lt_of_le hx hBs.size)).trans (oz10 x hx), HS10.out.stepD (by decide) hDn hE hC, hBs.trans ⟨hC.os, hC.tape, hC.output, hC.size, fun x hx => hC.block x (Nat.lt_of_lt_of_le hx hBs.size) (fun e => by have := oz10 x hx; omega)⟩⟩
          clear HS10 HB10 hBs hE hE' hDn hC oz10
          go_wp2_with fail
          go_roundw
          case rel => exact ⟨2, by omega, by omega, by first | rfl | simp, FIN.out⟩
          case measure => simp [intOf]
        · obtain ⟨o8, oz8, hS8, hB8⟩ := HS.out
          have hX := Has.new wr #[.int .i64 2, .int .u32 52, .int .i64 8080] 68
          have g8 : GG wr (wr.alloc (.cells #[.int .i64 2, .int .u32 52, .int .i64 8080] 68)) := (GG.refl _).alloc _
          have hS9 := (hS8.stepB (by decide) (hS8.bal.re (o' := owner o8 wr.heap.size 31) (fun c hc => own_lt hc)) (fun c hc => own_lt hc) (Chg.refl _ _)).below g8
          have ob : owner o8 wr.heap.size 31 wr.heap.size = 31 := own_back (Nat.le_refl _)
          have oz9 : ∀ x, x < w.heap.size → owner o8 wr.heap.size 31 x = 0 := fun x hx => (own_lt (Nat.lt_of_lt_of_le hx hB8.size)).trans (oz8 x hx)
          have hB9 : Below w.heap.size w (wr.alloc (.cells #[.int .i64 2, .int .u32 52, .int .i64 8080] 68)) := hB8.trans (Below.mono g8 hB8.size)
          obtain ⟨o9, ho9⟩ : ∃ O, O = owner o8 wr.heap.size 31 := ⟨_, rfl⟩
          rw [← ho9] at hS9 ob oz9
          have HV := Lib.hid (badd2_c o9 b f sv sm pm hm cn cm r k 3 0 3 (Tq 2 2) (by decide) (by decide) (by decide) (Tq_at 2 2 (by decide)) _ hS9.bal)
          have HS9 := Lib.hid hS9
          have HB9 := Lib.hid hB9
          clear ho9 hS8 oz8 hB8 hS9 hB9 HS g8
          go_wp2_with fail
          obtain ⟨w8, hw⟩ : ∃ W, W = wr.alloc (.cells #[.int .i64 2, .int .u32 52, .int .i64 8080] 68) := ⟨_, rfl⟩
          obtain ⟨bq, hbq⟩ : ∃ B, B = wr.heap.size := ⟨_, rfl⟩
          rw [← hw] at hX HV HS9 HB9 ⊢
          rw [← hbq] at hX ob ⊢
          clear hw hbq
          refine HV.out.mono ?_
          clear HV
          rintro e w9 ⟨o10, rfl, hE, hBn, hC⟩
          rw [Tq_set 2 2 (by decide) (by decide)] at hBn
          have hS10 := HS9.out.stepB (by decide) hBn hE.1 hC
          have hX10 := hX.chg hC (fun e => by omega)
          have hBs := HB9.out
          have oz10 : ∀ x, x < w.heap.size → o10 x = 0 := fun x hx => (hE.1 x (Nat.lt_of_lt_of_le hx hBs.size)).trans (oz9 x hx)
          have hB10 : Below w.heap.size w w9 := hBs.trans ⟨hC.os, hC.tape, hC.output, hC.size, fun x hx => hC.block x (Nat.lt_of_lt_of_le hx hBs.size) (fun e => by have := oz9 x hx; omega)⟩
          have HV := Lib.hid (dadd2_c o10 xb tb 3 3 (Tq 2 2) (by decide) (by decide) (by decide) (Tq_at 2 2 (by decide)) w9 hS10.dx)
          have HS10 := Lib.hid hS10
          have HB10 := Lib.hid hB10
          have x0 := (hX10.cell 0).trans rfl
          have x1 := (hX10.cell 1).trans rfl
          have x2 := (hX10.cell 2).trans rfl
          clear hS10 hB10 hBs hE hBn hC hX HS9 HB9 hX10 oz9 ob
          go_wp2_with fail
          refine HV.out.mono ?_
          clear HV x0 x1 x2
          rintro e w10 ⟨rfl, o11, hE, hE', hDn, hC⟩
          rw [Tq_set 2 2 (by decide) (by decide)] at hDn
          have hBs := HB10.out
          have FIN : Hid (∃ o, (∀ x, x < w.heap.size → o x = 0) ∧ St b f pb wh mb t am bm sv sm pm hm cn cm r k s xb tb lb wb 3 3 (Tq 2 3) (Tq 2 3) o w10 ∧ Below w.heap.size w w10) := ⟨o11, fun x hx => (hE x (Nat.lt_of_lt_of_le hx hBs.size)).trans (oz10 x hx), HS10.out.stepD (by decide) hDn hE hC, hBs.trans ⟨hC.os, hC.tape, hC.output, hC.size, fun x hx => hC.block x (Nat.lt_of_lt_of_le hx hBs.size) (fun e => by have := oz10 x hx; omega)⟩⟩
          clear HS10 HB10 hBs hE hE' hDn hC oz10
          go_wp2_with fail
          go_roundw
          case rel => exact ⟨3, by omega, by omega, by first | rfl | simp, FIN.out⟩
          case measure => simp [intOf]
        · go_wp2_with fail
          go_roundw
          case rel => exact ⟨3, by omega, by first | rfl | simp, HS.out⟩
          case measure => simp [intOf]
    · have HS := Lib.hid hS
      have l0 : wr.cell? ⟨lb, 15, none⟩ = some (.int .i64 17) := (hS.hl.cell 15).trans rfl
      have l1 : wr.cell? ⟨lb, 16, none⟩ = some (.int .u32 102) := (hS.hl.cell 16).trans rfl
      have l2 : wr.cell? ⟨lb, 17, none⟩ = some (.int .i64 9) := (hS.hl.cell 17).trans rfl
      have l3 : wr.cell? ⟨lb, 18, none⟩ = some (.bool false) := (hS.hl.cell 18).trans rfl
      have l4 : wr.cell? ⟨lb, 19, none⟩ = some (.int .u32 201) := (hS.hl.cell 19).trans rfl
      have HV := Lib.hid (bserve4_c o b f sv sm pm hm cn cm r k 0 (Tn 3) (Tn_at _ _ (by decide)) wr hS.bal)
      clear hS
      go_wp2_with fail
      refine HV.out.mono ?_
      clear HV l0 l1 l2 l3 l4
      rintro e w5 ⟨o5, rfl, hE5, hB5, hC5⟩
      have hS5 := HS.out.stepB (by decide) hB5 hE5.1 hC5
      have oz5 : ∀ x, x < w.heap.size → o5 x = 0 := fun x hx => (hE5.1 x (Nat.lt_of_lt_of_le hx hB.size)).trans (oz x hx)
      have hBB : Below w.heap.size w w5 := hB.trans ⟨hC5.os, hC5.tape, hC5.output, hC5.size, fun x hx => hC5.block x (Nat.lt_of_lt_of_le hx hB.size) (fun e => by have := oz x hx; omega)⟩
      have HS5 := Lib.hid hS5
      clear hB5 hE5 hC5 HS hB oz hS5
      go_wp2_with fail
      have l0 : ∀ V : Gr w5, V.1.cell? ⟨lb, 15, none⟩ = some (.int .i64 17) := fun V => ((V.has HS5.out.hl).cell 15).trans rfl
      have l1 : ∀ V : Gr w5, V.1.cell? ⟨lb, 16, none⟩ = some (.int .u32 102) := fun V => ((V.has HS5.out.hl).cell 16).trans rfl
      have l2 : ∀ V : Gr w5, V.1.cell? ⟨lb, 17, none⟩ = some (.int .i64 9) := fun V => ((V.has HS5.out.hl).cell 17).trans rfl
      have l3 : ∀ V : Gr w5, V.1.cell? ⟨lb, 18, none⟩ = some (.bool false) := fun V => ((V.has HS5.out.hl).cell 18).trans rfl
      have l4 : ∀ V : Gr w5, V.1.cell? ⟨lb, 19, none⟩ = some (.int .u32 201) := fun V => ((V.has HS5.out.hl).cell 19).trans rfl
      refine wp_region_grows_mid 27 (by kernel_rfl) (by kernel_rfl) ?_
      simp only [List.take_succ_cons, List.take_zero, List.drop_succ_cons, List.drop_zero]
      repeat (go_big_quiet_step (fail))
      refine wpQuiet_nil ?_
      intro V
      have HS6 := Lib.hid (HS5.out.below V.2)
      have hB6 := hBB.trans (V.2.mono hBB.size)
      clear l0 l1 l2 l3 l4 HS5 hBB
      obtain ⟨w6, hw⟩ : ∃ W, W = V.1 := ⟨_, rfl⟩
      rw [← hw] at HS6 hB6 ⊢
      clear hw V
      have HV := Lib.hid (dserve4_c o5 xb tb (Tn 3) (Tn_at _ _ (by decide)) w6 HS6.out.dx)
      go_wp2_with fail
      refine HV.out.mono ?_
      clear HV
      rintro e w7 ⟨rfl, o7, hE7, hE7', hD7, hC7⟩
      have HS7 := Lib.hid (HS6.out.stepD (by decide) hD7 hE7 hC7)
      have oz7 : ∀ x, x < w.heap.size → o7 x = 0 := fun x hx => (hE7 x (Nat.lt_of_lt_of_le hx hB6.size)).trans (oz5 x hx)
      have hB7 : Below w.heap.size w w7 := hB6.trans ⟨hC7.os, hC7.tape, hC7.output, hC7.size, fun x hx => hC7.block x (Nat.lt_of_lt_of_le hx hB6.size) (fun e => by have := oz5 x hx; omega)⟩
      clear hD7 hE7 hE7' hC7 HS6 hB6 oz5
      go_wp2_with fail
      repeat (go_big_quiet_step (fail))
      refine wpQuiet_nil ?_
      go_wp2_with fail
      have HO := Lib.hid oz7
      have HBB := Lib.hid hB7
      clear oz7 hB7
      go_loopw [17] (fun kq wr => kq = .int .i64 1 ∧ wr = w7) (fun _ _ => 0)
      case atStart => exact ⟨rfl, rfl⟩
      case round =>
        obtain ⟨rfl, rfl⟩ := hrel
        go_wp2_with fail
        go_roundw
        case rel => exact ⟨4, by omega, by first | rfl | simp, o7, HO.out, by rw [← Tn_last]; exact HS7.out, HBB.out⟩
        case measure => simp [intOf]
    · have FIN : Hid (Begun r k s wb w wr) := ⟨b, f, pb, wh, mb, t, am, bm, sv, sm, pm, hm, cn, cm, xb, tb, lb, o, oz, hS, hB⟩
      clear oz hS hB
      go_wp2_with fail
      go_ret2
      exact ⟨wb, rfl, FIN.out⟩
end Go.Proofs.YtngdebpaheejlaaGreatDoor
