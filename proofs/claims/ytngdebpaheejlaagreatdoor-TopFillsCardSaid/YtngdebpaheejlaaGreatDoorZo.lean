/- The flows: New. The balancer (chapter 23): what stands in memory; New; counts' Add anew. -/
import Derived.Test.YtngdebpaheejlaaGreatDoorFO
import Derived.Test.YtngdebpaheejlaaGreatDoorZi
import Derived.Test.YtngdebpaheejlaaGreatDoorZj
import Derived.Test.YtngdebpaheejlaaGreatDoorZk
namespace Go.Proofs.YtngdebpaheejlaaGreatDoor
open Go.RowKit Go.Shelf
set_option linter.unusedSimpArgs false
set_option linter.unusedVariables false
set_option maxRecDepth 100000 in
set_option maxHeartbeats 6400000 in
theorem fnew_c (o : Nat → Nat) (h0 : o 0 = 0) (r k s : Nat) (hs : s = 5 ∨ s = 20) (h1 : 1 ≤ r) (h2 : r ≤ 40) (h3 : 1 ≤ k) (h4 : k ≤ 30) (w : World) (hT : CU.Tab w) :
    Calls Tryz.prog 28 #[.agg #[.int .i64 (r : Int), .int .i64 2000, .int .i64 (k : Int), .int .i64 10, .int .i64 5, .int .i64 50, .int .i64 9, .int .i64 7, .int .i64 20]] w fun e w' => ∃ f pb wh mb t am bm o', e = .returned (.tuple #[.pointer (some ⟨f, 0, none⟩), .int .i64 0]) ∧ Ext (fun c => 1 ≤ c ∧ c ≤ 5) o o' w.heap.size ∧ (∀ kv, Flw o' w' f pb wh mb t am bm k r s 0 0 0 kv (fun _ => none) (fun _ => none) zero25) ∧ Below w.heap.size w w' := by
  have l0 : 0 < w.heap.size := by
    have := hT 0 (by decide)
    rcases Nat.eq_zero_or_pos w.heap.size with q | q
    · simp [World.cell?, Array.getElem?_eq_none (show w.heap.size ≤ 0 by omega)] at this
    · exact q
  have hX := Has.new w #[.int .i64 (r : Int), .int .i64 2000, .int .i64 (k : Int), .int .i64 10, .int .i64 5, .int .i64 50, .int .i64 9, .int .i64 7, .int .i64 20] 48
  have b1 := (Below.refl w.heap.size w).alloc (Nat.le_refl _) (.cells #[.int .i64 (r : Int), .int .i64 2000, .int .i64 (k : Int), .int .i64 10, .int .i64 5, .int .i64 50, .int .i64 9, .int .i64 7, .int .i64 20] 48)
  have z1 : (w.alloc (.cells #[.int .i64 (r : Int), .int .i64 2000, .int .i64 (k : Int), .int .i64 10, .int .i64 5, .int .i64 50, .int .i64 9, .int .i64 7, .int .i64 20] 48)).heap.size = w.heap.size + 1 := by simp
  go_enter Tryz.func28, Tryz.ntmps28
  go_wp2_with fail
  generalize w.alloc (.cells #[.int .i64 (r : Int), .int .i64 2000, .int .i64 (k : Int), .int .i64 10, .int .i64 5, .int .i64 50, .int .i64 9, .int .i64 7, .int .i64 20] 48) = w1 at hX b1 z1 ⊢
  obtain ⟨bx, hbx⟩ : ∃ b, b = w.heap.size := ⟨_, rfl⟩
  rw [← hbx] at hX ⊢
  have HBX := Lib.hid hbx
  clear hbx
  have x0 := (hX.cell 0).trans rfl
  have x1 := (hX.cell 1).trans rfl
  have x2 := (hX.cell 2).trans rfl
  have x3 := (hX.cell 3).trans rfl
  have x4 := (hX.cell 4).trans rfl
  have x5 := (hX.cell 5).trans rfl
  have x6 := (hX.cell 6).trans rfl
  have x7 := (hX.cell 7).trans rfl
  have x8 := (hX.cell 8).trans rfl
  have HT := Lib.hid (twnew_c r h1 (by omega) w1)
  go_wp2_with fail
  refine HT.out.mono ?_
  rintro e w2 ⟨t, am, bm, rfl, hT2, b2⟩
  clear HT x0 x1 x2 x3 x4 x5 x6 x7 x8
  have hX2 := hX.below b2
  have x0 := (hX2.cell 0).trans rfl
  have x1 := (hX2.cell 1).trans rfl
  have x2 := (hX2.cell 2).trans rfl
  have x3 := (hX2.cell 3).trans rfl
  have x4 := (hX2.cell 4).trans rfl
  have x5 := (hX2.cell 5).trans rfl
  have x6 := (hX2.cell 6).trans rfl
  have x7 := (hX2.cell 7).trans rfl
  have x8 := (hX2.cell 8).trans rfl
  have HT := Lib.hid (ptnew_c k h3 h4 w2)
  go_wp2_with fail
  refine HT.out.mono ?_
  rintro e w3 ⟨pb, pm, rfl, hP3, hK3, hp3, b3⟩
  clear HT x0 x1 x2 x3 x4 x5 x6 x7 x8 hX
  have hX3 := hX2.below b3
  have x0 := (hX3.cell 0).trans rfl
  have x1 := (hX3.cell 1).trans rfl
  have x2 := (hX3.cell 2).trans rfl
  have x3 := (hX3.cell 3).trans rfl
  have x4 := (hX3.cell 4).trans rfl
  have x5 := (hX3.cell 5).trans rfl
  have x6 := (hX3.cell 6).trans rfl
  have x7 := (hX3.cell 7).trans rfl
  have x8 := (hX3.cell 8).trans rfl
  have HT : Hid (Calls Tryz.prog 58 #[.agg #[.int .i64 5, .int .i64 50, .int .i64 9, .int .i64 7, .int .i64 20]] w3 fun e w' => e = .returned (.bool true) ∧ Below w3.heap.size w3 w') := tright_c 5 50 9 7 20 w3
  go_wp2_with fail
  refine HT.out.mono ?_
  rintro e w4 ⟨rfl, b4⟩
  clear HT x0 x1 x2 x3 x4 x5 x6 x7 x8 hX2
  have hX4 := hX3.below b4
  clear hX3
  go_wp2_with fail
  have KA : Hid (∀ W, Below w4.heap.size w4 W → W.cell? ⟨bx, 0, none⟩ = some (.int .i64 (r : Int)) ∧ W.cell? ⟨bx, 4, none⟩ = some (.int .i64 5) ∧ W.cell? ⟨bx, 5, none⟩ = some (.int .i64 50) ∧ W.cell? ⟨bx, 6, none⟩ = some (.int .i64 9) ∧ W.cell? ⟨bx, 7, none⟩ = some (.int .i64 7) ∧ W.cell? ⟨bx, 8, none⟩ = some (.int .i64 20)) := fun W hW => by
    have x := hX4.below hW
    exact ⟨(x.cell 0).trans rfl, (x.cell 4).trans rfl, (x.cell 5).trans rfl, (x.cell 6).trans rfl, (x.cell 7).trans rfl, (x.cell 8).trans rfl⟩
  have HW : Hid (∀ W, Calls Tryz.prog 59 #[] W fun e w' => ∃ b mb, e = .returned (.pointer (some ⟨b, 0, none⟩)) ∧ Whl (fun b => W.heap.size ≤ b) w' b mb 0 0 s ∧ Below W.heap.size W w') := fun W => wnew_c s hs W
  go_region_held3 (fun W => W.cell? ⟨bx, 0, none⟩ = some (.int .i64 (r : Int)) ∧ W.cell? ⟨bx, 4, none⟩ = some (.int .i64 5) ∧ W.cell? ⟨bx, 5, none⟩ = some (.int .i64 50) ∧ W.cell? ⟨bx, 6, none⟩ = some (.int .i64 9) ∧ W.cell? ⟨bx, 7, none⟩ = some (.int .i64 7) ∧ W.cell? ⟨bx, 8, none⟩ = some (.int .i64 20)) (first | exact KA.out _ ((Below.refl _ _).drew) | exact KA.out _ ((Below.refl w4.heap.size w4).drew.trans bN) | exact KA.out _ (((Below.refl w4.heap.size w4).drew.trans bN).alloc bN.size _)) ((go_at_call 59; refine (HW.out _).mono ?_; rintro _ wN ⟨wh, mb, rfl, hWN, bN⟩))
  all_goals
    have B3 : Below w2.heap.size w2 w3 := b3
    have s1 : w.heap.size + 1 ≤ w2.heap.size := by have := b2.size; omega
    have s2 := b3.size
    have s3 := b4.size
    have s4 : w4.heap.size ≤ wN.heap.size := bN.size
    obtain ⟨o', ho⟩ : ∃ o' : Nat → Nat, o' = fun b => if b < w.heap.size then o b else if b < w2.heap.size then 4 else if b < w3.heap.size then 2 else if b < wN.heap.size then 3 else 1 := ⟨_, rfl⟩
    have oe : ∀ b, o' b = if b < w.heap.size then o b else if b < w2.heap.size then 4 else if b < w3.heap.size then 2 else if b < wN.heap.size then 3 else 1 := fun b => by rw [ho]
    have K3 : Below w3.heap.size w3 (wN.alloc (.cells #[.int .i64 5, .int .i64 50, .int .i64 9, .int .i64 7, .int .i64 20, .pointer (some ⟨pb, 0, none⟩), .pointer (some ⟨wh, 0, none⟩), .pointer (some ⟨t, 0, none⟩), .int .i64 (r : Int)] 95)) := (b4.drew.trans (bN.mono s3)).alloc (by omega) _
    have K2 := b3.trans (K3.mono s2)
    have K1 := b2.trans (K2.mono (by omega))
    have K0 := b1.trans (K1.mono b1.size)
    have FIN : Hid (∀ kv, Flw o' (wN.alloc (.cells #[.int .i64 5, .int .i64 50, .int .i64 9, .int .i64 7, .int .i64 20, .pointer (some ⟨pb, 0, none⟩), .pointer (some ⟨wh, 0, none⟩), .pointer (some ⟨t, 0, none⟩), .int .i64 (r : Int)] 95)) wN.heap.size pb wh mb t am bm k r s 0 0 0 kv (fun _ => none) (fun _ => none) zero25) := fun kv => by
      refine ⟨?_, ?_, Tab_keep hT (K0.block 0 l0), Has.new _ _ _, .inl ⟨rfl, pm, 0, _, by omega, ?_, hP3.below K3, (hK3.cut.mono fun b hb => ?_).keep (KeepM.below K3), rfl⟩, (hWN.cut.mono fun b hb => ?_).keep (KeepM.alloc _ _ _), (hT2.cut.mono fun b hb => ?_).keep (KeepM.below K2)⟩
      · rw [oe, if_neg (by omega), if_neg (by omega), if_neg (by omega), if_neg (by omega)]
      · rw [oe, if_pos l0, h0]
      · have := hP3.lt
        show o' pb = 2
        rw [oe, if_neg (by omega), if_neg (by omega), if_pos (by omega)]
      · have h1 : w2.heap.size ≤ b := hb.1
        have h2 := hb.2
        show o' b = 2
        rw [oe, if_neg (by omega), if_neg (by omega), if_pos (by omega)]
      · have h1 : w4.heap.size ≤ b := hb.1
        have h2 := hb.2
        show o' b = 3
        rw [oe, if_neg (by omega), if_neg (by omega), if_neg (by omega), if_pos (by omega)]
      · have h1 : w1.heap.size ≤ b := hb.1
        have h2 := hb.2
        show o' b = 4
        rw [oe, if_neg (by omega), if_pos (by omega)]
    have EX : Hid (Ext (fun c => 1 ≤ c ∧ c ≤ 5) o o' w.heap.size) := by
      refine ⟨fun b hb => by rw [oe, if_pos hb], fun b hb => ?_⟩
      rw [oe, if_neg (by omega)]
      split
      · omega
      · split
        · omega
        · split <;> omega
    have K0 := Lib.hid K0
    clear KA hX4 hP3 hK3 hT2 ho oe K1 K2 K3
    go_wp2_with fail
    go_ret2
    first
      | exact ⟨_, rfl, ⟨_, _, _, _, _, _, _, EX.out, FIN.out⟩, K0.out⟩
      | exact ⟨_, rfl, _, _, _, _, _, _, _, EX.out, FIN.out, K0.out⟩
      | done
end Go.Proofs.YtngdebpaheejlaaGreatDoor
namespace Go.Proofs.YtngdebpaheejlaaGreatDoor
open Go.RowKit Go.Shelf
set_option linter.unusedSimpArgs false
set_option linter.unusedVariables false
def kk : List Nat := [102, 101, 100, 99, 98, 97, 57, 56, 55, 54, 53, 52, 51, 50, 49, 48]
/-- A world that grew out of another one. -/
def GG (w w' : World) : Prop := Below w.heap.size w w'
theorem GG.refl (w : World) : GG w w := Below.refl _ _
theorem GG.step {a b c : World} (h : GG a b) (k : Below b.heap.size b c) : GG a c := Below.trans h (k.mono h.size)
theorem GG.trans {a b c : World} (h : GG a b) (k : GG b c) : GG a c := GG.step h k
theorem GG.alloc {a b : World} (h : GG a b) (o : Obj) : GG a (b.alloc o) := h.step ((Below.refl _ _).alloc (Nat.le_refl _) _)
theorem GG.drew {a b : World} (h : GG a b) : GG a b.drew := Below.drew h
/-- The counts with the world's turn told. -/
theorem cadd_g (cb mb hi : Nat) (f : Nat → Nat) (k : Nat) (hk : k < 22) (hh : hi < 65535) (w : World) (h : Ct w cb mb hi f) : Calls Tryz.prog 23 #[.pointer (some ⟨cb, 0, none⟩), .int .i64 k] w fun e w' => e = .returned (.bool true) ∧ Ct w' cb mb (hi + 1) (inc f k) ∧ Chg (fun b => b = cb ∨ b = mb) w w' := by
  have hl := h.head.lt
  have hm := h.mlt
  have HB : Hid (nameB k = true) := by show nameB k = true; unfold nameB; simp; omega
  have H := Lib.hid h
  have hsm := h.small k
  clear h
  go_enter Tryz.func23, Tryz.ntmps23
  go_wp2_with fail
  refine (cname_c k w).mono ?_
  rintro e w1 ⟨rfl, hb⟩
  rw [HB.out]
  have H1 := H.out.below hb
  have c0 := H1.head.cell 0
  have lk := H1.look k hk _ rfl
  obtain ⟨w2, hs, C2, ht⟩ := H1.add (by omega) k hk _ rfl
  generalize f k = v at lk hs hsm
  have hC := Lib.hid C2
  clear C2 H1
  go_wp2
  go_ret
  exact ⟨rfl, hC.out, (Chg.of_below hb).trans (Chg.turned ht (.inr rfl))⟩
/-- The balancer but its flows: m services, their pools in the states T, hi counted; o tells whose a block is (6 its own, 7 the services', 8 the pools' map, 9 the counts', 20 + j pool j's). -/
structure Bal (o : Nat → Nat) (w : World) (b f sv sm pm hm cn cm r k m hi : Nat) (T : Nat → Nat) : Prop where
  own : o b = 6
  op : o pm = 8
  oc : o cn = 9
  od : o cm = 9
  head : Has w b 81 #[.int .i64 (r : Int), .int .i64 2000, .int .i64 (k : Int), .int .i64 10, .int .i64 5, .int .i64 50, .int .i64 9, .int .i64 7, .int .i64 20, .string (bs kk), .int .i64 5, .pointer (some ⟨sv, 0, none⟩), .map (some pm), .pointer (some ⟨f, 0, none⟩), .map (some hm), .pointer (some ⟨cn, 0, none⟩)]
  svc : TblS (fun b => o b = 7) w sv sm m
  pls : ∃ n M, n ≤ m ∧ GMap Tryz.prog w 3 pm n M ∧ ∀ j, 1 ≤ j → j ≤ m → ∃ p ab am om, M (.int .i64 (j : Int)) = some (.pointer (some ⟨p, 0, none⟩)) ∧ PoolS (fun b => o b = 20 + j) w p (T j) (bs kk) ab am om
  cts : ∃ fc, Ct w cn cm hi fc
section
variable {o : Nat → Nat} {w w' : World} {b f sv sm pm hm cn cm r k m hi : Nat} {T : Nat → Nat}
theorem Bal.keep (h : Bal o w b f sv sm pm hm cn cm r k m hi T) (hk : ∀ c, c < w.heap.size → 6 ≤ o c → o c ≤ 20 + m → w'.heap[c]? = w.heap[c]?) : Bal o w' b f sv sm pm hm cn cm r k m hi T := by
  obtain ⟨h1, h2, h3, h4, h5, h6, ⟨n, M, p1, p2, p3⟩, fc, h8⟩ := h
  refine ⟨h1, h2, h3, h4, (hk b h5.lt (by omega) (by omega)).trans h5, h6.keep (fun c hc e => hk c hc (by omega) (by omega)), ⟨n, M, p1, p2.of_block (hk pm p2.lt (by omega) (by omega)), fun j j1 j2 => ?_⟩, fc, h8.of_blocks (hk cn h8.head.lt (by omega) (by omega)) (hk cm h8.mlt (by omega) (by omega))⟩
  obtain ⟨p, ab, am, om, q1, q2⟩ := p3 j j1 j2
  exact ⟨p, ab, am, om, q1, q2.keep (fun c hc e => hk c hc (by omega) (by omega))⟩
theorem Bal.below (h : Bal o w b f sv sm pm hm cn cm r k m hi T) (hb : Below w.heap.size w w') : Bal o w' b f sv sm pm hm cn cm r k m hi T := h.keep (fun c q _ _ => hb.block c q)
theorem Bal.re {o' : Nat → Nat} (h : Bal o w b f sv sm pm hm cn cm r k m hi T) (he : ∀ b, b < w.heap.size → o' b = o b) : Bal o' w b f sv sm pm hm cn cm r k m hi T := by
  obtain ⟨h1, h2, h3, h4, h5, h6, ⟨n, M, p1, p2, p3⟩, fc, h8⟩ := h
  refine ⟨(he b h5.lt).trans h1, (he pm p2.lt).trans h2, (he cn h8.head.lt).trans h3, (he cm h8.mlt).trans h4, h5, h6.cut.mono (fun c hc => (he c hc.2).trans hc.1), ⟨n, M, p1, p2, fun j j1 j2 => ?_⟩, fc, h8⟩
  obtain ⟨p, ab, am, om, q1, q2⟩ := p3 j j1 j2
  exact ⟨p, ab, am, om, q1, q2.cut.mono (fun c hc => (he c hc.2).trans hc.1)⟩
end
structure MkF (W W' : World) (b : Nat) : Prop where
  eq : b = W.heap.size
  sz : W'.heap.size = W.heap.size + 1
  bel : Below W.heap.size W W'
  gm : GMap Tryz.prog W' 3 b 0 (fun _ => none)
theorem mkF (W : World) : MkF W (W.alloc (.map #[] 0)) W.heap.size := ⟨rfl, by simp, (Below.refl _ _).alloc (Nat.le_refl _) _, GMap.made Tryz.prog W 3⟩
theorem mks (t : TypeId) : ∃ (mk : World → World) (mb : World → Nat), (∀ W, (Instr.makeMap t none).run Tryz.prog W = .ok (.map (some (mb W))) (mk W)) ∧ (∀ W, MkF W (mk W) (mb W)) :=
  ⟨fun W => W.alloc (.map #[] 0), fun W => W.heap.size, fun W => run_makeMap t W, mkF⟩
theorem GMap.grow {w w' : World} {K : TypeId} {b n : Nat} {M : Lit → Option Value} (h : GMap Tryz.prog w K b n M) (g : GG w w') : GMap Tryz.prog w' K b n M := h.of_block (Below.block g b h.lt)
theorem bal_leaf {o2 : Nat → Nat} {n0 ls : Nat} {wS wC W7 F0 : World} {sv sm pm hm cn cm f r k : Nat} {fc : Nat → Nat} (hS : TblS (fun b => ls ≤ b) wS sv sm 0) (gS : GG wS F0) (hC : Ct wC cn cm 0 fc) (gC : GG wC F0) (h7 : GMap Tryz.prog W7 3 pm 0 (fun _ => none)) (g7 : GG W7 F0) (n1 : n0 ≤ ls) (n2 : n0 ≤ pm) (n3 : n0 ≤ cn) (n4 : n0 ≤ cm) (n5 : n0 ≤ F0.heap.size)
    (d1 : pm < ls ∨ wS.heap.size ≤ pm) (d2 : cn < ls ∨ wS.heap.size ≤ cn) (d3 : cm < ls ∨ wS.heap.size ≤ cm) (d4 : pm ≠ cn) (d5 : pm ≠ cm) :
    ∃ o' : Nat → Nat, (∀ b, b < n0 → o' b = o2 b) ∧ (∀ b, n0 ≤ b → 1 ≤ o' b ∧ o' b ≤ 9) ∧ Bal o' (F0.alloc (.cells #[.int .i64 (r : Int), .int .i64 2000, .int .i64 (k : Int), .int .i64 10, .int .i64 5, .int .i64 50, .int .i64 9, .int .i64 7, .int .i64 20, .string (bs kk), .int .i64 5, .pointer (some ⟨sv, 0, none⟩), .map (some pm), .pointer (some ⟨f, 0, none⟩), .map (some hm), .pointer (some ⟨cn, 0, none⟩)] 81)) F0.heap.size f sv sm pm hm cn cm r k 0 0 (fun _ => 0) := by
  have p1 := (h7.grow g7).lt
  have p2 := (hC.below gC).head.lt
  have p3 := (hC.below gC).mlt
  have p4 : wS.heap.size ≤ F0.heap.size := gS.size
  obtain ⟨o', ho⟩ : ∃ o' : Nat → Nat, o' = fun b => if b < n0 then o2 b else if b = F0.heap.size then 6 else if b = pm then 8 else if b = cn ∨ b = cm then 9 else 7 := ⟨_, rfl⟩
  have oe : ∀ b, o' b = if b < n0 then o2 b else if b = F0.heap.size then 6 else if b = pm then 8 else if b = cn ∨ b = cm then 9 else 7 := fun b => by rw [ho]
  refine ⟨o', fun b hb => by rw [oe, if_pos hb], fun b hb => ?_, ⟨?_, ?_, ?_, ?_, Has.new _ _ _, ((hS.cut.mono fun b hb => ?_).keep (KeepM.below gS)).keep (KeepM.alloc _ _ _), ⟨0, _, Nat.le_refl _, (h7.grow g7).alloc _, fun j j1 j2 => by omega⟩, fc, (hC.below gC).below ((Below.refl _ _).alloc (Nat.le_refl _) _)⟩⟩
  · rw [oe, if_neg (by omega)]
    split
    · omega
    · split
      · omega
      · split <;> omega
  · rw [oe, if_neg (by omega), if_pos rfl]
  · rw [oe, if_neg (by omega), if_neg (by omega), if_pos rfl]
  · rw [oe, if_neg (by omega), if_neg (by omega), if_neg (by omega), if_pos (.inl rfl)]
  · rw [oe, if_neg (by omega), if_neg (by omega), if_neg (by omega), if_pos (.inr rfl)]
  · have h1 : ls ≤ b := hb.1
    have h2 := hb.2
    show o' b = 7
    rw [oe, if_neg (by omega), if_neg (by omega), if_neg (by omega), if_neg (by omega)]
/-- What New leaves. -/
def BNew (o : Nat → Nat) (w w' : World) (b r k s : Nat) : Prop := ∃ f pb wh mb t am bm sv sm pm hm cn cm o', Ext (fun c => 1 ≤ c ∧ c ≤ 9) o o' w.heap.size ∧ (∀ kv, Flw o' w' f pb wh mb t am bm k r s 0 0 0 kv (fun _ => none) (fun _ => none) zero25) ∧ Bal o' w' b f sv sm pm hm cn cm r k 0 0 (fun _ => 0) ∧ Below w.heap.size w w'
theorem bal_new {o o2 : Nat → Nat} {ls r k s : Nat} {w w3 wS wC W7 F0 : World} {sv sm pm hm cn cm f pb wh mb t am bm : Nat} {fc : Nat → Nat} (E3 : Ext (fun c => 1 ≤ c ∧ c ≤ 5) o o2 w.heap.size) (F3 : ∀ kv, Flw o2 w3 f pb wh mb t am bm k r s 0 0 0 kv (fun _ => none) (fun _ => none) zero25) (b4 : Below w.heap.size w w3) (g3 : GG w3 F0)
    (hS : TblS (fun b => ls ≤ b) wS sv sm 0) (hC : Ct wC cn cm 0 fc) (h7 : GMap Tryz.prog W7 3 pm 0 (fun _ => none)) (gS : GG wS F0) (gC : GG wC F0) (g7 : GG W7 F0) (n1 : w3.heap.size ≤ ls) (n2 : w3.heap.size ≤ pm) (n3 : w3.heap.size ≤ cn) (n4 : w3.heap.size ≤ cm)
    (d1 : pm < ls ∨ wS.heap.size ≤ pm) (d2 : cn < ls ∨ wS.heap.size ≤ cn) (d3 : cm < ls ∨ wS.heap.size ≤ cm) (d4 : pm ≠ cn) (d5 : pm ≠ cm) :
    BNew o w (F0.alloc (.cells #[.int .i64 (r : Int), .int .i64 2000, .int .i64 (k : Int), .int .i64 10, .int .i64 5, .int .i64 50, .int .i64 9, .int .i64 7, .int .i64 20, .string (bs kk), .int .i64 5, .pointer (some ⟨sv, 0, none⟩), .map (some pm), .pointer (some ⟨f, 0, none⟩), .map (some hm), .pointer (some ⟨cn, 0, none⟩)] 81)) F0.heap.size r k s := by
  obtain ⟨o', h1, h2, h3⟩ := bal_leaf (o2 := o2) (hm := hm) (f := f) (r := r) (k := k) hS gS hC gC h7 g7 n1 n2 n3 n4 g3.size d1 d2 d3 d4 d5
  have z := b4.size
  refine ⟨f, pb, wh, mb, t, am, bm, sv, sm, pm, hm, cn, cm, o', ⟨fun b hb => (h1 b (by omega)).trans (E3.1 b hb), fun b hb => ?_⟩, fun kv => ((F3 kv).re h1).below (GG.alloc g3 _), h3, b4.trans (Below.mono (GG.alloc g3 _) z)⟩
  by_cases e : b < w3.heap.size
  · rw [h1 b e]; have := E3.2 b hb; omega
  · exact h2 b (by omega)
set_option maxRecDepth 100000 in
set_option maxHeartbeats 6400000 in
theorem bnew_c (o : Nat → Nat) (h0 : o 0 = 0) (r k s : Nat) (hs : s = 5 ∨ s = 20) (h1 : 1 ≤ r) (h2 : r ≤ 40) (h3 : 1 ≤ k) (h4 : k ≤ 30) (w : World) (hT : CU.Tab w) :
    Calls Tryz.prog 12 #[.agg #[.int .i64 (r : Int), .int .i64 2000, .int .i64 (k : Int), .int .i64 10, .int .i64 5, .int .i64 50, .int .i64 9, .int .i64 7, .int .i64 20, .string (bs kk), .int .i64 5]] w fun e w' => ∃ b, e = .returned (.tuple #[.pointer (some ⟨b, 0, none⟩), .int .i64 0]) ∧ BNew o w w' b r k s := by
  have hk16 : (bs kk).size = 16 := by kernel_rfl
  obtain ⟨key, hkey⟩ : ∃ x, x = bs kk := ⟨_, rfl⟩
  have HK := Lib.hid hkey
  rw [← hkey] at hk16 ⊢
  have hX := Has.new w #[.int .i64 (r : Int), .int .i64 2000, .int .i64 (k : Int), .int .i64 10, .int .i64 5, .int .i64 50, .int .i64 9, .int .i64 7, .int .i64 20, .string key, .int .i64 5] 50
  have b1 := (Below.refl w.heap.size w).alloc (Nat.le_refl _) (.cells #[.int .i64 (r : Int), .int .i64 2000, .int .i64 (k : Int), .int .i64 10, .int .i64 5, .int .i64 50, .int .i64 9, .int .i64 7, .int .i64 20, .string key, .int .i64 5] 50)
  have l0 : 0 < w.heap.size := by
    have := hT 0 (by decide)
    rcases Nat.eq_zero_or_pos w.heap.size with q | q
    · simp [World.cell?, Array.getElem?_eq_none (show w.heap.size ≤ 0 by omega)] at this
    · exact q
  have hT1 : CU.Tab (w.alloc (.cells #[.int .i64 (r : Int), .int .i64 2000, .int .i64 (k : Int), .int .i64 10, .int .i64 5, .int .i64 50, .int .i64 9, .int .i64 7, .int .i64 20, .string key, .int .i64 5] 50)) := Tab_keep hT (b1.block 0 l0)
  clear hkey
  go_enter Tryz.func12, Tryz.ntmps12
  go_wp2_with fail
  generalize w.alloc (.cells #[.int .i64 (r : Int), .int .i64 2000, .int .i64 (k : Int), .int .i64 10, .int .i64 5, .int .i64 50, .int .i64 9, .int .i64 7, .int .i64 20, .string key, .int .i64 5] 50) = w1 at hX b1 hT1 ⊢
  obtain ⟨bx, hbx⟩ : ∃ b, b = w.heap.size := ⟨_, rfl⟩
  rw [← hbx] at hX ⊢
  have HBX := Lib.hid hbx
  clear hbx
  have x0 := (hX.cell 0).trans rfl
  have x1 := (hX.cell 1).trans rfl
  have x2 := (hX.cell 2).trans rfl
  have x3 := (hX.cell 3).trans rfl
  have x4 := (hX.cell 4).trans rfl
  have x5 := (hX.cell 5).trans rfl
  have x6 := (hX.cell 6).trans rfl
  have x7 := (hX.cell 7).trans rfl
  have x8 := (hX.cell 8).trans rfl
  have x9 := (hX.cell 9).trans rfl
  have x10 := (hX.cell 10).trans rfl
  have HT := Lib.hid (fnew_c (owner o w.heap.size 5) (by rw [own_lt l0]; exact h0) r k s hs h1 h2 h3 h4 w1 hT1)
  go_wp2_with fail
  refine HT.out.mono ?_
  rintro e w2 ⟨f, pb, wh, mb, t, am, bm, o2, rfl, E2, F2, b2⟩
  clear HT x0 x1 x2 x3 x4 x5 x6 x7 x8 x9 x10
  have hX := hX.below b2
  have x0 := (hX.cell 0).trans rfl
  have x1 := (hX.cell 1).trans rfl
  have x2 := (hX.cell 2).trans rfl
  have x3 := (hX.cell 3).trans rfl
  have x4 := (hX.cell 4).trans rfl
  have x5 := (hX.cell 5).trans rfl
  have x6 := (hX.cell 6).trans rfl
  have x7 := (hX.cell 7).trans rfl
  have x8 := (hX.cell 8).trans rfl
  have x9 := (hX.cell 9).trans rfl
  have x10 := (hX.cell 10).trans rfl
  have HT := Lib.hid (pnew_c key hk16 w2)
  go_wp2_with fail
  refine HT.out.mono ?_
  rintro e w3 ⟨p, pab, pam, pom, rfl, _, b3⟩
  clear HT x0 x1 x2 x3 x4 x5 x6 x7 x8 x9 x10
  have hX4 := hX.below b3
  have F3 := fun kv => (F2 kv).below b3
  have b4 := (b1.trans (b2.mono b1.size)).trans (b3.mono (by have := b1.size; have := b2.size; omega))
  have E3 : Ext (fun c => 1 ≤ c ∧ c ≤ 5) o o2 w.heap.size := ((own_ext o w.heap.size 5).mono (fun c e => by omega)).trans E2 b1.size
  clear hX F2 E2
  go_wp2_with fail
  have KA : Hid (∀ W, GG w3 W → W.cell? ⟨bx, 0, none⟩ = some (.int .i64 (r : Int)) ∧ W.cell? ⟨bx, 1, none⟩ = some (.int .i64 2000) ∧ W.cell? ⟨bx, 2, none⟩ = some (.int .i64 (k : Int)) ∧ W.cell? ⟨bx, 3, none⟩ = some (.int .i64 10) ∧ W.cell? ⟨bx, 4, none⟩ = some (.int .i64 5) ∧ W.cell? ⟨bx, 5, none⟩ = some (.int .i64 50) ∧ W.cell? ⟨bx, 6, none⟩ = some (.int .i64 9) ∧ W.cell? ⟨bx, 7, none⟩ = some (.int .i64 7) ∧ W.cell? ⟨bx, 8, none⟩ = some (.int .i64 20) ∧ W.cell? ⟨bx, 9, none⟩ = some (.string key) ∧ W.cell? ⟨bx, 10, none⟩ = some (.int .i64 5)) := fun W hW => by
    have x := hX4.below hW
    exact ⟨(x.cell 0).trans rfl, (x.cell 1).trans rfl, (x.cell 2).trans rfl, (x.cell 3).trans rfl, (x.cell 4).trans rfl, (x.cell 5).trans rfl, (x.cell 6).trans rfl, (x.cell 7).trans rfl, (x.cell 8).trans rfl, (x.cell 9).trans rfl, (x.cell 10).trans rfl⟩
  obtain ⟨mk7, mb7, r7, q7⟩ := mks 77
  obtain ⟨mk8, mb8, r8, q8⟩ := mks 78
  have g7 : ∀ {W : World}, GG w3 W → GG w3 (mk7 W) := fun h => h.step (q7 _).bel
  have g8 : ∀ {W : World}, GG w3 W → GG w3 (mk8 W) := fun h => h.step (q8 _).bel
  have Q7 := Lib.hid q7
  have Q8 := Lib.hid q8
  have HC := Lib.hid cnew_c
  have HS := Lib.hid snew_c
  clear q7 q8
  go_region_held3 (fun W => W.cell? ⟨bx, 0, none⟩ = some (.int .i64 (r : Int)) ∧ W.cell? ⟨bx, 1, none⟩ = some (.int .i64 2000) ∧ W.cell? ⟨bx, 2, none⟩ = some (.int .i64 (k : Int)) ∧ W.cell? ⟨bx, 3, none⟩ = some (.int .i64 10) ∧ W.cell? ⟨bx, 4, none⟩ = some (.int .i64 5) ∧ W.cell? ⟨bx, 5, none⟩ = some (.int .i64 50) ∧ W.cell? ⟨bx, 6, none⟩ = some (.int .i64 9) ∧ W.cell? ⟨bx, 7, none⟩ = some (.int .i64 7) ∧ W.cell? ⟨bx, 8, none⟩ = some (.int .i64 20) ∧ W.cell? ⟨bx, 9, none⟩ = some (.string key) ∧ W.cell? ⟨bx, 10, none⟩ = some (.int .i64 5)) ((exact KA.out _ (by repeat' (first | with_reducible exact GG.refl _ | with_reducible refine GG.alloc ?_ _ | with_reducible refine GG.drew ?_ | with_reducible refine g7 ?_ | with_reducible refine g8 ?_ | with_reducible refine GG.step ?_ bS | with_reducible refine GG.step ?_ bC)))) (first | (go_at_call 30; refine (HS.out _).mono ?_; rintro _ wS ⟨sv, sm, rfl, hS, bS⟩) | (go_at_call 31; refine (HC.out _).mono ?_; rintro _ wC ⟨rfl, hC, bC⟩))
  all_goals
    have e7 : ∀ W, mb7 W = W.heap.size := fun W => (Q7.out W).eq
    have e8 : ∀ W, mb8 W = W.heap.size := fun W => (Q8.out W).eq
    have s7 : ∀ W, (mk7 W).heap.size = W.heap.size + 1 := fun W => (Q7.out W).sz
    have s8 : ∀ W, (mk8 W).heap.size = W.heap.size + 1 := fun W => (Q8.out W).sz
    have z3 : w3.drew.heap.size = w3.heap.size := rfl
    have gg7 : ∀ {V W : World}, GG V W → GG V (mk7 W) := fun h => h.step (Q7.out _).bel
    have gg8 : ∀ {V W : World}, GG V W → GG V (mk8 W) := fun h => h.step (Q8.out _).bel
    have zS := bS.size
    have zC := bC.size
    have lC := hC.head.lt
    have lM := hC.mlt
    have key_eq := HK.out
    have FIN : Hid (∀ hm : Nat, True) := fun _ => trivial
    go_wp2_with fail
    go_ret2
    refine ⟨_, rfl, ?_⟩
    rw [key_eq]
    refine bal_new E3 F3 b4 ?_ hS hC (Q7.out _).gm ?_ ?_ ?_ ?_ ?_ ?_ ?_ ?_ ?_ ?_ ?_ ?_
    iterate 1 exact (by repeat' (first | with_reducible exact GG.refl _ | with_reducible refine GG.alloc ?_ _ | with_reducible refine GG.drew ?_ | with_reducible refine gg7 ?_ | with_reducible refine gg8 ?_ | with_reducible refine GG.step ?_ bS | with_reducible refine GG.step ?_ bC))
    iterate 3 exact (by repeat' (first | with_reducible exact GG.refl _ | with_reducible refine GG.alloc ?_ _ | with_reducible refine GG.drew ?_ | with_reducible refine gg7 ?_ | with_reducible refine gg8 ?_ | with_reducible refine GG.step ?_ bS | with_reducible refine GG.step ?_ bC))
    all_goals (clear F3 hS hC hX4 KA Q7 Q8 g7 g8 gg7 gg8 r7 r8; simp only [e7, e8, s7, s8, z3] at *; first | omega | done)
end Go.Proofs.YtngdebpaheejlaaGreatDoor
