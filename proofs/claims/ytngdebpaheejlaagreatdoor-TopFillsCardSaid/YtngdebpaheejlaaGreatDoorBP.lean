/- The balancer: open, of TCP. -/
import Derived.Test.YtngdebpaheejlaaGreatDoorZp
namespace Go.Proofs.YtngdebpaheejlaaGreatDoor
open Go.RowKit Go.Shelf
set_option linter.unusedSimpArgs false
set_option linter.unusedVariables false
set_option maxRecDepth 100000 in
set_option maxHeartbeats 6400000 in
theorem bopen6_c (o : Nat → Nat) (b f sv sm pm hm cn cm r k hi : Nat) (T : Nat → Nat) (hT : T 1 = 2) (pb wh mb t am bm i : Nat) (gA gB : Value → Option Value) (l : List Value) (cs cp : Nat) (L ttl : Int) (httl : 2 ≤ ttl) (h2 : cs < 4294967296) (h4 : cp < 65536)
    (hkA : (keyOf Tryz.prog 97 (.agg #[.int .i64 6, .int .u32 (cs : Int), .int .u32 100, .int .i64 (cp : Int), .int .i64 80])).isSome = true) (hkB : ∀ ad : Int, ad = 51 ∨ ad = 52 → (keyOf Tryz.prog 97 (.agg #[.int .i64 6, .int .u32 200, .int .u32 ad, .int .i64 (2000 + (i : Int)), .int .i64 8080])).isSome = true) (hkv : ∀ ad : Int, ad = 51 ∨ ad = 52 → (keyOf Tryz.prog 292 (.agg #[.int .i64 6, .int .u32 200, .int .u32 ad, .int .i64 8080])).isSome = true) (hnA : gA (.agg #[.int .i64 6, .int .u32 (cs : Int), .int .u32 100, .int .i64 (cp : Int), .int .i64 80]) = none) (hnB : ∀ ad : Int, ad = 51 ∨ ad = 52 → gB (.agg #[.int .i64 6, .int .u32 200, .int .u32 ad, .int .i64 (2000 + (i : Int)), .int .i64 8080]) = none) (hk1 : 1 ≤ k) (hk : k ≤ 30) (hr : r ≤ 40) (hik : i ≤ k) (hir : i ≤ r) (w : World)
    (hB : Bal o w b f sv sm pm hm cn cm r k 4 hi T) (hF : ∀ ad : Int, ad = 51 ∨ (2 = 2 ∧ ad = 52) → Flw o w f pb wh mb t am bm k r 5 i i i (.agg #[.int .i64 6, .int .u32 200, .int .u32 ad, .int .i64 8080]) gA gB l) :
    Calls Tryz.prog 47 #[.pointer (some ⟨b, 0, none⟩), .agg #[.int .i64 1, .int .i64 20, .int .i64 L, .int .i64 6, .int .u32 (cs : Int), .int .u32 100, .int .i64 (cp : Int), .int .i64 80, .int .i64 2, .int .i64 ttl, .int .u32 (cs : Int), .int .u32 100, .int .i64 0, .int .i64 0]] w fun e w' => ∃ o' bk ad, (ad = 51 ∨ (2 = 2 ∧ ad = 52)) ∧ Ext (fun c => 1 ≤ c ∧ c ≤ 5) o o' w.heap.size ∧ Chg (fun b => 1 ≤ o b ∧ o b ≤ 4) w w' ∧
      ((i = r ∧ e = .returned (.tuple #[.agg #[.int .i64 0, .int .u32 0, .int .u32 0, .int .i64 0, .int .i64 0, .int .i64 0, .int .u32 0, .int .u32 0, .int .i64 0, .int .i64 0, .int .i64 0, .int .i64 0, .int .i64 0, .bool false], .int .i64 16]) ∧ Flw o' w' f pb wh mb t am bm k r 5 i i i (.agg #[.int .i64 6, .int .u32 200, .int .u32 ad, .int .i64 8080]) gA gB l) ∨
       (i < r ∧ i = k ∧ e = .returned (.tuple #[.agg #[.int .i64 0, .int .u32 0, .int .u32 0, .int .i64 0, .int .i64 0, .int .i64 0, .int .u32 0, .int .u32 0, .int .i64 0, .int .i64 0, .int .i64 0, .int .i64 0, .int .i64 0, .bool false], .int .i64 17]) ∧ Flw o' w' f pb wh mb t am bm k r 5 i i i (.agg #[.int .i64 6, .int .u32 200, .int .u32 ad, .int .i64 8080]) gA gB l) ∨
       (i < r ∧ i < k ∧ e = .returned (.tuple #[.agg #[.int .i64 6, .int .u32 (cs : Int), .int .u32 100, .int .i64 (cp : Int), .int .i64 80, .int .i64 6, .int .u32 200, .int .u32 ad, .int .i64 (2000 + (i : Int)), .int .i64 8080, .int .i64 1, .int .i64 bk, .int .i64 1, .bool false], .int .i64 0]) ∧ Flw o' w' f pb wh mb t am bm k r 5 (i + 1) (i + 1) (i + 1) (.agg #[.int .i64 6, .int .u32 200, .int .u32 ad, .int .i64 8080]) (setK gA (.agg #[.int .i64 6, .int .u32 (cs : Int), .int .u32 100, .int .i64 (cp : Int), .int .i64 80]) (.int .i64 ((i : Int) + 1))) (setK gB (.agg #[.int .i64 6, .int .u32 200, .int .u32 ad, .int .i64 (2000 + (i : Int)), .int .i64 8080]) (.int .i64 ((i : Int) + 1))) (l ++ [.int .i64 6, .int .u32 (cs : Int), .int .u32 100, .int .i64 (cp : Int), .int .i64 80, .int .i64 6, .int .u32 200, .int .u32 ad, .int .i64 (2000 + (i : Int)), .int .i64 8080, .int .i64 6, .int .u32 (cs : Int), .int .u32 100, .int .i64 (cp : Int), .int .i64 80, .int .i64 6, .int .u32 200, .int .u32 ad, .int .i64 (2000 + (i : Int)), .int .i64 8080, .int .i64 1, .int .i64 bk, .int .i64 1, .bool false, .bool true]))) := by
  have b1 : GG w ((w.alloc (.cells #[.int .i64 1, .int .i64 20, .int .i64 L, .int .i64 6, .int .u32 (cs : Int), .int .u32 100, .int .i64 (cp : Int), .int .i64 80, .int .i64 2, .int .i64 ttl, .int .u32 (cs : Int), .int .u32 100, .int .i64 0, .int .i64 0] 137)).alloc (.cells #[.int .i64 0, .int .u32 0, .int .u32 0, .int .i64 0, .int .i64 0, .int .i64 0, .int .u32 0, .int .u32 0, .int .i64 0, .int .i64 0, .int .i64 0, .int .i64 0, .int .i64 0, .bool false] 99)) := ((GG.refl _).alloc _).alloc _
  have hX : Has ((w.alloc (.cells #[.int .i64 1, .int .i64 20, .int .i64 L, .int .i64 6, .int .u32 (cs : Int), .int .u32 100, .int .i64 (cp : Int), .int .i64 80, .int .i64 2, .int .i64 ttl, .int .u32 (cs : Int), .int .u32 100, .int .i64 0, .int .i64 0] 137)).alloc (.cells #[.int .i64 0, .int .u32 0, .int .u32 0, .int .i64 0, .int .i64 0, .int .i64 0, .int .u32 0, .int .u32 0, .int .i64 0, .int .i64 0, .int .i64 0, .int .i64 0, .int .i64 0, .bool false] 99)) w.heap.size 137 #[.int .i64 1, .int .i64 20, .int .i64 L, .int .i64 6, .int .u32 (cs : Int), .int .u32 100, .int .i64 (cp : Int), .int .i64 80, .int .i64 2, .int .i64 ttl, .int .u32 (cs : Int), .int .u32 100, .int .i64 0, .int .i64 0] := (Has.new w #[.int .i64 1, .int .i64 20, .int .i64 L, .int .i64 6, .int .u32 (cs : Int), .int .u32 100, .int .i64 (cp : Int), .int .i64 80, .int .i64 2, .int .i64 ttl, .int .u32 (cs : Int), .int .u32 100, .int .i64 0, .int .i64 0] 137).alloc _
  have hZ : Has ((w.alloc (.cells #[.int .i64 1, .int .i64 20, .int .i64 L, .int .i64 6, .int .u32 (cs : Int), .int .u32 100, .int .i64 (cp : Int), .int .i64 80, .int .i64 2, .int .i64 ttl, .int .u32 (cs : Int), .int .u32 100, .int .i64 0, .int .i64 0] 137)).alloc (.cells #[.int .i64 0, .int .u32 0, .int .u32 0, .int .i64 0, .int .i64 0, .int .i64 0, .int .u32 0, .int .u32 0, .int .i64 0, .int .i64 0, .int .i64 0, .int .i64 0, .int .i64 0, .bool false] 99)) (w.heap.size + 1) 99 #[.int .i64 0, .int .u32 0, .int .u32 0, .int .i64 0, .int .i64 0, .int .i64 0, .int .u32 0, .int .u32 0, .int .i64 0, .int .i64 0, .int .i64 0, .int .i64 0, .int .i64 0, .bool false] := has_made (by simp)
  have E1 := Lib.hid ((own_ext o w.heap.size 5).mono (D := fun c => 1 ≤ c ∧ c ≤ 5) (fun c e => by omega))
  have hB1 := (hB.re (o' := owner o w.heap.size 5) (fun b hb => own_lt hb)).below b1
  have hF1 := fun ad h => ((hF ad h).re (o' := owner o w.heap.size 5) (fun b hb => own_lt hb)).below b1
  obtain ⟨o1, ho1⟩ : ∃ O, O = owner o w.heap.size 5 := ⟨_, rfl⟩
  have HO1 : Hid (∀ b, w.heap.size ≤ b → o1 b = 5) := fun b hb => by rw [ho1]; exact own_back hb
  have HO2 : Hid (∀ b, b < w.heap.size → o1 b = o b) := fun b hb => by rw [ho1]; exact own_lt hb
  rw [← ho1] at hB1 hF1 E1
  have HF := Lib.hid hF1
  have HB := Lib.hid hB1
  clear hB hF ho1 hB1 hF1
  go_enter Tryz.func47, Tryz.ntmps47
  go_wp2_with fail
  obtain ⟨w1, hw⟩ : ∃ W, W = (w.alloc (.cells #[.int .i64 1, .int .i64 20, .int .i64 L, .int .i64 6, .int .u32 (cs : Int), .int .u32 100, .int .i64 (cp : Int), .int .i64 80, .int .i64 2, .int .i64 ttl, .int .u32 (cs : Int), .int .u32 100, .int .i64 0, .int .i64 0] 137)).alloc (.cells #[.int .i64 0, .int .u32 0, .int .u32 0, .int .i64 0, .int .i64 0, .int .i64 0, .int .u32 0, .int .u32 0, .int .i64 0, .int .i64 0, .int .i64 0, .int .i64 0, .int .i64 0, .bool false] 99) := ⟨_, rfl⟩
  rw [← hw] at b1 hX hZ HF HB ⊢
  obtain ⟨bx, hbx⟩ : ∃ b, b = w.heap.size := ⟨_, rfl⟩
  obtain ⟨bz, hbz⟩ : ∃ b, b = w.heap.size + 1 := ⟨_, rfl⟩
  have LO : Hid (bx = w.heap.size ∧ bz = w.heap.size + 1) := ⟨hbx, hbz⟩
  rw [← hbz] at hZ ⊢
  rw [← hbx] at hX ⊢
  clear hw hbx hbz
  have x11 : ∀ V : Gr w1, V.1.cell? ⟨b, 11, none⟩ = some (.pointer (some ⟨sv, 0, none⟩)) := fun V => ((V.has HB.out.head).cell 11).trans rfl
  have y0 : ∀ V : Gr w1, V.1.cell? ⟨bx, 0, none⟩ = some (.int .i64 1) := fun V => ((V.has hX).cell 0).trans rfl
  have y1 : ∀ V : Gr w1, V.1.cell? ⟨bx, 1, none⟩ = some (.int .i64 20) := fun V => ((V.has hX).cell 1).trans rfl
  have y2 : ∀ V : Gr w1, V.1.cell? ⟨bx, 2, none⟩ = some (.int .i64 L) := fun V => ((V.has hX).cell 2).trans rfl
  have y3 : ∀ V : Gr w1, V.1.cell? ⟨bx, 3, none⟩ = some (.int .i64 6) := fun V => ((V.has hX).cell 3).trans rfl
  have y4 : ∀ V : Gr w1, V.1.cell? ⟨bx, 4, none⟩ = some (.int .u32 (cs : Int)) := fun V => ((V.has hX).cell 4).trans rfl
  have y5 : ∀ V : Gr w1, V.1.cell? ⟨bx, 5, none⟩ = some (.int .u32 100) := fun V => ((V.has hX).cell 5).trans rfl
  have y6 : ∀ V : Gr w1, V.1.cell? ⟨bx, 6, none⟩ = some (.int .i64 (cp : Int)) := fun V => ((V.has hX).cell 6).trans rfl
  have y7 : ∀ V : Gr w1, V.1.cell? ⟨bx, 7, none⟩ = some (.int .i64 80) := fun V => ((V.has hX).cell 7).trans rfl
  have y8 : ∀ V : Gr w1, V.1.cell? ⟨bx, 8, none⟩ = some (.int .i64 2) := fun V => ((V.has hX).cell 8).trans rfl
  have y9 : ∀ V : Gr w1, V.1.cell? ⟨bx, 9, none⟩ = some (.int .i64 ttl) := fun V => ((V.has hX).cell 9).trans rfl
  have y10 : ∀ V : Gr w1, V.1.cell? ⟨bx, 10, none⟩ = some (.int .u32 (cs : Int)) := fun V => ((V.has hX).cell 10).trans rfl
  have y11 : ∀ V : Gr w1, V.1.cell? ⟨bx, 11, none⟩ = some (.int .u32 100) := fun V => ((V.has hX).cell 11).trans rfl
  have y12 : ∀ V : Gr w1, V.1.cell? ⟨bx, 12, none⟩ = some (.int .i64 0) := fun V => ((V.has hX).cell 12).trans rfl
  have y13 : ∀ V : Gr w1, V.1.cell? ⟨bx, 13, none⟩ = some (.int .i64 0) := fun V => ((V.has hX).cell 13).trans rfl
  have HC : Hid (∀ V : Gr w1, Calls Tryz.prog 84 #[.pointer (some ⟨sv, 0, none⟩), .int .i64 6, .int .u32 100, .int .i64 80] V.1 fun e w' => e = .returned (.tuple #[.int .i64 1, .bool true]) ∧ Below V.1.heap.size V.1 w') := fun V => (sfind1_c _ sv sm 4 (by decide) V.1 (HB.out.below V.2).svc).mono fun e w' ⟨a, b⟩ => ⟨a, b ▸ Below.refl _ _⟩
  refine wp_region_grows (by kernel_rfl) (by kernel_rfl) ?_
  repeat (go_big_quiet_step (first | (go_at_call 84; with_reducible refine grows_call _ (HC.out _))))
  refine wpQuiet_nil ?_
  rintro _ ⟨V, rfl⟩
  have hX := V.has hX
  have hZ := V.has hZ
  have hF2 := fun ad h => (HF.out ad h).below V.2
  have hB2 := HB.out.below V.2
  have b2 := b1.step V.2
  have HF := Lib.hid hF2
  have HB := Lib.hid hB2
  clear hF2 hB2
  clear x11 y0 y1 y2 y3 y4 y5 y6 y7 y8 y9 y10 y11 y12 y13 HC b1
  obtain ⟨w2, hw⟩ : ∃ W, W = V.1 := ⟨_, rfl⟩
  rw [← hw] at hX hZ HF HB b2 ⊢
  clear hw V
  go_wp2_with fail
  have HBal := Lib.hid HB.out
  obtain ⟨n, M, p1, p2, p3⟩ := HB.out.pls
  obtain ⟨p, ab, am', om, q1, q2⟩ := p3 1 (by decide) (by decide)
  rw [hT] at q2
  have hH2 := HB.out.head
  have KA : Hid (∀ W, GG w2 W → W.cell? ⟨b, 12, none⟩ = some (.map (some pm)) ∧ W.cell? ⟨bx, 3, none⟩ = some (.int .i64 6) ∧ W.cell? ⟨bx, 4, none⟩ = some (.int .u32 (cs : Int)) ∧ W.cell? ⟨bx, 5, none⟩ = some (.int .u32 100) ∧ W.cell? ⟨bx, 6, none⟩ = some (.int .i64 (cp : Int)) ∧ W.cell? ⟨bx, 7, none⟩ = some (.int .i64 80) ∧ (Instr.lookup 77 (.map (some pm)) (.int .i64 1) false).run Tryz.prog W = .ok (.pointer (some ⟨p, 0, none⟩)) W) := fun W hW => by
    have x := hX.below hW
    have y := hH2.below hW
    have lk := (p2.grow hW).look keyed3 Tryz.underlying77 zero72 (key3 1 (by decide))
    rw [q1] at lk
    exact ⟨(y.cell 12).trans rfl, (x.cell 3).trans rfl, (x.cell 4).trans rfl, (x.cell 5).trans rfl, (x.cell 6).trans rfl, (x.cell 7).trans rfl, lk⟩
  have HP : Hid (∀ W, GG w2 W → Calls Tryz.prog 85 #[.pointer (some ⟨p, 0, none⟩), .agg #[.int .i64 6, .int .u32 (cs : Int), .int .u32 100, .int .i64 (cp : Int), .int .i64 80]] W fun e w' => ∃ bk ad : Int, (ad = 51 ∨ (2 = 2 ∧ ad = 52)) ∧ e = .returned (.tuple #[.agg #[.int .i64 bk, .int .u32 ad, .int .i64 8080], .bool true]) ∧ Below W.heap.size W w') := fun W hW => by
    refine (pchoose_c _ p 2 ab am' om (by decide) kk (by unfold Byt; decide +kernel) rfl 6 cs 100 cp 80 (by decide) h2 (by decide) h4 (by decide) W (q2.keep (KeepM.below hW))).mono ?_
    rintro e w' ⟨⟨bk, ad, hh, rfl⟩, hb⟩
    refine ⟨bk, ad, ?_, rfl, hb⟩
    rcases hh with ⟨_, h⟩ | ⟨h0, _, h⟩
    · exact .inl h
    · exact .inr ⟨h0, h⟩
  clear p2 p3 q1 q2 p1
  go_region_held3 (fun W => W.cell? ⟨b, 12, none⟩ = some (.map (some pm)) ∧ W.cell? ⟨bx, 3, none⟩ = some (.int .i64 6) ∧ W.cell? ⟨bx, 4, none⟩ = some (.int .u32 (cs : Int)) ∧ W.cell? ⟨bx, 5, none⟩ = some (.int .u32 100) ∧ W.cell? ⟨bx, 6, none⟩ = some (.int .i64 (cp : Int)) ∧ W.cell? ⟨bx, 7, none⟩ = some (.int .i64 80) ∧ (Instr.lookup 77 (.map (some pm)) (.int .i64 1) false).run Tryz.prog W = .ok (.pointer (some ⟨p, 0, none⟩)) W) (first | exact KA.out _ (by repeat' (first | with_reducible exact GG.refl _ | with_reducible refine GG.alloc ?_ _ | with_reducible refine GG.drew ?_ | with_reducible refine GG.step ?_ bN | refine GG.set ?_ (Nat.le_refl _) _ _))) ((go_at_call 85; refine (HP.out _ (by repeat' (first | with_reducible exact GG.refl _ | with_reducible refine GG.alloc ?_ _ | with_reducible refine GG.drew ?_))).mono ?_; rintro _ wN ⟨bk, ad, hba, rfl, bN⟩; (try (have Y8 : Has wN w2.heap.size 68 #[.int .i64 0, .int .u32 0, .int .i64 0] := Has.below (by exact Has.new w2 #[.int .i64 0, .int .u32 0, .int .i64 0] 68) bN; have y80 := (Y8.cell 0).trans rfl; have y81 := (Y8.cell 1).trans rfl; have y82 := (Y8.cell 2).trans rfl; have yf0 := Y8.free 0; have yf1 := Y8.free 1; have yf2 := Y8.free 2; have Y8 := Lib.hid Y8))))
  all_goals
    have B9 : ∃ (b8 : Nat) (w9 : World), True := ⟨0, w, trivial⟩
    clear B9
    have X9 : Hid (∀ (b8 : Nat) (w9 : World), GG w2 w9 → Has w9 b8 68 #[.int .i64 bk, .int .u32 ad, .int .i64 8080] → Has w9 b8 68 #[.int .i64 bk, .int .u32 ad, .int .i64 8080]) := fun _ _ _ h => h
    first
      | (have Z8 : Has (wN.alloc (.cells #[.int .i64 bk, .int .u32 ad, .int .i64 8080] 68)) wN.heap.size 68 #[.int .i64 bk, .int .u32 ad, .int .i64 8080] := Has.new _ _ _
         have G9 : GG w2 (wN.alloc (.cells #[.int .i64 bk, .int .u32 ad, .int .i64 8080] 68)) := by repeat' (first | with_reducible exact GG.refl _ | with_reducible refine GG.alloc ?_ _ | with_reducible refine GG.drew ?_ | with_reducible refine GG.step ?_ bN)
         obtain ⟨w3, hw⟩ : ∃ W, W = wN.alloc (.cells #[.int .i64 bk, .int .u32 ad, .int .i64 8080] 68) := ⟨_, rfl⟩
         obtain ⟨b8, hb8⟩ : ∃ b, b = wN.heap.size := ⟨_, rfl⟩
         rw [← hb8, ← hw] at Z8
         rw [← hw] at G9
         rw [← hb8, ← hw]
         clear hb8 hw)
      | (have Z8 : Has (((wN.setCell ⟨w2.heap.size, 0, none⟩ (.int .i64 bk)).setCell ⟨w2.heap.size, 1, none⟩ (.int .u32 ad)).setCell ⟨w2.heap.size, 2, none⟩ (.int .i64 8080)) w2.heap.size 68 #[.int .i64 bk, .int .u32 ad, .int .i64 8080] := by
           have := ((Y8.out.set 0 (.int .i64 bk)).set 1 (.int .u32 ad)).set 2 (.int .i64 8080)
           simp only [List.setIfInBounds_toArray, List.set] at this
           exact this
         have G9 : GG w2 (((wN.setCell ⟨w2.heap.size, 0, none⟩ (.int .i64 bk)).setCell ⟨w2.heap.size, 1, none⟩ (.int .u32 ad)).setCell ⟨w2.heap.size, 2, none⟩ (.int .i64 8080)) := by repeat' (first | with_reducible exact GG.refl _ | with_reducible refine GG.alloc ?_ _ | with_reducible refine GG.drew ?_ | with_reducible refine GG.step ?_ bN | refine GG.set ?_ (Nat.le_refl _) _ _)
         obtain ⟨w3, hw⟩ : ∃ W, W = ((wN.setCell ⟨w2.heap.size, 0, none⟩ (.int .i64 bk)).setCell ⟨w2.heap.size, 1, none⟩ (.int .u32 ad)).setCell ⟨w2.heap.size, 2, none⟩ (.int .i64 8080) := ⟨_, rfl⟩
         rw [← hw] at Z8 G9 ⊢
         obtain ⟨b8, hb8⟩ : ∃ b, b = w2.heap.size := ⟨_, rfl⟩
         rw [← hb8] at Z8
         rw [← hb8]
         clear hb8 hw y80 y81 y82 yf0 yf1 yf2 Y8)
    clear bN KA HP X9
    have hX3 := Has.below hX G9
    have hZ3 := Has.below hZ G9
    have HF3 := Lib.hid (fun ad h => (HF.out ad h).below G9)
    have HB3 := Lib.hid (HBal.out.below G9)
    have b3 := b2.trans G9
    clear hX hZ HF HB HBal hH2 G9
    have v11 := (HB3.out.head.cell 11).trans rfl
    have HG := Lib.hid (sget1_c _ sv sm 4 (by decide) w3 HB3.out.svc)
    go_wp2_with fail
    refine HG.out.mono ?_
    clear HG v11
    rintro e w4 ⟨rfl, b4⟩
    have hX4 := (hX3.below b4).alloc (.cells #[.int .i64 6, .int .u32 100, .int .i64 80, .bool false, .int .u32 200] 63)
    have hZ4 := (hZ3.below b4).alloc (.cells #[.int .i64 6, .int .u32 100, .int .i64 80, .bool false, .int .u32 200] 63)
    have Z84 := (Z8.below b4).alloc (.cells #[.int .i64 6, .int .u32 100, .int .i64 80, .bool false, .int .u32 200] 63)
    have Z94 := Has.new w4 #[.int .i64 6, .int .u32 100, .int .i64 80, .bool false, .int .u32 200] 63
    have B45 : GG w3 (w4.alloc (.cells #[.int .i64 6, .int .u32 100, .int .i64 80, .bool false, .int .u32 200] 63)) := GG.alloc b4 _
    have HF4 := Lib.hid (fun ad h => (HF3.out ad h).below B45)
    have HB4 := Lib.hid (HB3.out.below B45)
    have b5 := b3.trans B45
    have i2 : ¬ ttl < 2 := by omega
    have s4 : w.heap.size ≤ w4.heap.size := (b3.trans b4 : GG w w4).size
    have t9 := (hX4.cell 9).trans rfl
    have hl4 : bx < w4.heap.size := (hX3.below b4).lt
    clear hX3 hZ3 Z8 b4 B45 HF3 HB3 b3
    go_wp2_with fail
    obtain ⟨w5, hw⟩ : ∃ W, W = w4.alloc (.cells #[.int .i64 6, .int .u32 100, .int .i64 80, .bool false, .int .u32 200] 63) := ⟨_, rfl⟩
    obtain ⟨b9, hb9⟩ : ∃ b, b = w4.heap.size := ⟨_, rfl⟩
    rw [← hw] at hX4 hZ4 Z84 Z94 HF4 HB4 b5 t9 ⊢
    rw [← hb9] at Z94 s4 ⊢
    clear hw hb9 t9 hl4
    have x13 : ∀ V : Gr w5, V.1.cell? ⟨b, 13, none⟩ = some (.pointer (some ⟨f, 0, none⟩)) := fun V => ((V.has HB4.out.head).cell 13).trans rfl
    have y3 : ∀ V : Gr w5, V.1.cell? ⟨bx, 3, none⟩ = some (.int .i64 6) := fun V => ((V.has hX4).cell 3).trans rfl
    have y4 : ∀ V : Gr w5, V.1.cell? ⟨bx, 4, none⟩ = some (.int .u32 (cs : Int)) := fun V => ((V.has hX4).cell 4).trans rfl
    have y5 : ∀ V : Gr w5, V.1.cell? ⟨bx, 5, none⟩ = some (.int .u32 100) := fun V => ((V.has hX4).cell 5).trans rfl
    have y6 : ∀ V : Gr w5, V.1.cell? ⟨bx, 6, none⟩ = some (.int .i64 (cp : Int)) := fun V => ((V.has hX4).cell 6).trans rfl
    have y7 : ∀ V : Gr w5, V.1.cell? ⟨bx, 7, none⟩ = some (.int .i64 80) := fun V => ((V.has hX4).cell 7).trans rfl
    have y8 : ∀ V : Gr w5, V.1.cell? ⟨bx, 8, none⟩ = some (.int .i64 2) := fun V => ((V.has hX4).cell 8).trans rfl
    have u0 : ∀ V : Gr w5, V.1.cell? ⟨b8, 0, none⟩ = some (.int .i64 bk) := fun V => ((V.has Z84).cell 0).trans rfl
    have u1 : ∀ V : Gr w5, V.1.cell? ⟨b8, 1, none⟩ = some (.int .u32 ad) := fun V => ((V.has Z84).cell 1).trans rfl
    have u2 : ∀ V : Gr w5, V.1.cell? ⟨b8, 2, none⟩ = some (.int .i64 8080) := fun V => ((V.has Z84).cell 2).trans rfl
    have v4 : ∀ V : Gr w5, V.1.cell? ⟨b9, 4, none⟩ = some (.int .u32 200) := fun V => ((V.has Z94).cell 4).trans rfl
    refine wp_region_grows_mid 12 (by kernel_rfl) (by kernel_rfl) ?_
    simp only [List.take_succ_cons, List.take_zero, List.drop_succ_cons, List.drop_zero]
    repeat (go_big_quiet_step (fail))
    refine wpQuiet_nil ?_
    intro V
    have hZ6 := V.has hZ4
    have Z96 := V.has Z94
    have HB6 := Lib.hid (HB4.out.below V.2)
    have HF6 := Lib.hid (fun ad h => (HF4.out ad h).below V.2)
    have b6 := b5.step V.2
    clear x13 y3 y4 y5 y6 y7 y8 u0 u1 u2 v4 hX4 hZ4 Z84 Z94 HB4 HF4 b5
    obtain ⟨w6, hw⟩ : ∃ W, W = V.1 := ⟨_, rfl⟩
    rw [← hw] at hZ6 Z96 HB6 HF6 b6 ⊢
    clear hw V
    have had : ad = 51 ∨ ad = 52 := by rcases hba with h | h; exact .inl h; exact .inr h.2
    have HO := Lib.hid (fopen6_c o1 f pb wh mb t am bm k r i gA gB l cs 100 cp 80 h2 (by decide) h4 (by decide) 1 bk ad hkA (hkB ad had) (hkv ad had) hnA (hnB ad had) hk1 hk hr hik hir w6 (HF6.out ad hba))
    have HAD := Lib.hid hba
    clear hba had HF6
    go_wp2_with fail
    refine HO.out.mono ?_
    clear HO
    rintro e w7 ⟨o', hE, hC, hh⟩
    have hz5 := HO1.out bz (by have := LO.out; omega)
    have hbz : bz < w6.heap.size := hZ6.lt
    have hZ7 : Has w7 bz 99 #[.int .i64 0, .int .u32 0, .int .u32 0, .int .i64 0, .int .i64 0, .int .i64 0, .int .u32 0, .int .u32 0, .int .i64 0, .int .i64 0, .int .i64 0, .int .i64 0, .int .i64 0, .bool false] := hZ6.chg hC (fun e => by omega)
    have z95 : b9 < w6.heap.size := Z96.lt
    have EE := Lib.hid (E1.out.trans hE (GG.refl w |>.trans b6).size)
    have CC : Hid (Chg (fun b => 1 ≤ o b ∧ o b ≤ 4) w w7) := (Chg.of_below b6).then hC (fun c hc e => by have := HO2.out c hc; omega)
    have hz9 := HO1.out b9 s4
    have Z97 : Has w7 b9 63 #[.int .i64 6, .int .u32 100, .int .i64 80, .bool false, .int .u32 200] := Z96.chg hC (fun e => by omega)
    have O5 : Hid (o' bz = 5) := (hE.1 bz hbz).trans hz5
    have hw7 : w.heap.size ≤ w7.heap.size := CC.out.size
    have bw : w.heap.size ≤ bz := by have := LO.out; omega
    have HB7 : Hid (w7.cell? ⟨b, 13, none⟩ = some (.pointer (some ⟨f, 0, none⟩))) := by
      have : Has w7 b 81 _ := (HB6.out.head).chg hC (fun e => by have := HB6.out.own; omega)
      exact (this.cell 13).trans rfl
    clear hE hC hZ6 Z96 HB6 b6 hz5 hz9 E1 HO1 HO2 hbz z95 LO
    rcases hh with ⟨q1, rfl, q3⟩ | ⟨q1, q2, rfl, q3⟩ | ⟨q1, q2, rfl, q3⟩
    · have Q1 := Lib.hid q1
      have Q3 := Lib.hid q3
      clear q1 q3
      go_wp2_with fail
      repeat (go_big_quiet_step (fail))
      refine wpQuiet_nil ?_
      have hZ8 := hZ7
      have F8 := Q3.out
      have C8 := CC.out
      have hX9 := hZ8.setAll (ys := #[.int .i64 0, .int .u32 0, .int .u32 0, .int .i64 0, .int .i64 0, .int .i64 0, .int .u32 0, .int .u32 0, .int .i64 0, .int .i64 0, .int .i64 0, .int .i64 0, .int .i64 0, .bool false]) rfl
      have C9 := Lib.hid (Chg.setManyIn bw #[.int .i64 0, .int .u32 0, .int .u32 0, .int .i64 0, .int .i64 0, .int .i64 0, .int .u32 0, .int .u32 0, .int .i64 0, .int .i64 0, .int .i64 0, .int .i64 0, .int .i64 0, .bool false].toList 0 C8)
      have F9 := Lib.hid (F8.keep (w' := (w7).setCells bz 0 #[.int .i64 0, .int .u32 0, .int .u32 0, .int .i64 0, .int .i64 0, .int .i64 0, .int .u32 0, .int .u32 0, .int .i64 0, .int .i64 0, .int .i64 0, .int .i64 0, .int .i64 0, .bool false].toList) (fun c _ h4 => heap_setMany (fun e => by have := O5.out; rw [e] at h4; omega) _ _))
      have HTH := Lib.hid (hZ8.there (n := 14) (by decide))
      clear hZ8 F8 C8
      go_wp2_with ((with_reducible refine is_put ?_); go_loud (refine wpList_store_mid rfl _ _ _ rfl bz 0 #[.int .i64 0, .int .u32 0, .int .u32 0, .int .i64 0, .int .i64 0, .int .i64 0, .int .u32 0, .int .u32 0, .int .i64 0, .int .i64 0, .int .i64 0, .int .i64 0, .int .i64 0, .bool false] rfl rfl HTH.out (by kernel_rfl) (by kernel_rfl) ?_; generalize (w7).setCells bz 0 #[.int .i64 0, .int .u32 0, .int .u32 0, .int .i64 0, .int .i64 0, .int .i64 0, .int .u32 0, .int .u32 0, .int .i64 0, .int .i64 0, .int .i64 0, .int .i64 0, .int .i64 0, .bool false].toList = wF at hX9 C9 F9 ⊢))
      have u0 := (hX9.cell 0).trans rfl
      have u1 := (hX9.cell 1).trans rfl
      have u2 := (hX9.cell 2).trans rfl
      have u3 := (hX9.cell 3).trans rfl
      have u4 := (hX9.cell 4).trans rfl
      have u5 := (hX9.cell 5).trans rfl
      have u6 := (hX9.cell 6).trans rfl
      have u7 := (hX9.cell 7).trans rfl
      have u8 := (hX9.cell 8).trans rfl
      have u9 := (hX9.cell 9).trans rfl
      have u10 := (hX9.cell 10).trans rfl
      have u11 := (hX9.cell 11).trans rfl
      have u12 := (hX9.cell 12).trans rfl
      have u13 := (hX9.cell 13).trans rfl
      have C9 := C9.out
      have F9 := F9.out
      refine bodyPost_ret (v := .tuple #[.agg #[.int .i64 0, .int .u32 0, .int .u32 0, .int .i64 0, .int .i64 0, .int .i64 0, .int .u32 0, .int .u32 0, .int .i64 0, .int .i64 0, .int .i64 0, .int .i64 0, .int .i64 0, .bool false], .int .i64 16]) ?_ rfl ⟨o', bk, ad, HAD.out, EE.out, C9, .inl ⟨Q1.out, rfl, F9⟩⟩
      simp [results, Tryz.f47, go_sem, u0, u1, u2, u3, u4, u5, u6, u7, u8, u9, u10, u11, u12, u13]
    · have Q1 := Lib.hid q1
      have Q2 := Lib.hid q2
      clear q2
      have Q3 := Lib.hid q3
      clear q1 q3
      go_wp2_with fail
      repeat (go_big_quiet_step (fail))
      refine wpQuiet_nil ?_
      have hZ8 := hZ7
      have F8 := Q3.out
      have C8 := CC.out
      have hX9 := hZ8.setAll (ys := #[.int .i64 0, .int .u32 0, .int .u32 0, .int .i64 0, .int .i64 0, .int .i64 0, .int .u32 0, .int .u32 0, .int .i64 0, .int .i64 0, .int .i64 0, .int .i64 0, .int .i64 0, .bool false]) rfl
      have C9 := Lib.hid (Chg.setManyIn bw #[.int .i64 0, .int .u32 0, .int .u32 0, .int .i64 0, .int .i64 0, .int .i64 0, .int .u32 0, .int .u32 0, .int .i64 0, .int .i64 0, .int .i64 0, .int .i64 0, .int .i64 0, .bool false].toList 0 C8)
      have F9 := Lib.hid (F8.keep (w' := (w7).setCells bz 0 #[.int .i64 0, .int .u32 0, .int .u32 0, .int .i64 0, .int .i64 0, .int .i64 0, .int .u32 0, .int .u32 0, .int .i64 0, .int .i64 0, .int .i64 0, .int .i64 0, .int .i64 0, .bool false].toList) (fun c _ h4 => heap_setMany (fun e => by have := O5.out; rw [e] at h4; omega) _ _))
      have HTH := Lib.hid (hZ8.there (n := 14) (by decide))
      clear hZ8 F8 C8
      go_wp2_with ((with_reducible refine is_put ?_); go_loud (refine wpList_store_mid rfl _ _ _ rfl bz 0 #[.int .i64 0, .int .u32 0, .int .u32 0, .int .i64 0, .int .i64 0, .int .i64 0, .int .u32 0, .int .u32 0, .int .i64 0, .int .i64 0, .int .i64 0, .int .i64 0, .int .i64 0, .bool false] rfl rfl HTH.out (by kernel_rfl) (by kernel_rfl) ?_; generalize (w7).setCells bz 0 #[.int .i64 0, .int .u32 0, .int .u32 0, .int .i64 0, .int .i64 0, .int .i64 0, .int .u32 0, .int .u32 0, .int .i64 0, .int .i64 0, .int .i64 0, .int .i64 0, .int .i64 0, .bool false].toList = wF at hX9 C9 F9 ⊢))
      have u0 := (hX9.cell 0).trans rfl
      have u1 := (hX9.cell 1).trans rfl
      have u2 := (hX9.cell 2).trans rfl
      have u3 := (hX9.cell 3).trans rfl
      have u4 := (hX9.cell 4).trans rfl
      have u5 := (hX9.cell 5).trans rfl
      have u6 := (hX9.cell 6).trans rfl
      have u7 := (hX9.cell 7).trans rfl
      have u8 := (hX9.cell 8).trans rfl
      have u9 := (hX9.cell 9).trans rfl
      have u10 := (hX9.cell 10).trans rfl
      have u11 := (hX9.cell 11).trans rfl
      have u12 := (hX9.cell 12).trans rfl
      have u13 := (hX9.cell 13).trans rfl
      have C9 := C9.out
      have F9 := F9.out
      refine bodyPost_ret (v := .tuple #[.agg #[.int .i64 0, .int .u32 0, .int .u32 0, .int .i64 0, .int .i64 0, .int .i64 0, .int .u32 0, .int .u32 0, .int .i64 0, .int .i64 0, .int .i64 0, .int .i64 0, .int .i64 0, .bool false], .int .i64 17]) ?_ rfl ⟨o', bk, ad, HAD.out, EE.out, C9, .inr (.inl ⟨Q1.out, Q2.out, rfl, F9⟩)⟩
      simp [results, Tryz.f47, go_sem, u0, u1, u2, u3, u4, u5, u6, u7, u8, u9, u10, u11, u12, u13]
    · have Q1 := Lib.hid q1
      have Q2 := Lib.hid q2
      clear q2
      have Q3 := Lib.hid q3
      clear q1 q3
      have v3 := (Z97.cell 3).trans rfl
      go_wp2_with fail
      repeat (go_big_quiet_step (fail))
      refine wpQuiet_nil ?_
      have v13 := HB7.out
      have HG := Lib.hid (fget_c l 6 (cs : Int) 100 (cp : Int) 80 6 200 ad (2000 + (i : Int)) 8080 1 bk 1 false (by omega) Q3.out)
      go_wp2_with fail
      refine HG.out.mono ?_
      clear HG v13
      rintro e w8 ⟨rfl, b8'⟩
      have hl8 : bz < w8.heap.size := (hZ7.below b8').lt
      have hZ8 : Has (w8.alloc (.cells #[.int .i64 6, .int .u32 (cs : Int), .int .u32 100, .int .i64 (cp : Int), .int .i64 80, .int .i64 6, .int .u32 200, .int .u32 ad, .int .i64 (2000 + (i : Int)), .int .i64 8080, .int .i64 1, .int .i64 bk, .int .i64 1, .bool false] 99)) bz 99 _ := (hZ7.below b8').alloc (.cells #[.int .i64 6, .int .u32 (cs : Int), .int .u32 100, .int .i64 (cp : Int), .int .i64 80, .int .i64 6, .int .u32 200, .int .u32 ad, .int .i64 (2000 + (i : Int)), .int .i64 8080, .int .i64 1, .int .i64 bk, .int .i64 1, .bool false] 99)
      have F8 := Q3.out.below (GG.alloc b8' (.cells #[.int .i64 6, .int .u32 (cs : Int), .int .u32 100, .int .i64 (cp : Int), .int .i64 80, .int .i64 6, .int .u32 200, .int .u32 ad, .int .i64 (2000 + (i : Int)), .int .i64 8080, .int .i64 1, .int .i64 bk, .int .i64 1, .bool false] 99))
      have C8 := CC.out.trans (Chg.of_below (GG.alloc b8' (.cells #[.int .i64 6, .int .u32 (cs : Int), .int .u32 100, .int .i64 (cp : Int), .int .i64 80, .int .i64 6, .int .u32 200, .int .u32 ad, .int .i64 (2000 + (i : Int)), .int .i64 8080, .int .i64 1, .int .i64 bk, .int .i64 1, .bool false] 99)))
      have hX9 := hZ8.setAll (ys := #[.int .i64 6, .int .u32 (cs : Int), .int .u32 100, .int .i64 (cp : Int), .int .i64 80, .int .i64 6, .int .u32 200, .int .u32 ad, .int .i64 (2000 + (i : Int)), .int .i64 8080, .int .i64 1, .int .i64 bk, .int .i64 1, .bool false]) rfl
      have C9 := Lib.hid (Chg.setManyIn bw #[.int .i64 6, .int .u32 (cs : Int), .int .u32 100, .int .i64 (cp : Int), .int .i64 80, .int .i64 6, .int .u32 200, .int .u32 ad, .int .i64 (2000 + (i : Int)), .int .i64 8080, .int .i64 1, .int .i64 bk, .int .i64 1, .bool false].toList 0 C8)
      have F9 := Lib.hid (F8.keep (w' := ((w8.alloc (.cells #[.int .i64 6, .int .u32 (cs : Int), .int .u32 100, .int .i64 (cp : Int), .int .i64 80, .int .i64 6, .int .u32 200, .int .u32 ad, .int .i64 (2000 + (i : Int)), .int .i64 8080, .int .i64 1, .int .i64 bk, .int .i64 1, .bool false] 99))).setCells bz 0 #[.int .i64 6, .int .u32 (cs : Int), .int .u32 100, .int .i64 (cp : Int), .int .i64 80, .int .i64 6, .int .u32 200, .int .u32 ad, .int .i64 (2000 + (i : Int)), .int .i64 8080, .int .i64 1, .int .i64 bk, .int .i64 1, .bool false].toList) (fun c _ h4 => heap_setMany (fun e => by have := O5.out; rw [e] at h4; omega) _ _))
      have HTH := Lib.hid (hZ8.there (n := 14) (by decide))
      clear hZ8 F8 C8
      go_wp2_with ((with_reducible refine is_put ?_); go_loud (refine wpList_store_mid rfl _ _ _ rfl bz 0 #[.int .i64 6, .int .u32 (cs : Int), .int .u32 100, .int .i64 (cp : Int), .int .i64 80, .int .i64 6, .int .u32 200, .int .u32 ad, .int .i64 (2000 + (i : Int)), .int .i64 8080, .int .i64 1, .int .i64 bk, .int .i64 1, .bool false] rfl rfl HTH.out (by kernel_rfl) (by kernel_rfl) ?_; generalize ((w8.alloc (.cells #[.int .i64 6, .int .u32 (cs : Int), .int .u32 100, .int .i64 (cp : Int), .int .i64 80, .int .i64 6, .int .u32 200, .int .u32 ad, .int .i64 (2000 + (i : Int)), .int .i64 8080, .int .i64 1, .int .i64 bk, .int .i64 1, .bool false] 99))).setCells bz 0 #[.int .i64 6, .int .u32 (cs : Int), .int .u32 100, .int .i64 (cp : Int), .int .i64 80, .int .i64 6, .int .u32 200, .int .u32 ad, .int .i64 (2000 + (i : Int)), .int .i64 8080, .int .i64 1, .int .i64 bk, .int .i64 1, .bool false].toList = wF at hX9 C9 F9 ⊢))
      have u0 := (hX9.cell 0).trans rfl
      have u1 := (hX9.cell 1).trans rfl
      have u2 := (hX9.cell 2).trans rfl
      have u3 := (hX9.cell 3).trans rfl
      have u4 := (hX9.cell 4).trans rfl
      have u5 := (hX9.cell 5).trans rfl
      have u6 := (hX9.cell 6).trans rfl
      have u7 := (hX9.cell 7).trans rfl
      have u8 := (hX9.cell 8).trans rfl
      have u9 := (hX9.cell 9).trans rfl
      have u10 := (hX9.cell 10).trans rfl
      have u11 := (hX9.cell 11).trans rfl
      have u12 := (hX9.cell 12).trans rfl
      have u13 := (hX9.cell 13).trans rfl
      have C9 := C9.out
      have F9 := F9.out
      refine bodyPost_ret (v := .tuple #[.agg #[.int .i64 6, .int .u32 (cs : Int), .int .u32 100, .int .i64 (cp : Int), .int .i64 80, .int .i64 6, .int .u32 200, .int .u32 ad, .int .i64 (2000 + (i : Int)), .int .i64 8080, .int .i64 1, .int .i64 bk, .int .i64 1, .bool false], .int .i64 0]) ?_ rfl ⟨o', bk, ad, HAD.out, EE.out, C9, .inr (.inr ⟨Q1.out, Q2.out, rfl, F9⟩)⟩
      simp [results, Tryz.f47, go_sem, u0, u1, u2, u3, u4, u5, u6, u7, u8, u9, u10, u11, u12, u13]
end Go.Proofs.YtngdebpaheejlaaGreatDoor
