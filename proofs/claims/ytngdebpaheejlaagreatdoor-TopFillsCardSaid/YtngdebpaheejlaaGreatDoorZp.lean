/- The balancer: Serve. The balancer: on, Add, Drain, Flows. Stores of a whole struct, in one step. The top's config and services. -/
import Derived.Test.YtngdebpaheejlaaGreatDoorZo
import Derived.Test.YtngdebpaheejlaaGreatDoorZh
import Derived.Deep.MidRow
namespace Go.Proofs.YtngdebpaheejlaaGreatDoor
open Go.RowKit Go.Shelf
set_option linter.unusedSimpArgs false
set_option linter.unusedVariables false
theorem pnew_map (x : Int) (pm n m i : Nat) (hx : x = (i : Int)) (M : Lit → Option Value) (hi : i ≤ 4) (hn : n ≤ m) (hm : m < 100) (key : ByteArray) (hk : key.size = 16) (w W : World) (hG : GG w W) (hM : GMap Tryz.prog w 3 pm n M) :
    Calls Tryz.prog 29 #[.int .i64 5, .string key] W fun e w' => ∃ p ab am om wU, e = .returned (.tuple #[.pointer (some ⟨p, 0, none⟩), .int .i64 0]) ∧ (Instr.mapUpdate 77 (.map (some pm)) (.int .i64 x) (.pointer (some ⟨p, 0, none⟩))).run Tryz.prog w' = .ok () wU ∧ Keep (fun _ => True) w w' ∧ Keep (fun _ => True) w wU ∧
      (∃ n', n' ≤ m + 1 ∧ GMap Tryz.prog wU 3 pm n' (putM M (.int .i64 (i : Int)) (some (.pointer (some ⟨p, 0, none⟩))))) ∧ PoolS (fun b => w.heap.size ≤ b) wU p 0 key ab am om ∧ Chg (fun c => c = pm) w wU := by
  subst hx
  refine (pnew_c key hk W).mono ?_
  rintro e w' ⟨p, ab, am, om, rfl, hP, hb⟩
  have g' : GG w w' := hG.step hb
  have kx := key3 i (by omega)
  obtain ⟨wU, rU, gU, tU⟩ := (hM.grow g').store keyed3 Tryz.underlying77 (by unfold maxLen; omega) (keyed3.key kx) kx (val := .pointer (some ⟨p, 0, none⟩))
  have kN : Keep (fun _ => True) w w' := fun c t xs _ h => Has.below h g'
  refine ⟨p, ab, am, om, wU, rfl, rU, kN, kN.trans (Keep.turned tU), ⟨_, ?_, gU⟩, ?_, (Chg.of_below g').trans (Chg.turned tU rfl)⟩
  · split <;> omega
  · have hpm : pm < w.heap.size := hM.lt
    have hWs : w.heap.size ≤ W.heap.size := hG.size
    refine (hP.keep (fun c hc (e : W.heap.size ≤ c) => turned_block tU (by omega))).mono (fun c (e : W.heap.size ≤ c) => ?_)
    show w.heap.size ≤ c
    omega
set_option maxRecDepth 100000 in
set_option maxHeartbeats 6400000 in
theorem bserve1_c (o : Nat → Nat) (b f sv sm pm hm cn cm r k hi : Nat) (T : Nat → Nat) (hT0 : T 1 = 0) (w : World) (h : Bal o w b f sv sm pm hm cn cm r k 0 hi T) :
    Calls Tryz.prog 15 #[.pointer (some ⟨b, 0, none⟩), .agg #[.int .i64 6, .int .u32 100, .int .i64 80, .bool false, .int .u32 200]] w fun e w' => ∃ o', e = .returned (.tuple #[.int .i64 1, .int .i64 0]) ∧ Ext (fun c => 5 ≤ c ∧ c ≤ 30) o o' w.heap.size ∧ Bal o' w' b f sv sm pm hm cn cm r k 1 hi T ∧ Chg (fun c => 6 ≤ o c ∧ o c ≤ 30) w w' := by
  have hX := Has.new w #[.int .i64 6, .int .u32 100, .int .i64 80, .bool false, .int .u32 200] 63
  have b1 := (Below.refl w.heap.size w).alloc (Nat.le_refl _) (.cells #[.int .i64 6, .int .u32 100, .int .i64 80, .bool false, .int .u32 200] 63)
  obtain ⟨o1, ho1⟩ : ∃ O, O = owner o w.heap.size 5 := ⟨_, rfl⟩
  have HO1 : Hid (∀ c, c < w.heap.size → o1 c = o c) := fun c hc => by rw [ho1]; exact own_lt hc
  have HO2 : Hid (∀ c, w.heap.size ≤ c → o1 c = 5) := fun c hc => by rw [ho1]; exact own_back hc
  have h1 := (h.re HO1.out).below b1
  have C1 : Chg (fun c => 6 ≤ o c ∧ o c ≤ 30) w (w.alloc (.cells #[.int .i64 6, .int .u32 100, .int .i64 80, .bool false, .int .u32 200] 63)) := Chg.of_below b1
  have h1 := Lib.hid h1
  clear h ho1 b1
  go_enter Tryz.func15, Tryz.ntmps15
  go_wp2_with fail
  obtain ⟨w1, hw⟩ : ∃ W, W = w.alloc (.cells #[.int .i64 6, .int .u32 100, .int .i64 80, .bool false, .int .u32 200] 63) := ⟨_, rfl⟩
  rw [← hw] at hX h1 C1 ⊢
  obtain ⟨bx, hbx⟩ : ∃ b, b = w.heap.size := ⟨_, rfl⟩
  rw [← hbx] at hX ⊢
  have HBX := Lib.hid hbx
  clear hw hbx
  have x11 : ∀ V : Gr w1, V.1.cell? ⟨b, 11, none⟩ = some (.pointer (some ⟨sv, 0, none⟩)) := fun V => ((V.has h1.out.head).cell 11).trans rfl
  have y0 : ∀ V : Gr w1, V.1.cell? ⟨bx, 0, none⟩ = some (.int .i64 6) := fun V => ((V.has hX).cell 0).trans rfl
  have y1 : ∀ V : Gr w1, V.1.cell? ⟨bx, 1, none⟩ = some (.int .u32 100) := fun V => ((V.has hX).cell 1).trans rfl
  have y2 : ∀ V : Gr w1, V.1.cell? ⟨bx, 2, none⟩ = some (.int .i64 80) := fun V => ((V.has hX).cell 2).trans rfl
  have y3 : ∀ V : Gr w1, V.1.cell? ⟨bx, 3, none⟩ = some (.bool false) := fun V => ((V.has hX).cell 3).trans rfl
  have y4 : ∀ V : Gr w1, V.1.cell? ⟨bx, 4, none⟩ = some (.int .u32 200) := fun V => ((V.has hX).cell 4).trans rfl
  refine wp_region_grows_mid 5 (by kernel_rfl) (by kernel_rfl) ?_
  simp only [List.take_succ_cons, List.take_zero, List.drop_succ_cons, List.drop_zero]
  repeat (go_big_quiet_step (fail))
  refine wpQuiet_nil ?_
  intro V
  have h2 := Lib.hid (h1.out.below V.2)
  have C2 := C1.trans (Chg.of_below V.2)
  clear x11 y0 y1 y2 y3 y4 h1 C1 hX
  obtain ⟨w2, hw⟩ : ∃ W, W = V.1 := ⟨_, rfl⟩
  rw [← hw] at h2 C2 ⊢
  clear hw V
  have HS := Lib.hid (sadd1_c (fun c => o1 c = 7) sv sm w2 h2.out.svc)
  go_wp2_with fail
  refine HS.out.mono ?_
  clear HS
  rintro e w3 ⟨rfl, hS3, cS⟩
  obtain ⟨h1, h2', h3, h4, h5, _, ⟨n, M, p1, p2, p3⟩, fc, h8⟩ := h2.out
  have k3 : ∀ c, c < w2.heap.size → o1 c ≠ 7 → w3.heap[c]? = w2.heap[c]? := fun c hc e => cS.block c hc e
  have hH3 : Has w3 b 81 _ := (k3 b h5.lt (by omega)).trans h5
  have hM3 := p2.of_block (k3 pm p2.lt (by omega))
  have hC3 := h8.of_blocks (k3 cn h8.head.lt (by omega)) (k3 cm h8.mlt (by omega))
  have hP3 : ∀ j : Nat, 1 ≤ j → j ≤ 0 → ∃ p ab am om, M (.int .i64 (j : Int)) = some (.pointer (some ⟨p, 0, none⟩)) ∧ PoolS (fun b => o1 b = 20 + j) w3 p (T j) (bs kk) ab am om := fun j j1 j2 => by
    obtain ⟨p, ab, am, om, q1, q2⟩ := p3 j j1 j2
    exact ⟨p, ab, am, om, q1, q2.keep (fun c hc e => k3 c hc (by omega))⟩
  have C3 := C2.then cS (fun c hc (e : o1 c = 7) => by have := HO1.out c hc; omega)
  have OWN := Lib.hid (And.intro h1 (And.intro h2' (And.intro h3 h4)))
  clear h1 h2' h3 h4 h5 p2 p3 h8 k3 cS C2 h2
  go_wp2_with fail
  repeat (go_big_quiet_step (fail))
  refine wpQuiet_nil ?_
  go_wp2_with fail
  have hk16 : (bs kk).size = 16 := by kernel_rfl
  obtain ⟨key, hkey⟩ : ∃ x, x = bs kk := ⟨_, rfl⟩
  have HK := Lib.hid hkey
  rw [← hkey] at hk16 hH3 hP3
  clear hkey
  have KA : Hid (∀ W, Keep (fun _ => True) w3 W → W.cell? ⟨b, 12, none⟩ = some (.map (some pm)) ∧ W.cell? ⟨b, 10, none⟩ = some (.int .i64 5) ∧ W.cell? ⟨b, 9, none⟩ = some (.string key)) := fun W hW => by
    have x := hW _ _ _ trivial hH3
    exact ⟨(x.cell 12).trans rfl, (x.cell 10).trans rfl, (x.cell 9).trans rfl⟩
  have K0 : Hid (Keep (fun _ => True) w3 w3.drew) := fun _ _ _ _ h => h
  have G0 : GG w3 w3.drew := GG.drew (GG.refl _)
  have HP := Lib.hid (pnew_map 1 pm n 0 1 rfl M (by decide) p1 (by decide) key hk16 w3 w3.drew G0 hM3)
  go_region_held3 (fun W => W.cell? ⟨b, 12, none⟩ = some (.map (some pm)) ∧ W.cell? ⟨b, 10, none⟩ = some (.int .i64 5) ∧ W.cell? ⟨b, 9, none⟩ = some (.string key)) (first | exact KA.out _ K0.out | exact KA.out _ kN | exact KA.out _ kU) ((go_at_call 29; refine HP.out.mono ?_; rintro _ wN ⟨p, ab, am, om, wU, rfl, rU, kN, kU, gU, pU, cU⟩))
  all_goals
    obtain ⟨u1, u2, u3, u4⟩ := OWN.out
    obtain ⟨n', hn', gU⟩ := gU
    have hw3 := C3.size
    obtain ⟨o', ho⟩ : ∃ o' : Nat → Nat, o' = fun c => if c < w.heap.size then o1 c else if c < w3.heap.size then 7 else 21 := ⟨_, rfl⟩
    have oe : ∀ c, o' c = if c < w.heap.size then o1 c else if c < w3.heap.size then 7 else 21 := fun c => by rw [ho]
    have HE : ∀ c, o1 c ≠ 5 → o' c = o1 c := fun c hc => by
      have : c < w.heap.size := by
        rcases Nat.lt_or_ge c w.heap.size with q | q
        · exact q
        · exact absurd (HO2.out c q) hc
      rw [oe, if_pos this]
    have k4 : ∀ c, c < w3.heap.size → o1 c ≠ 8 → wU.heap[c]? = w3.heap[c]? := fun c hc e => cU.block c hc (fun (e2 : c = pm) => e (by rw [e2]; exact u2))
    have FIN : Hid (Ext (fun c => 5 ≤ c ∧ c ≤ 30) o o' w.heap.size ∧ Bal o' wU b f sv sm pm hm cn cm r k 1 hi T ∧ Chg (fun c => 6 ≤ o c ∧ o c ≤ 30) w wU) := by
      refine ⟨⟨fun c hc => by rw [oe, if_pos hc]; exact HO1.out c hc, fun c hc => ?_⟩, ⟨(HE b (by omega)).trans u1, (HE pm (by omega)).trans u2, (HE cn (by omega)).trans u3, (HE cm (by omega)).trans u4, ?_, (hS3.keep (fun c hc (e : o1 c = 7) => k4 c hc (by omega))).mono (fun c (e : o1 c = 7) => (HE c (by omega)).trans e), ⟨n', _, hn', gU, fun j j1 j2 => ?_⟩, fc, hC3.of_blocks (k4 cn hC3.head.lt (by omega)) (k4 cm hC3.mlt (by omega))⟩, C3.then cU (fun c hc (e : c = pm) => by have := HO1.out c hc; rw [e] at this; rw [e]; omega)⟩
      · rw [oe, if_neg (by omega)]; split <;> omega
      · rw [← HK.out]; exact kU _ _ _ trivial hH3
      · by_cases e : j = 1
        · subst e
          refine ⟨p, ab, am, om, putM_same _ _ _, ?_⟩
          rw [hT0, ← HK.out]
          refine pU.mono (fun c (hc : w3.heap.size ≤ c) => ?_)
          show o' c = 20 + 1
          rw [oe, if_neg (by omega), if_neg (by omega)]
        · obtain ⟨p', ab', am', om', q1, q2⟩ := hP3 j j1 (by omega)
          rw [← HK.out]
          refine ⟨p', ab', am', om', ?_, (q2.keep (fun c hc (e : o1 c = 20 + j) => k4 c hc (by omega))).mono (fun c (e : o1 c = 20 + j) => (HE c (by omega)).trans e)⟩
          rw [putM_other _ _ (fun q => e (by simp at q; omega))]
          exact q1
    clear KA K0 HP hS3 hM3 hP3 hC3 hH3 C3 kN kU gU pU cU rU u1 u2 u3 u4 HE oe ho k4 HO1 HO2 OWN p1
    go_wp2_with fail
    go_ret2
    exact ⟨o', rfl, FIN.out⟩
set_option maxRecDepth 100000 in
set_option maxHeartbeats 6400000 in
theorem bserve2_c (o : Nat → Nat) (b f sv sm pm hm cn cm r k hi : Nat) (T : Nat → Nat) (hT0 : T 2 = 0) (w : World) (h : Bal o w b f sv sm pm hm cn cm r k 1 hi T) :
    Calls Tryz.prog 15 #[.pointer (some ⟨b, 0, none⟩), .agg #[.int .i64 17, .int .u32 100, .int .i64 53, .bool false, .int .u32 200]] w fun e w' => ∃ o', e = .returned (.tuple #[.int .i64 2, .int .i64 0]) ∧ Ext (fun c => 5 ≤ c ∧ c ≤ 30) o o' w.heap.size ∧ Bal o' w' b f sv sm pm hm cn cm r k 2 hi T ∧ Chg (fun c => 6 ≤ o c ∧ o c ≤ 30) w w' := by
  have hX := Has.new w #[.int .i64 17, .int .u32 100, .int .i64 53, .bool false, .int .u32 200] 63
  have b1 := (Below.refl w.heap.size w).alloc (Nat.le_refl _) (.cells #[.int .i64 17, .int .u32 100, .int .i64 53, .bool false, .int .u32 200] 63)
  obtain ⟨o1, ho1⟩ : ∃ O, O = owner o w.heap.size 5 := ⟨_, rfl⟩
  have HO1 : Hid (∀ c, c < w.heap.size → o1 c = o c) := fun c hc => by rw [ho1]; exact own_lt hc
  have HO2 : Hid (∀ c, w.heap.size ≤ c → o1 c = 5) := fun c hc => by rw [ho1]; exact own_back hc
  have h1 := (h.re HO1.out).below b1
  have C1 : Chg (fun c => 6 ≤ o c ∧ o c ≤ 30) w (w.alloc (.cells #[.int .i64 17, .int .u32 100, .int .i64 53, .bool false, .int .u32 200] 63)) := Chg.of_below b1
  have h1 := Lib.hid h1
  clear h ho1 b1
  go_enter Tryz.func15, Tryz.ntmps15
  go_wp2_with fail
  obtain ⟨w1, hw⟩ : ∃ W, W = w.alloc (.cells #[.int .i64 17, .int .u32 100, .int .i64 53, .bool false, .int .u32 200] 63) := ⟨_, rfl⟩
  rw [← hw] at hX h1 C1 ⊢
  obtain ⟨bx, hbx⟩ : ∃ b, b = w.heap.size := ⟨_, rfl⟩
  rw [← hbx] at hX ⊢
  have HBX := Lib.hid hbx
  clear hw hbx
  have x11 : ∀ V : Gr w1, V.1.cell? ⟨b, 11, none⟩ = some (.pointer (some ⟨sv, 0, none⟩)) := fun V => ((V.has h1.out.head).cell 11).trans rfl
  have y0 : ∀ V : Gr w1, V.1.cell? ⟨bx, 0, none⟩ = some (.int .i64 17) := fun V => ((V.has hX).cell 0).trans rfl
  have y1 : ∀ V : Gr w1, V.1.cell? ⟨bx, 1, none⟩ = some (.int .u32 100) := fun V => ((V.has hX).cell 1).trans rfl
  have y2 : ∀ V : Gr w1, V.1.cell? ⟨bx, 2, none⟩ = some (.int .i64 53) := fun V => ((V.has hX).cell 2).trans rfl
  have y3 : ∀ V : Gr w1, V.1.cell? ⟨bx, 3, none⟩ = some (.bool false) := fun V => ((V.has hX).cell 3).trans rfl
  have y4 : ∀ V : Gr w1, V.1.cell? ⟨bx, 4, none⟩ = some (.int .u32 200) := fun V => ((V.has hX).cell 4).trans rfl
  refine wp_region_grows_mid 5 (by kernel_rfl) (by kernel_rfl) ?_
  simp only [List.take_succ_cons, List.take_zero, List.drop_succ_cons, List.drop_zero]
  repeat (go_big_quiet_step (fail))
  refine wpQuiet_nil ?_
  intro V
  have h2 := Lib.hid (h1.out.below V.2)
  have C2 := C1.trans (Chg.of_below V.2)
  clear x11 y0 y1 y2 y3 y4 h1 C1 hX
  obtain ⟨w2, hw⟩ : ∃ W, W = V.1 := ⟨_, rfl⟩
  rw [← hw] at h2 C2 ⊢
  clear hw V
  have HS := Lib.hid (sadd2_c (fun c => o1 c = 7) sv sm w2 h2.out.svc)
  go_wp2_with fail
  refine HS.out.mono ?_
  clear HS
  rintro e w3 ⟨rfl, hS3, cS⟩
  obtain ⟨h1, h2', h3, h4, h5, _, ⟨n, M, p1, p2, p3⟩, fc, h8⟩ := h2.out
  have k3 : ∀ c, c < w2.heap.size → o1 c ≠ 7 → w3.heap[c]? = w2.heap[c]? := fun c hc e => cS.block c hc e
  have hH3 : Has w3 b 81 _ := (k3 b h5.lt (by omega)).trans h5
  have hM3 := p2.of_block (k3 pm p2.lt (by omega))
  have hC3 := h8.of_blocks (k3 cn h8.head.lt (by omega)) (k3 cm h8.mlt (by omega))
  have hP3 : ∀ j : Nat, 1 ≤ j → j ≤ 1 → ∃ p ab am om, M (.int .i64 (j : Int)) = some (.pointer (some ⟨p, 0, none⟩)) ∧ PoolS (fun b => o1 b = 20 + j) w3 p (T j) (bs kk) ab am om := fun j j1 j2 => by
    obtain ⟨p, ab, am, om, q1, q2⟩ := p3 j j1 j2
    exact ⟨p, ab, am, om, q1, q2.keep (fun c hc e => k3 c hc (by omega))⟩
  have C3 := C2.then cS (fun c hc (e : o1 c = 7) => by have := HO1.out c hc; omega)
  have OWN := Lib.hid (And.intro h1 (And.intro h2' (And.intro h3 h4)))
  clear h1 h2' h3 h4 h5 p2 p3 h8 k3 cS C2 h2
  go_wp2_with fail
  repeat (go_big_quiet_step (fail))
  refine wpQuiet_nil ?_
  go_wp2_with fail
  have hk16 : (bs kk).size = 16 := by kernel_rfl
  obtain ⟨key, hkey⟩ : ∃ x, x = bs kk := ⟨_, rfl⟩
  have HK := Lib.hid hkey
  rw [← hkey] at hk16 hH3 hP3
  clear hkey
  have KA : Hid (∀ W, Keep (fun _ => True) w3 W → W.cell? ⟨b, 12, none⟩ = some (.map (some pm)) ∧ W.cell? ⟨b, 10, none⟩ = some (.int .i64 5) ∧ W.cell? ⟨b, 9, none⟩ = some (.string key)) := fun W hW => by
    have x := hW _ _ _ trivial hH3
    exact ⟨(x.cell 12).trans rfl, (x.cell 10).trans rfl, (x.cell 9).trans rfl⟩
  have K0 : Hid (Keep (fun _ => True) w3 w3.drew) := fun _ _ _ _ h => h
  have G0 : GG w3 w3.drew := GG.drew (GG.refl _)
  have HP := Lib.hid (pnew_map 2 pm n 1 2 rfl M (by decide) p1 (by decide) key hk16 w3 w3.drew G0 hM3)
  go_region_held3 (fun W => W.cell? ⟨b, 12, none⟩ = some (.map (some pm)) ∧ W.cell? ⟨b, 10, none⟩ = some (.int .i64 5) ∧ W.cell? ⟨b, 9, none⟩ = some (.string key)) (first | exact KA.out _ K0.out | exact KA.out _ kN | exact KA.out _ kU) ((go_at_call 29; refine HP.out.mono ?_; rintro _ wN ⟨p, ab, am, om, wU, rfl, rU, kN, kU, gU, pU, cU⟩))
  all_goals
    obtain ⟨u1, u2, u3, u4⟩ := OWN.out
    obtain ⟨n', hn', gU⟩ := gU
    have hw3 := C3.size
    obtain ⟨o', ho⟩ : ∃ o' : Nat → Nat, o' = fun c => if c < w.heap.size then o1 c else if c < w3.heap.size then 7 else 22 := ⟨_, rfl⟩
    have oe : ∀ c, o' c = if c < w.heap.size then o1 c else if c < w3.heap.size then 7 else 22 := fun c => by rw [ho]
    have HE : ∀ c, o1 c ≠ 5 → o' c = o1 c := fun c hc => by
      have : c < w.heap.size := by
        rcases Nat.lt_or_ge c w.heap.size with q | q
        · exact q
        · exact absurd (HO2.out c q) hc
      rw [oe, if_pos this]
    have k4 : ∀ c, c < w3.heap.size → o1 c ≠ 8 → wU.heap[c]? = w3.heap[c]? := fun c hc e => cU.block c hc (fun (e2 : c = pm) => e (by rw [e2]; exact u2))
    have FIN : Hid (Ext (fun c => 5 ≤ c ∧ c ≤ 30) o o' w.heap.size ∧ Bal o' wU b f sv sm pm hm cn cm r k 2 hi T ∧ Chg (fun c => 6 ≤ o c ∧ o c ≤ 30) w wU) := by
      refine ⟨⟨fun c hc => by rw [oe, if_pos hc]; exact HO1.out c hc, fun c hc => ?_⟩, ⟨(HE b (by omega)).trans u1, (HE pm (by omega)).trans u2, (HE cn (by omega)).trans u3, (HE cm (by omega)).trans u4, ?_, (hS3.keep (fun c hc (e : o1 c = 7) => k4 c hc (by omega))).mono (fun c (e : o1 c = 7) => (HE c (by omega)).trans e), ⟨n', _, hn', gU, fun j j1 j2 => ?_⟩, fc, hC3.of_blocks (k4 cn hC3.head.lt (by omega)) (k4 cm hC3.mlt (by omega))⟩, C3.then cU (fun c hc (e : c = pm) => by have := HO1.out c hc; rw [e] at this; rw [e]; omega)⟩
      · rw [oe, if_neg (by omega)]; split <;> omega
      · rw [← HK.out]; exact kU _ _ _ trivial hH3
      · by_cases e : j = 2
        · subst e
          refine ⟨p, ab, am, om, putM_same _ _ _, ?_⟩
          rw [hT0, ← HK.out]
          refine pU.mono (fun c (hc : w3.heap.size ≤ c) => ?_)
          show o' c = 20 + 2
          rw [oe, if_neg (by omega), if_neg (by omega)]
        · obtain ⟨p', ab', am', om', q1, q2⟩ := hP3 j j1 (by omega)
          rw [← HK.out]
          refine ⟨p', ab', am', om', ?_, (q2.keep (fun c hc (e : o1 c = 20 + j) => k4 c hc (by omega))).mono (fun c (e : o1 c = 20 + j) => (HE c (by omega)).trans e)⟩
          rw [putM_other _ _ (fun q => e (by simp at q; omega))]
          exact q1
    clear KA K0 HP hS3 hM3 hP3 hC3 hH3 C3 kN kU gU pU cU rU u1 u2 u3 u4 HE oe ho k4 HO1 HO2 OWN p1
    go_wp2_with fail
    go_ret2
    exact ⟨o', rfl, FIN.out⟩
set_option maxRecDepth 100000 in
set_option maxHeartbeats 6400000 in
theorem bserve3_c (o : Nat → Nat) (b f sv sm pm hm cn cm r k hi : Nat) (T : Nat → Nat) (hT0 : T 3 = 0) (w : World) (h : Bal o w b f sv sm pm hm cn cm r k 2 hi T) :
    Calls Tryz.prog 15 #[.pointer (some ⟨b, 0, none⟩), .agg #[.int .i64 6, .int .u32 101, .int .i64 80, .bool true, .int .u32 0]] w fun e w' => ∃ o', e = .returned (.tuple #[.int .i64 3, .int .i64 0]) ∧ Ext (fun c => 5 ≤ c ∧ c ≤ 30) o o' w.heap.size ∧ Bal o' w' b f sv sm pm hm cn cm r k 3 hi T ∧ Chg (fun c => 6 ≤ o c ∧ o c ≤ 30) w w' := by
  have hX := Has.new w #[.int .i64 6, .int .u32 101, .int .i64 80, .bool true, .int .u32 0] 63
  have b1 := (Below.refl w.heap.size w).alloc (Nat.le_refl _) (.cells #[.int .i64 6, .int .u32 101, .int .i64 80, .bool true, .int .u32 0] 63)
  obtain ⟨o1, ho1⟩ : ∃ O, O = owner o w.heap.size 5 := ⟨_, rfl⟩
  have HO1 : Hid (∀ c, c < w.heap.size → o1 c = o c) := fun c hc => by rw [ho1]; exact own_lt hc
  have HO2 : Hid (∀ c, w.heap.size ≤ c → o1 c = 5) := fun c hc => by rw [ho1]; exact own_back hc
  have h1 := (h.re HO1.out).below b1
  have C1 : Chg (fun c => 6 ≤ o c ∧ o c ≤ 30) w (w.alloc (.cells #[.int .i64 6, .int .u32 101, .int .i64 80, .bool true, .int .u32 0] 63)) := Chg.of_below b1
  have h1 := Lib.hid h1
  clear h ho1 b1
  go_enter Tryz.func15, Tryz.ntmps15
  go_wp2_with fail
  obtain ⟨w1, hw⟩ : ∃ W, W = w.alloc (.cells #[.int .i64 6, .int .u32 101, .int .i64 80, .bool true, .int .u32 0] 63) := ⟨_, rfl⟩
  rw [← hw] at hX h1 C1 ⊢
  obtain ⟨bx, hbx⟩ : ∃ b, b = w.heap.size := ⟨_, rfl⟩
  rw [← hbx] at hX ⊢
  have HBX := Lib.hid hbx
  clear hw hbx
  have x11 : ∀ V : Gr w1, V.1.cell? ⟨b, 11, none⟩ = some (.pointer (some ⟨sv, 0, none⟩)) := fun V => ((V.has h1.out.head).cell 11).trans rfl
  have y0 : ∀ V : Gr w1, V.1.cell? ⟨bx, 0, none⟩ = some (.int .i64 6) := fun V => ((V.has hX).cell 0).trans rfl
  have y1 : ∀ V : Gr w1, V.1.cell? ⟨bx, 1, none⟩ = some (.int .u32 101) := fun V => ((V.has hX).cell 1).trans rfl
  have y2 : ∀ V : Gr w1, V.1.cell? ⟨bx, 2, none⟩ = some (.int .i64 80) := fun V => ((V.has hX).cell 2).trans rfl
  have y3 : ∀ V : Gr w1, V.1.cell? ⟨bx, 3, none⟩ = some (.bool true) := fun V => ((V.has hX).cell 3).trans rfl
  have y4 : ∀ V : Gr w1, V.1.cell? ⟨bx, 4, none⟩ = some (.int .u32 0) := fun V => ((V.has hX).cell 4).trans rfl
  refine wp_region_grows_mid 5 (by kernel_rfl) (by kernel_rfl) ?_
  simp only [List.take_succ_cons, List.take_zero, List.drop_succ_cons, List.drop_zero]
  repeat (go_big_quiet_step (fail))
  refine wpQuiet_nil ?_
  intro V
  have h2 := Lib.hid (h1.out.below V.2)
  have C2 := C1.trans (Chg.of_below V.2)
  clear x11 y0 y1 y2 y3 y4 h1 C1 hX
  obtain ⟨w2, hw⟩ : ∃ W, W = V.1 := ⟨_, rfl⟩
  rw [← hw] at h2 C2 ⊢
  clear hw V
  have HS := Lib.hid (sadd3_c (fun c => o1 c = 7) sv sm w2 h2.out.svc)
  go_wp2_with fail
  refine HS.out.mono ?_
  clear HS
  rintro e w3 ⟨rfl, hS3, cS⟩
  obtain ⟨h1, h2', h3, h4, h5, _, ⟨n, M, p1, p2, p3⟩, fc, h8⟩ := h2.out
  have k3 : ∀ c, c < w2.heap.size → o1 c ≠ 7 → w3.heap[c]? = w2.heap[c]? := fun c hc e => cS.block c hc e
  have hH3 : Has w3 b 81 _ := (k3 b h5.lt (by omega)).trans h5
  have hM3 := p2.of_block (k3 pm p2.lt (by omega))
  have hC3 := h8.of_blocks (k3 cn h8.head.lt (by omega)) (k3 cm h8.mlt (by omega))
  have hP3 : ∀ j : Nat, 1 ≤ j → j ≤ 2 → ∃ p ab am om, M (.int .i64 (j : Int)) = some (.pointer (some ⟨p, 0, none⟩)) ∧ PoolS (fun b => o1 b = 20 + j) w3 p (T j) (bs kk) ab am om := fun j j1 j2 => by
    obtain ⟨p, ab, am, om, q1, q2⟩ := p3 j j1 j2
    exact ⟨p, ab, am, om, q1, q2.keep (fun c hc e => k3 c hc (by omega))⟩
  have C3 := C2.then cS (fun c hc (e : o1 c = 7) => by have := HO1.out c hc; omega)
  have OWN := Lib.hid (And.intro h1 (And.intro h2' (And.intro h3 h4)))
  clear h1 h2' h3 h4 h5 p2 p3 h8 k3 cS C2 h2
  go_wp2_with fail
  repeat (go_big_quiet_step (fail))
  refine wpQuiet_nil ?_
  go_wp2_with fail
  have hk16 : (bs kk).size = 16 := by kernel_rfl
  obtain ⟨key, hkey⟩ : ∃ x, x = bs kk := ⟨_, rfl⟩
  have HK := Lib.hid hkey
  rw [← hkey] at hk16 hH3 hP3
  clear hkey
  have KA : Hid (∀ W, Keep (fun _ => True) w3 W → W.cell? ⟨b, 12, none⟩ = some (.map (some pm)) ∧ W.cell? ⟨b, 10, none⟩ = some (.int .i64 5) ∧ W.cell? ⟨b, 9, none⟩ = some (.string key)) := fun W hW => by
    have x := hW _ _ _ trivial hH3
    exact ⟨(x.cell 12).trans rfl, (x.cell 10).trans rfl, (x.cell 9).trans rfl⟩
  have K0 : Hid (Keep (fun _ => True) w3 w3.drew) := fun _ _ _ _ h => h
  have G0 : GG w3 w3.drew := GG.drew (GG.refl _)
  have HP := Lib.hid (pnew_map 3 pm n 2 3 rfl M (by decide) p1 (by decide) key hk16 w3 w3.drew G0 hM3)
  go_region_held3 (fun W => W.cell? ⟨b, 12, none⟩ = some (.map (some pm)) ∧ W.cell? ⟨b, 10, none⟩ = some (.int .i64 5) ∧ W.cell? ⟨b, 9, none⟩ = some (.string key)) (first | exact KA.out _ K0.out | exact KA.out _ kN | exact KA.out _ kU) ((go_at_call 29; refine HP.out.mono ?_; rintro _ wN ⟨p, ab, am, om, wU, rfl, rU, kN, kU, gU, pU, cU⟩))
  all_goals
    obtain ⟨u1, u2, u3, u4⟩ := OWN.out
    obtain ⟨n', hn', gU⟩ := gU
    have hw3 := C3.size
    obtain ⟨o', ho⟩ : ∃ o' : Nat → Nat, o' = fun c => if c < w.heap.size then o1 c else if c < w3.heap.size then 7 else 23 := ⟨_, rfl⟩
    have oe : ∀ c, o' c = if c < w.heap.size then o1 c else if c < w3.heap.size then 7 else 23 := fun c => by rw [ho]
    have HE : ∀ c, o1 c ≠ 5 → o' c = o1 c := fun c hc => by
      have : c < w.heap.size := by
        rcases Nat.lt_or_ge c w.heap.size with q | q
        · exact q
        · exact absurd (HO2.out c q) hc
      rw [oe, if_pos this]
    have k4 : ∀ c, c < w3.heap.size → o1 c ≠ 8 → wU.heap[c]? = w3.heap[c]? := fun c hc e => cU.block c hc (fun (e2 : c = pm) => e (by rw [e2]; exact u2))
    have FIN : Hid (Ext (fun c => 5 ≤ c ∧ c ≤ 30) o o' w.heap.size ∧ Bal o' wU b f sv sm pm hm cn cm r k 3 hi T ∧ Chg (fun c => 6 ≤ o c ∧ o c ≤ 30) w wU) := by
      refine ⟨⟨fun c hc => by rw [oe, if_pos hc]; exact HO1.out c hc, fun c hc => ?_⟩, ⟨(HE b (by omega)).trans u1, (HE pm (by omega)).trans u2, (HE cn (by omega)).trans u3, (HE cm (by omega)).trans u4, ?_, (hS3.keep (fun c hc (e : o1 c = 7) => k4 c hc (by omega))).mono (fun c (e : o1 c = 7) => (HE c (by omega)).trans e), ⟨n', _, hn', gU, fun j j1 j2 => ?_⟩, fc, hC3.of_blocks (k4 cn hC3.head.lt (by omega)) (k4 cm hC3.mlt (by omega))⟩, C3.then cU (fun c hc (e : c = pm) => by have := HO1.out c hc; rw [e] at this; rw [e]; omega)⟩
      · rw [oe, if_neg (by omega)]; split <;> omega
      · rw [← HK.out]; exact kU _ _ _ trivial hH3
      · by_cases e : j = 3
        · subst e
          refine ⟨p, ab, am, om, putM_same _ _ _, ?_⟩
          rw [hT0, ← HK.out]
          refine pU.mono (fun c (hc : w3.heap.size ≤ c) => ?_)
          show o' c = 20 + 3
          rw [oe, if_neg (by omega), if_neg (by omega)]
        · obtain ⟨p', ab', am', om', q1, q2⟩ := hP3 j j1 (by omega)
          rw [← HK.out]
          refine ⟨p', ab', am', om', ?_, (q2.keep (fun c hc (e : o1 c = 20 + j) => k4 c hc (by omega))).mono (fun c (e : o1 c = 20 + j) => (HE c (by omega)).trans e)⟩
          rw [putM_other _ _ (fun q => e (by simp at q; omega))]
          exact q1
    clear KA K0 HP hS3 hM3 hP3 hC3 hH3 C3 kN kU gU pU cU rU u1 u2 u3 u4 HE oe ho k4 HO1 HO2 OWN p1
    go_wp2_with fail
    go_ret2
    exact ⟨o', rfl, FIN.out⟩
set_option maxRecDepth 100000 in
set_option maxHeartbeats 6400000 in
theorem bserve4_c (o : Nat → Nat) (b f sv sm pm hm cn cm r k hi : Nat) (T : Nat → Nat) (hT0 : T 4 = 0) (w : World) (h : Bal o w b f sv sm pm hm cn cm r k 3 hi T) :
    Calls Tryz.prog 15 #[.pointer (some ⟨b, 0, none⟩), .agg #[.int .i64 17, .int .u32 102, .int .i64 9, .bool false, .int .u32 201]] w fun e w' => ∃ o', e = .returned (.tuple #[.int .i64 4, .int .i64 0]) ∧ Ext (fun c => 5 ≤ c ∧ c ≤ 30) o o' w.heap.size ∧ Bal o' w' b f sv sm pm hm cn cm r k 4 hi T ∧ Chg (fun c => 6 ≤ o c ∧ o c ≤ 30) w w' := by
  have hX := Has.new w #[.int .i64 17, .int .u32 102, .int .i64 9, .bool false, .int .u32 201] 63
  have b1 := (Below.refl w.heap.size w).alloc (Nat.le_refl _) (.cells #[.int .i64 17, .int .u32 102, .int .i64 9, .bool false, .int .u32 201] 63)
  obtain ⟨o1, ho1⟩ : ∃ O, O = owner o w.heap.size 5 := ⟨_, rfl⟩
  have HO1 : Hid (∀ c, c < w.heap.size → o1 c = o c) := fun c hc => by rw [ho1]; exact own_lt hc
  have HO2 : Hid (∀ c, w.heap.size ≤ c → o1 c = 5) := fun c hc => by rw [ho1]; exact own_back hc
  have h1 := (h.re HO1.out).below b1
  have C1 : Chg (fun c => 6 ≤ o c ∧ o c ≤ 30) w (w.alloc (.cells #[.int .i64 17, .int .u32 102, .int .i64 9, .bool false, .int .u32 201] 63)) := Chg.of_below b1
  have h1 := Lib.hid h1
  clear h ho1 b1
  go_enter Tryz.func15, Tryz.ntmps15
  go_wp2_with fail
  obtain ⟨w1, hw⟩ : ∃ W, W = w.alloc (.cells #[.int .i64 17, .int .u32 102, .int .i64 9, .bool false, .int .u32 201] 63) := ⟨_, rfl⟩
  rw [← hw] at hX h1 C1 ⊢
  obtain ⟨bx, hbx⟩ : ∃ b, b = w.heap.size := ⟨_, rfl⟩
  rw [← hbx] at hX ⊢
  have HBX := Lib.hid hbx
  clear hw hbx
  have x11 : ∀ V : Gr w1, V.1.cell? ⟨b, 11, none⟩ = some (.pointer (some ⟨sv, 0, none⟩)) := fun V => ((V.has h1.out.head).cell 11).trans rfl
  have y0 : ∀ V : Gr w1, V.1.cell? ⟨bx, 0, none⟩ = some (.int .i64 17) := fun V => ((V.has hX).cell 0).trans rfl
  have y1 : ∀ V : Gr w1, V.1.cell? ⟨bx, 1, none⟩ = some (.int .u32 102) := fun V => ((V.has hX).cell 1).trans rfl
  have y2 : ∀ V : Gr w1, V.1.cell? ⟨bx, 2, none⟩ = some (.int .i64 9) := fun V => ((V.has hX).cell 2).trans rfl
  have y3 : ∀ V : Gr w1, V.1.cell? ⟨bx, 3, none⟩ = some (.bool false) := fun V => ((V.has hX).cell 3).trans rfl
  have y4 : ∀ V : Gr w1, V.1.cell? ⟨bx, 4, none⟩ = some (.int .u32 201) := fun V => ((V.has hX).cell 4).trans rfl
  refine wp_region_grows_mid 5 (by kernel_rfl) (by kernel_rfl) ?_
  simp only [List.take_succ_cons, List.take_zero, List.drop_succ_cons, List.drop_zero]
  repeat (go_big_quiet_step (fail))
  refine wpQuiet_nil ?_
  intro V
  have h2 := Lib.hid (h1.out.below V.2)
  have C2 := C1.trans (Chg.of_below V.2)
  clear x11 y0 y1 y2 y3 y4 h1 C1 hX
  obtain ⟨w2, hw⟩ : ∃ W, W = V.1 := ⟨_, rfl⟩
  rw [← hw] at h2 C2 ⊢
  clear hw V
  have HS := Lib.hid (sadd4_c (fun c => o1 c = 7) sv sm w2 h2.out.svc)
  go_wp2_with fail
  refine HS.out.mono ?_
  clear HS
  rintro e w3 ⟨rfl, hS3, cS⟩
  obtain ⟨h1, h2', h3, h4, h5, _, ⟨n, M, p1, p2, p3⟩, fc, h8⟩ := h2.out
  have k3 : ∀ c, c < w2.heap.size → o1 c ≠ 7 → w3.heap[c]? = w2.heap[c]? := fun c hc e => cS.block c hc e
  have hH3 : Has w3 b 81 _ := (k3 b h5.lt (by omega)).trans h5
  have hM3 := p2.of_block (k3 pm p2.lt (by omega))
  have hC3 := h8.of_blocks (k3 cn h8.head.lt (by omega)) (k3 cm h8.mlt (by omega))
  have hP3 : ∀ j : Nat, 1 ≤ j → j ≤ 3 → ∃ p ab am om, M (.int .i64 (j : Int)) = some (.pointer (some ⟨p, 0, none⟩)) ∧ PoolS (fun b => o1 b = 20 + j) w3 p (T j) (bs kk) ab am om := fun j j1 j2 => by
    obtain ⟨p, ab, am, om, q1, q2⟩ := p3 j j1 j2
    exact ⟨p, ab, am, om, q1, q2.keep (fun c hc e => k3 c hc (by omega))⟩
  have C3 := C2.then cS (fun c hc (e : o1 c = 7) => by have := HO1.out c hc; omega)
  have OWN := Lib.hid (And.intro h1 (And.intro h2' (And.intro h3 h4)))
  clear h1 h2' h3 h4 h5 p2 p3 h8 k3 cS C2 h2
  go_wp2_with fail
  repeat (go_big_quiet_step (fail))
  refine wpQuiet_nil ?_
  go_wp2_with fail
  have hk16 : (bs kk).size = 16 := by kernel_rfl
  obtain ⟨key, hkey⟩ : ∃ x, x = bs kk := ⟨_, rfl⟩
  have HK := Lib.hid hkey
  rw [← hkey] at hk16 hH3 hP3
  clear hkey
  have KA : Hid (∀ W, Keep (fun _ => True) w3 W → W.cell? ⟨b, 12, none⟩ = some (.map (some pm)) ∧ W.cell? ⟨b, 10, none⟩ = some (.int .i64 5) ∧ W.cell? ⟨b, 9, none⟩ = some (.string key)) := fun W hW => by
    have x := hW _ _ _ trivial hH3
    exact ⟨(x.cell 12).trans rfl, (x.cell 10).trans rfl, (x.cell 9).trans rfl⟩
  have K0 : Hid (Keep (fun _ => True) w3 w3.drew) := fun _ _ _ _ h => h
  have G0 : GG w3 w3.drew := GG.drew (GG.refl _)
  have HP := Lib.hid (pnew_map 4 pm n 3 4 rfl M (by decide) p1 (by decide) key hk16 w3 w3.drew G0 hM3)
  go_region_held3 (fun W => W.cell? ⟨b, 12, none⟩ = some (.map (some pm)) ∧ W.cell? ⟨b, 10, none⟩ = some (.int .i64 5) ∧ W.cell? ⟨b, 9, none⟩ = some (.string key)) (first | exact KA.out _ K0.out | exact KA.out _ kN | exact KA.out _ kU) ((go_at_call 29; refine HP.out.mono ?_; rintro _ wN ⟨p, ab, am, om, wU, rfl, rU, kN, kU, gU, pU, cU⟩))
  all_goals
    obtain ⟨u1, u2, u3, u4⟩ := OWN.out
    obtain ⟨n', hn', gU⟩ := gU
    have hw3 := C3.size
    obtain ⟨o', ho⟩ : ∃ o' : Nat → Nat, o' = fun c => if c < w.heap.size then o1 c else if c < w3.heap.size then 7 else 24 := ⟨_, rfl⟩
    have oe : ∀ c, o' c = if c < w.heap.size then o1 c else if c < w3.heap.size then 7 else 24 := fun c => by rw [ho]
    have HE : ∀ c, o1 c ≠ 5 → o' c = o1 c := fun c hc => by
      have : c < w.heap.size := by
        rcases Nat.lt_or_ge c w.heap.size with q | q
        · exact q
        · exact absurd (HO2.out c q) hc
      rw [oe, if_pos this]
    have k4 : ∀ c, c < w3.heap.size → o1 c ≠ 8 → wU.heap[c]? = w3.heap[c]? := fun c hc e => cU.block c hc (fun (e2 : c = pm) => e (by rw [e2]; exact u2))
    have FIN : Hid (Ext (fun c => 5 ≤ c ∧ c ≤ 30) o o' w.heap.size ∧ Bal o' wU b f sv sm pm hm cn cm r k 4 hi T ∧ Chg (fun c => 6 ≤ o c ∧ o c ≤ 30) w wU) := by
      refine ⟨⟨fun c hc => by rw [oe, if_pos hc]; exact HO1.out c hc, fun c hc => ?_⟩, ⟨(HE b (by omega)).trans u1, (HE pm (by omega)).trans u2, (HE cn (by omega)).trans u3, (HE cm (by omega)).trans u4, ?_, (hS3.keep (fun c hc (e : o1 c = 7) => k4 c hc (by omega))).mono (fun c (e : o1 c = 7) => (HE c (by omega)).trans e), ⟨n', _, hn', gU, fun j j1 j2 => ?_⟩, fc, hC3.of_blocks (k4 cn hC3.head.lt (by omega)) (k4 cm hC3.mlt (by omega))⟩, C3.then cU (fun c hc (e : c = pm) => by have := HO1.out c hc; rw [e] at this; rw [e]; omega)⟩
      · rw [oe, if_neg (by omega)]; split <;> omega
      · rw [← HK.out]; exact kU _ _ _ trivial hH3
      · by_cases e : j = 4
        · subst e
          refine ⟨p, ab, am, om, putM_same _ _ _, ?_⟩
          rw [hT0, ← HK.out]
          refine pU.mono (fun c (hc : w3.heap.size ≤ c) => ?_)
          show o' c = 20 + 4
          rw [oe, if_neg (by omega), if_neg (by omega)]
        · obtain ⟨p', ab', am', om', q1, q2⟩ := hP3 j j1 (by omega)
          rw [← HK.out]
          refine ⟨p', ab', am', om', ?_, (q2.keep (fun c hc (e : o1 c = 20 + j) => k4 c hc (by omega))).mono (fun c (e : o1 c = 20 + j) => (HE c (by omega)).trans e)⟩
          rw [putM_other _ _ (fun q => e (by simp at q; omega))]
          exact q1
    clear KA K0 HP hS3 hM3 hP3 hC3 hH3 C3 kN kU gU pU cU rU u1 u2 u3 u4 HE oe ho k4 HO1 HO2 OWN p1
    go_wp2_with fail
    go_ret2
    exact ⟨o', rfl, FIN.out⟩
end Go.Proofs.YtngdebpaheejlaaGreatDoor
namespace Go.Proofs.YtngdebpaheejlaaGreatDoor
open Go.RowKit Go.Shelf
set_option linter.unusedSimpArgs false
set_option linter.unusedVariables false
theorem zero72 (w : World) : (zeroValue 72).run Tryz.prog w = .ok (.pointer none) w := by kernel_rfl
set_option maxRecDepth 100000 in
theorem on36_c (R : World → Prop) (b pm p id bx n : Nat) (M : Lit → Option Value) (hid : id < 100) (w : World) (c12 : w.cell? ⟨b, 12, none⟩ = some (.map (some pm))) (hM : GMap Tryz.prog w 3 pm n M) (hp : M (.int .i64 (id : Int)) = some (.pointer (some ⟨p, 0, none⟩)))
    (HF : Calls Tryz.prog 36 #[.pointer (some ⟨p, 0, none⟩), .pointer (some ⟨bx, 0, none⟩)] w fun e w' => e = .returned (.int .i64 0) ∧ R w') :
    Calls Tryz.prog 19 #[.pointer (some ⟨b, 0, none⟩), .int .i64 (id : Int), .func (.func 36) #[] #[.pointer (some ⟨bx, 0, none⟩)]] w fun e w' => e = .returned (.int .i64 0) ∧ R w' := by
  have lk := hM.look_ok keyed3 Tryz.underlying77 zero72 (key3 id (by omega))
  rw [hp] at lk
  simp at lk
  have HF := Lib.hid HF
  clear hM hp
  go_enter Tryz.func19, Tryz.ntmps19
  go_wp2_with fail
  refine HF.out.mono ?_
  rintro e w1 ⟨rfl, hR⟩
  have HR := Lib.hid hR
  clear HF hR
  go_wp2_with fail
  go_ret
  exact ⟨rfl, HR.out⟩
set_option maxRecDepth 100000 in
theorem on20_c (R : World → Prop) (b pm p id bx n : Nat) (M : Lit → Option Value) (hid : id < 100) (w : World) (c12 : w.cell? ⟨b, 12, none⟩ = some (.map (some pm))) (hM : GMap Tryz.prog w 3 pm n M) (hp : M (.int .i64 (id : Int)) = some (.pointer (some ⟨p, 0, none⟩)))
    (HF : Calls Tryz.prog 20 #[.pointer (some ⟨p, 0, none⟩), .pointer (some ⟨bx, 0, none⟩)] w fun e w' => e = .returned (.int .i64 0) ∧ R w') :
    Calls Tryz.prog 19 #[.pointer (some ⟨b, 0, none⟩), .int .i64 (id : Int), .func (.func 20) #[] #[.pointer (some ⟨bx, 0, none⟩)]] w fun e w' => e = .returned (.int .i64 0) ∧ R w' := by
  have lk := hM.look_ok keyed3 Tryz.underlying77 zero72 (key3 id (by omega))
  rw [hp] at lk
  simp at lk
  have HF := Lib.hid HF
  clear hM hp
  go_enter Tryz.func19, Tryz.ntmps19
  go_wp2_with fail
  refine HF.out.mono ?_
  rintro e w1 ⟨rfl, hR⟩
  have HR := Lib.hid hR
  clear HF hR
  go_wp2_with fail
  go_ret
  exact ⟨rfl, HR.out⟩
set_option maxRecDepth 100000 in
theorem add36_1_c (S : Nat → Prop) (p ab am om bx : Nat) (key : ByteArray) (w : World) (hX : Has w bx 68 #[.int .i64 1, .int .u32 51, .int .i64 8080]) (hP : PoolS S w p 0 key ab am om) : Calls Tryz.prog 36 #[.pointer (some ⟨p, 0, none⟩), .pointer (some ⟨bx, 0, none⟩)] w fun e w' => e = .returned (.int .i64 0) ∧ PoolS (fun b => S b ∨ w.heap.size ≤ b) w' p 1 key ab am om ∧ Chg S w w' := by
  have x0 := (hX.cell 0).trans rfl
  have x1 := (hX.cell 1).trans rfl
  have x2 := (hX.cell 2).trans rfl
  have HF := Lib.hid (padd1_c S p ab am om key w hP)
  clear hX hP
  go_enter Tryz.func36, Tryz.ntmps36
  go_wp2_with fail
  refine HF.out.mono ?_
  rintro e w1 ⟨rfl, h1, h2⟩
  have H1 := Lib.hid h1
  have H2 := Lib.hid h2
  clear HF h1 h2
  go_wp2_with fail
  go_ret
  exact ⟨rfl, H1.out.mono (fun b h => .inl h), H2.out⟩
set_option maxRecDepth 100000 in
theorem add36_2_c (S : Nat → Prop) (p ab am om bx : Nat) (key : ByteArray) (w : World) (hX : Has w bx 68 #[.int .i64 2, .int .u32 52, .int .i64 8080]) (hP : PoolS S w p 1 key ab am om) : Calls Tryz.prog 36 #[.pointer (some ⟨p, 0, none⟩), .pointer (some ⟨bx, 0, none⟩)] w fun e w' => e = .returned (.int .i64 0) ∧ PoolS (fun b => S b ∨ w.heap.size ≤ b) w' p 2 key ab am om ∧ Chg S w w' := by
  have x0 := (hX.cell 0).trans rfl
  have x1 := (hX.cell 1).trans rfl
  have x2 := (hX.cell 2).trans rfl
  have HF := Lib.hid (padd2_c S p ab am om key w hP)
  clear hX hP
  go_enter Tryz.func36, Tryz.ntmps36
  go_wp2_with fail
  refine HF.out.mono ?_
  rintro e w1 ⟨rfl, h1, h2⟩
  have H1 := Lib.hid h1
  have H2 := Lib.hid h2
  clear HF h1 h2
  go_wp2_with fail
  go_ret
  exact ⟨rfl, H1.out.mono (fun b h => .inl h), H2.out⟩
set_option maxRecDepth 100000 in
theorem drain20_c (S : Nat → Prop) (p ab am om bx : Nat) (key : ByteArray) (w : World) (hX : Has w bx 3 #[.int .i64 2]) (hP : PoolS S w p 2 key ab am om) : Calls Tryz.prog 20 #[.pointer (some ⟨p, 0, none⟩), .pointer (some ⟨bx, 0, none⟩)] w fun e w' => e = .returned (.int .i64 0) ∧ PoolS (fun b => S b ∨ w.heap.size ≤ b) w' p 3 key ab am om ∧ Chg S w w' := by
  have x0 := (hX.cell 0).trans rfl
  have HF := Lib.hid (pdrain_c S p ab am om key w hP)
  clear hX hP
  go_enter Tryz.func20, Tryz.ntmps20
  go_wp2_with fail
  refine HF.out.mono ?_
  rintro e w1 ⟨rfl, h1, h2⟩
  have H1 := Lib.hid h1
  have H2 := Lib.hid h2
  clear HF h1 h2
  go_wp2_with fail
  go_ret
  exact ⟨rfl, H1.out, H2.out⟩
/-- The pools' states with one turned. -/
def setT (T : Nat → Nat) (id t : Nat) : Nat → Nat := fun j => if j = id then t else T j
theorem Bal.pool {o : Nat → Nat} {w w' : World} {b f sv sm pm hm cn cm r k m hi id t n p ab am om : Nat} {T : Nat → Nat} {M : Lit → Option Value} (h : Bal o w b f sv sm pm hm cn cm r k m hi T) (hn : n ≤ m) (hM : GMap Tryz.prog w 3 pm n M) (hp : M (.int .i64 (id : Int)) = some (.pointer (some ⟨p, 0, none⟩)))
    (hA : ∀ j, 1 ≤ j → j ≤ m → ∃ p ab am om, M (.int .i64 (j : Int)) = some (.pointer (some ⟨p, 0, none⟩)) ∧ PoolS (fun b => o b = 20 + j) w p (T j) (bs kk) ab am om)
    (hC : Chg (fun b => o b = 20 + id) w w') (hq : PoolS (fun b => o b = 20 + id ∨ w.heap.size ≤ b) w' p t (bs kk) ab am om) : Bal (owner o w.heap.size (20 + id)) w' b f sv sm pm hm cn cm r k m hi (setT T id t) := by
  have h' := h.re (o' := owner o w.heap.size (20 + id)) (fun b hb => own_lt hb)
  have k3 : ∀ c, c < w.heap.size → o c ≠ 20 + id → w'.heap[c]? = w.heap[c]? := fun c hc e => hC.block c hc e
  obtain ⟨h1, h2, h3, h4, h5, h6, _, fc, h8⟩ := h
  obtain ⟨_, h2', _, _, _, h6', _, _, _⟩ := h'
  refine ⟨(own_lt h5.lt).trans h1, h2', (own_lt h8.head.lt).trans h3, (own_lt h8.mlt).trans h4, (k3 b h5.lt (by omega)).trans h5, h6'.keep (fun c hc (e : owner o w.heap.size (20 + id) c = 7) => k3 c hc (by rw [own_lt hc] at e; omega)), ⟨n, M, hn, hM.of_block (k3 pm hM.lt (by omega)), fun j j1 j2 => ?_⟩, fc, h8.of_blocks (k3 cn h8.head.lt (by omega)) (k3 cm h8.mlt (by omega))⟩
  by_cases e : j = id
  · subst e
    refine ⟨p, ab, am, om, hp, ?_⟩
    unfold setT
    rw [if_pos rfl]
    exact hq.mono (fun c hc => own_new hc)
  · obtain ⟨p', ab', am', om', q1, q2⟩ := hA j j1 j2
    refine ⟨p', ab', am', om', q1, ?_⟩
    unfold setT
    rw [if_neg e]
    refine ((q2.cut).keep (fun c hc (q : o c = 20 + j ∧ c < w.heap.size) => k3 c hc (by omega))).mono (fun c q => (own_lt q.2).trans q.1)
set_option maxRecDepth 100000 in
set_option maxHeartbeats 3200000 in
theorem badd1_c (o : Nat → Nat) (b f sv sm pm hm cn cm r k m hi id : Nat) (T : Nat → Nat) (h1 : 1 ≤ id) (h2 : id ≤ m) (h3 : m ≤ 4) (hT : T id = 0) (w : World) (h : Bal o w b f sv sm pm hm cn cm r k m hi T) :
    Calls Tryz.prog 17 #[.pointer (some ⟨b, 0, none⟩), .int .i64 (id : Int), .agg #[.int .i64 1, .int .u32 51, .int .i64 8080]] w fun e w' => ∃ o', e = .returned (.int .i64 0) ∧ Ext (fun c => 5 ≤ c ∧ c ≤ 30) o o' w.heap.size ∧ Bal o' w' b f sv sm pm hm cn cm r k m hi (setT T id 1) ∧ Chg (fun c => 6 ≤ o c ∧ o c ≤ 30) w w' := by
  have hX := Has.new w #[.int .i64 1, .int .u32 51, .int .i64 8080] 68
  have b1 := (Below.refl w.heap.size w).alloc (Nat.le_refl _) (.cells #[.int .i64 1, .int .u32 51, .int .i64 8080] 68)
  obtain ⟨o1, ho1⟩ : ∃ O, O = owner o w.heap.size 5 := ⟨_, rfl⟩
  have HO1 : Hid (∀ c, c < w.heap.size → o1 c = o c) := fun c hc => by rw [ho1]; exact own_lt hc
  have HO2 : Hid (∀ c, w.heap.size ≤ c → o1 c = 5) := fun c hc => by rw [ho1]; exact own_back hc
  have hb1 := (h.re HO1.out).below b1
  have E1 := Lib.hid ((own_ext o w.heap.size 5).mono (D := fun c => 5 ≤ c ∧ c ≤ 30) (fun c e => by omega))
  rw [← ho1] at E1
  clear h ho1
  go_enter Tryz.func17, Tryz.ntmps17
  go_wp2_with fail
  generalize w.alloc (.cells #[.int .i64 1, .int .u32 51, .int .i64 8080] 68) = w1 at hX b1 hb1 ⊢
  obtain ⟨n, M, p1, p2, p3⟩ := hb1.pls
  obtain ⟨p, ab, am, om, q1, q2⟩ := p3 id h1 h2
  rw [hT] at q2
  have HB := Lib.hid hb1
  have HA := Lib.hid (on36_c (fun w' => PoolS (fun b => o1 b = 20 + id ∨ w1.heap.size ≤ b) w' p 1 (bs kk) ab am om ∧ Chg (fun b => o1 b = 20 + id) w1 w') b pm p id w.heap.size n M (by omega) w1 ((hb1.head.cell 12).trans rfl) p2 q1 (add36_1_c _ p ab am om w.heap.size _ w1 hX q2))
  have P2 := Lib.hid p2
  have P3 := Lib.hid p3
  clear hb1 p2 p3 q2 hX
  refine HA.out.mono ?_
  rintro e w2 ⟨rfl, hq, hC⟩
  have FIN : Hid (∃ o', Ext (fun c => 5 ≤ c ∧ c ≤ 30) o o' w.heap.size ∧ Bal o' w2 b f sv sm pm hm cn cm r k m hi (setT T id 1) ∧ Chg (fun c => 6 ≤ o c ∧ o c ≤ 30) w w2) := by
    refine ⟨_, E1.out.trans ((own_ext o1 w1.heap.size (20 + id)).mono (fun c e => by omega)) b1.size, HB.out.pool p1 P2.out q1 P3.out hC hq, (Chg.of_below b1).then hC (fun c hc (e : o1 c = 20 + id) => by have := HO1.out c hc; omega)⟩
  clear HA hq hC P2 P3 HB E1 HO1 HO2 q1 p1
  go_wp2_with fail
  go_ret
  obtain ⟨o', hF⟩ := FIN.out
  exact ⟨o', rfl, hF⟩
set_option maxRecDepth 100000 in
set_option maxHeartbeats 3200000 in
theorem badd2_c (o : Nat → Nat) (b f sv sm pm hm cn cm r k m hi id : Nat) (T : Nat → Nat) (h1 : 1 ≤ id) (h2 : id ≤ m) (h3 : m ≤ 4) (hT : T id = 1) (w : World) (h : Bal o w b f sv sm pm hm cn cm r k m hi T) :
    Calls Tryz.prog 17 #[.pointer (some ⟨b, 0, none⟩), .int .i64 (id : Int), .agg #[.int .i64 2, .int .u32 52, .int .i64 8080]] w fun e w' => ∃ o', e = .returned (.int .i64 0) ∧ Ext (fun c => 5 ≤ c ∧ c ≤ 30) o o' w.heap.size ∧ Bal o' w' b f sv sm pm hm cn cm r k m hi (setT T id 2) ∧ Chg (fun c => 6 ≤ o c ∧ o c ≤ 30) w w' := by
  have hX := Has.new w #[.int .i64 2, .int .u32 52, .int .i64 8080] 68
  have b1 := (Below.refl w.heap.size w).alloc (Nat.le_refl _) (.cells #[.int .i64 2, .int .u32 52, .int .i64 8080] 68)
  obtain ⟨o1, ho1⟩ : ∃ O, O = owner o w.heap.size 5 := ⟨_, rfl⟩
  have HO1 : Hid (∀ c, c < w.heap.size → o1 c = o c) := fun c hc => by rw [ho1]; exact own_lt hc
  have HO2 : Hid (∀ c, w.heap.size ≤ c → o1 c = 5) := fun c hc => by rw [ho1]; exact own_back hc
  have hb1 := (h.re HO1.out).below b1
  have E1 := Lib.hid ((own_ext o w.heap.size 5).mono (D := fun c => 5 ≤ c ∧ c ≤ 30) (fun c e => by omega))
  rw [← ho1] at E1
  clear h ho1
  go_enter Tryz.func17, Tryz.ntmps17
  go_wp2_with fail
  generalize w.alloc (.cells #[.int .i64 2, .int .u32 52, .int .i64 8080] 68) = w1 at hX b1 hb1 ⊢
  obtain ⟨n, M, p1, p2, p3⟩ := hb1.pls
  obtain ⟨p, ab, am, om, q1, q2⟩ := p3 id h1 h2
  rw [hT] at q2
  have HB := Lib.hid hb1
  have HA := Lib.hid (on36_c (fun w' => PoolS (fun b => o1 b = 20 + id ∨ w1.heap.size ≤ b) w' p 2 (bs kk) ab am om ∧ Chg (fun b => o1 b = 20 + id) w1 w') b pm p id w.heap.size n M (by omega) w1 ((hb1.head.cell 12).trans rfl) p2 q1 (add36_2_c _ p ab am om w.heap.size _ w1 hX q2))
  have P2 := Lib.hid p2
  have P3 := Lib.hid p3
  clear hb1 p2 p3 q2 hX
  refine HA.out.mono ?_
  rintro e w2 ⟨rfl, hq, hC⟩
  have FIN : Hid (∃ o', Ext (fun c => 5 ≤ c ∧ c ≤ 30) o o' w.heap.size ∧ Bal o' w2 b f sv sm pm hm cn cm r k m hi (setT T id 2) ∧ Chg (fun c => 6 ≤ o c ∧ o c ≤ 30) w w2) := by
    refine ⟨_, E1.out.trans ((own_ext o1 w1.heap.size (20 + id)).mono (fun c e => by omega)) b1.size, HB.out.pool p1 P2.out q1 P3.out hC hq, (Chg.of_below b1).then hC (fun c hc (e : o1 c = 20 + id) => by have := HO1.out c hc; omega)⟩
  clear HA hq hC P2 P3 HB E1 HO1 HO2 q1 p1
  go_wp2_with fail
  go_ret
  obtain ⟨o', hF⟩ := FIN.out
  exact ⟨o', rfl, hF⟩
set_option maxRecDepth 100000 in
set_option maxHeartbeats 3200000 in
theorem bdrain_c (o : Nat → Nat) (b f sv sm pm hm cn cm r k m hi id : Nat) (T : Nat → Nat) (h1 : 1 ≤ id) (h2 : id ≤ m) (h3 : m ≤ 4) (hT : T id = 2) (w : World) (h : Bal o w b f sv sm pm hm cn cm r k m hi T) :
    Calls Tryz.prog 6 #[.pointer (some ⟨b, 0, none⟩), .int .i64 (id : Int), .int .i64 2] w fun e w' => ∃ o', e = .returned (.int .i64 0) ∧ Ext (fun c => 5 ≤ c ∧ c ≤ 30) o o' w.heap.size ∧ Bal o' w' b f sv sm pm hm cn cm r k m hi (setT T id 3) ∧ Chg (fun c => 6 ≤ o c ∧ o c ≤ 30) w w' := by
  have hX := Has.new w #[.int .i64 2] 3
  have b1 := (Below.refl w.heap.size w).alloc (Nat.le_refl _) (.cells #[.int .i64 2] 3)
  obtain ⟨o1, ho1⟩ : ∃ O, O = owner o w.heap.size 5 := ⟨_, rfl⟩
  have HO1 : Hid (∀ c, c < w.heap.size → o1 c = o c) := fun c hc => by rw [ho1]; exact own_lt hc
  have HO2 : Hid (∀ c, w.heap.size ≤ c → o1 c = 5) := fun c hc => by rw [ho1]; exact own_back hc
  have hb1 := (h.re HO1.out).below b1
  have E1 := Lib.hid ((own_ext o w.heap.size 5).mono (D := fun c => 5 ≤ c ∧ c ≤ 30) (fun c e => by omega))
  rw [← ho1] at E1
  clear h ho1
  go_enter Tryz.func6, Tryz.ntmps6
  go_wp2_with fail
  generalize w.alloc (.cells #[.int .i64 2] 3) = w1 at hX b1 hb1 ⊢
  obtain ⟨n, M, p1, p2, p3⟩ := hb1.pls
  obtain ⟨p, ab, am, om, q1, q2⟩ := p3 id h1 h2
  rw [hT] at q2
  have HB := Lib.hid hb1
  have HA := Lib.hid (on20_c (fun w' => PoolS (fun b => o1 b = 20 + id ∨ w1.heap.size ≤ b) w' p 3 (bs kk) ab am om ∧ Chg (fun b => o1 b = 20 + id) w1 w') b pm p id w.heap.size n M (by omega) w1 ((hb1.head.cell 12).trans rfl) p2 q1 (drain20_c _ p ab am om w.heap.size _ w1 hX q2))
  have P2 := Lib.hid p2
  have P3 := Lib.hid p3
  clear hb1 p2 p3 q2 hX
  refine HA.out.mono ?_
  rintro e w2 ⟨rfl, hq, hC⟩
  have FIN : Hid (∃ o', Ext (fun c => 5 ≤ c ∧ c ≤ 30) o o' w.heap.size ∧ Bal o' w2 b f sv sm pm hm cn cm r k m hi (setT T id 3) ∧ Chg (fun c => 6 ≤ o c ∧ o c ≤ 30) w w2) := by
    refine ⟨_, E1.out.trans ((own_ext o1 w1.heap.size (20 + id)).mono (fun c e => by omega)) b1.size, HB.out.pool p1 P2.out q1 P3.out hC hq, (Chg.of_below b1).then hC (fun c hc (e : o1 c = 20 + id) => by have := HO1.out c hc; omega)⟩
  clear HA hq hC P2 P3 HB E1 HO1 HO2 q1 p1
  go_wp2_with fail
  go_ret
  obtain ⟨o', hF⟩ := FIN.out
  exact ⟨o', rfl, hF⟩
set_option maxRecDepth 100000 in
theorem bflows_c {o : Nat → Nat} {b f sv sm pm hm cn cm r k m hi : Nat} {T : Nat → Nat} {w : World} (h : Bal o w b f sv sm pm hm cn cm r k m hi T) : Calls Tryz.prog 9 #[.pointer (some ⟨b, 0, none⟩)] w fun e w' => e = .returned (.pointer (some ⟨f, 0, none⟩)) ∧ w' = w := by
  have c := (h.head.cell 13).trans rfl
  clear h
  go_enter Tryz.func9, Tryz.ntmps9
  go_wp2_with fail
  go_ret
  exact ⟨rfl, rfl⟩
end Go.Proofs.YtngdebpaheejlaaGreatDoor
namespace Go.Proofs.YtngdebpaheejlaaGreatDoor
open Go.RowKit Go.Shelf
set_option linter.unusedSimpArgs false
set_option linter.unusedVariables false
theorem GG.set {a b : World} (h : GG a b) {c : Nat} (hc : a.heap.size ≤ c) (i : Nat) (v : Value) : GG a (b.setCell ⟨c, i, none⟩ v) := Below.setCell h (p := ⟨c, i, none⟩) hc v
section
variable {P : Program} {ops : Array Oper} {rest : List Oper} {a : Act} {w : World} {Q : Exit → Act → World → Prop} {d : Option Tmp} {t ty : TypeId} {x y : Operand} {pos : String} {after : Array Edge} {g : Option (Nat × Bool)}
theorem is_put (h : wpList P ops Q (⟨d, .store t x y, ty, pos, after, g⟩ :: rest) a w) : wpList P ops Q (⟨d, .store t x y, ty, pos, after, g⟩ :: rest) a w := h
end
theorem Has.setSelf {t : TypeId} {b : Nat} : ∀ (vs : List Value) (o : Nat) {w : World} {xs : Array Value}, Has w b t xs → ∃ ys : Array Value, Has (w.setCells b o vs) b t ys ∧ ∀ l zs, xs.toList = l ++ zs → l.length = o → zs.length = vs.length → ys.toList = l ++ vs
  | [], o, w, xs, h => ⟨xs, h, fun l zs e _ hz => by
    have : zs = [] := List.eq_nil_of_length_eq_zero hz
    rw [e, this]⟩
  | v :: r, o, w, xs, h => by
    obtain ⟨ys, h1, h2⟩ := Has.setSelf r (o + 1) (h.set o v)
    refine ⟨ys, h1, fun l zs e ho hz => ?_⟩
    cases zs with
    | nil => simp at hz
    | cons z zr =>
      have := h2 (l ++ [v]) zr (by rw [Array.toList_setIfInBounds, e, ← ho, app_set0]; simp) (by simp; omega) (by simpa using hz)
      rw [this]; simp
theorem Has.setAll {t : TypeId} {b : Nat} {w : World} {xs ys : Array Value} (h : Has w b t xs) (hs : xs.size = ys.size) : Has (w.setCells b 0 ys.toList) b t ys := by
  obtain ⟨zs, h1, h2⟩ := Has.setSelf ys.toList 0 h
  have := h2 [] xs.toList rfl rfl (by simpa using hs)
  have : zs = ys := by apply Array.toList_inj.1; simpa using this
  rw [this] at h1
  exact h1
theorem Has.there {t : TypeId} {b : Nat} {w : World} {xs : Array Value} (h : Has w b t xs) {n : Nat} (hn : n ≤ xs.size) : w.there b 0 n := fun j hj => by
  refine ⟨?_, h.free _⟩
  rw [h.cell, Array.getElem?_eq_getElem (by omega)]; rfl
theorem Chg.setManyIn {S : Nat → Prop} {w : World} {g : Nat} (hb : w.heap.size ≤ g) : ∀ (vs : List Value) (o : Nat) {w' : World}, Chg S w w' → Chg S w (w'.setCells g o vs)
  | [], o, w', h => h
  | v :: r, o, w', h => Chg.setManyIn hb r (o + 1) (h.setIn hb o v)
end Go.Proofs.YtngdebpaheejlaaGreatDoor
namespace Go.Proofs.YtngdebpaheejlaaGreatDoor
open Go.RowKit Go.Shelf
set_option linter.unusedSimpArgs false
set_option linter.unusedVariables false
def svcsV : Array Value := #[.int .i64 6, .int .u32 100, .int .i64 80, .bool false, .int .u32 200, .int .i64 17, .int .u32 100, .int .i64 53, .bool false, .int .u32 200, .int .i64 6, .int .u32 101, .int .i64 80, .bool true, .int .u32 0, .int .i64 17, .int .u32 102, .int .i64 9, .bool false, .int .u32 201]
theorem kk_bs : (⟨#[102, 101, 100, 99, 98, 97, 57, 56, 55, 54, 53, 52, 51, 50, 49, 48]⟩ : ByteArray) = bs kk := by kernel_rfl
set_option maxRecDepth 100000 in
theorem config_c (r k : Nat) (w : World) : Calls Tryz.prog 11 #[.int .i64 (r : Int), .int .i64 (k : Int)] w fun e w' => e = .returned (.agg #[.int .i64 (r : Int), .int .i64 2000, .int .i64 (k : Int), .int .i64 10, .int .i64 5, .int .i64 50, .int .i64 9, .int .i64 7, .int .i64 20, .string (bs kk), .int .i64 5]) ∧ Below w.heap.size w w' := by
  rw [← kk_bs]
  go_enter Tryz.func11, Tryz.ntmps11
  go_wp2_with fail
  refine bodyPost_ret (v := .agg #[.int .i64 (r : Int), .int .i64 2000, .int .i64 (k : Int), .int .i64 10, .int .i64 5, .int .i64 50, .int .i64 9, .int .i64 7, .int .i64 20, .string ⟨#[102, 101, 100, 99, 98, 97, 57, 56, 55, 54, 53, 52, 51, 50, 49, 48]⟩, .int .i64 5]) ?_ rfl ⟨rfl, (Below.refl _ _).alloc (Nat.le_refl _) _⟩
  simp [results, Tryz.f11, go_sem]
set_option maxRecDepth 100000 in
theorem services_c (w : World) : Calls Tryz.prog 14 #[] w fun e w' => ∃ b, e = .returned (.slice (some ⟨b, 0, none⟩) 4 4) ∧ w.heap.size ≤ b ∧ Has w' b 63 svcsV ∧ Below w.heap.size w w' := by
  go_enter Tryz.func14, Tryz.ntmps14
  go_wp2_with fail
  go_ret
  first
    | exact ⟨_, rfl, Nat.le_refl _, Has.new _ _ _, (Below.refl _ _).alloc (Nat.le_refl _) _⟩
    | done
end Go.Proofs.YtngdebpaheejlaaGreatDoor
