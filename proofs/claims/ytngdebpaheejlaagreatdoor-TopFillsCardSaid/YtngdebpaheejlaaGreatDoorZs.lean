/- The document's anchor (chapter 12): Add. The document's pool (chapter 13): state, New, place, Active. The document's pool (chapter 13): Add of the first and of the second one. The document's pool (chapter 13): Add of the second one. The document's table of services (chapter 19): Right, Find, Add of the four services. -/
import Derived.Test.YtngdebpaheejlaaGreatDoorDA
import Derived.Test.YtngdebpaheejlaaGreatDoorZh
import Derived.Deep.Upon
namespace Go.Proofs.YtngdebpaheejlaaGreatDoor
open Go.RowKit Go.Shelf
set_option linter.unusedSimpArgs false
set_option linter.unusedVariables false
theorem Row.form {S : Nat → Prop} {w : World} {t : TypeId} {size n : Nat} {v : Value} {xs : List Value} (h : Row S w t size v n xs) (hn : 0 < n) : ∃ g cap, v = .slice (some ⟨g, 0, none⟩) n cap := by
  rcases h.1.2 with ⟨rfl, e⟩ | ⟨g, cap, cur, rfl, _⟩
  · omega
  · exact ⟨g, cap, rfl⟩
theorem Row.blk {S : Nat → Prop} {w : World} {t : TypeId} {size n g cap : Nat} {xs : List Value} (h : Row S w t size (.slice (some ⟨g, 0, none⟩) n cap) n xs) : S g ∧ g < w.heap.size ∧ n ≤ cap := by
  refine ⟨h.2 g rfl, ?_⟩
  rcases h.1.2 with ⟨q, _⟩ | ⟨g', cap', cur, q, _, q1, q2, _⟩
  · cases q
  · cases q; exact ⟨(Array.getElem?_eq_some_iff.1 q1).1, q2⟩
set_option maxRecDepth 100000 in
set_option maxHeartbeats 6400000 in
theorem daadd_c (c : Nat → Nat) (d a A : Nat) (hd : 1 ≤ d) (w : World) (h : DAnc c d w a A #[.int .i64 0, .int .i64 1, .int .i64 2, .int .i64 3, .int .i64 4] (ints 5) (ints 5) (ints 5) [.int .i64 4, .int .i64 3, .int .i64 2, .int .i64 1] 1) :
    Calls Tryz.prog 72 #[.pointer (some ⟨a, 0, none⟩)] w fun e w' => e = .returned (.tuple #[.int .i64 1, .int .i64 0]) ∧ Chg (fun b => d ≤ c b ∧ c b ≤ d + 5) w w' := by
  obtain ⟨ca, cA, ⟨sw, sl, sk, ss, hH, RW, RL, RK, RS⟩, hAr⟩ := h
  obtain ⟨gw, cw, rfl⟩ := RW.form (by decide)
  obtain ⟨gl, cl, rfl⟩ := RL.form (by decide)
  obtain ⟨gk, ck, rfl⟩ := RK.form (by decide)
  obtain ⟨gs, cs, rfl⟩ := RS.form (by decide)
  have hH : Has w a 204 #[.slice (some ⟨A, 0, none⟩) 5 5, .slice (some ⟨gw, 0, none⟩) 5 cw, .slice (some ⟨gl, 0, none⟩) 5 cl, .slice (some ⟨gk, 0, none⟩) 5 ck, .slice (some ⟨gs, 0, none⟩) 4 cs, .int .i64 1] := hH
  have bs := RS.blk
  have hs34 : 4 ≤ cs := bs.2.2
  have kw : (c gw = d + 2) ∧ gw < w.heap.size := ⟨RW.blk.1, RW.blk.2.1⟩
  have kl : (c gl = d + 3) ∧ gl < w.heap.size := ⟨RL.blk.1, RL.blk.2.1⟩
  have kk' : (c gk = d + 4) ∧ gk < w.heap.size := ⟨RK.blk.1, RK.blk.2.1⟩
  have x4 : ∀ V : Gr w, V.1.cell? ⟨a, 4, none⟩ = some (.slice (some ⟨gs, 0, none⟩) 4 cs) := fun V => ((V.has hH).cell 4).trans rfl
  have y3 : ∀ V : Gr w, V.1.cell? ⟨gs, 3, none⟩ = some (.int .i64 1) := fun V => (RS.keep (KeepM.below V.2)).cellAt (by decide)
  go_enter Tryz.func72, Tryz.ntmps72
  have z4 := (hH.cell 4).trans rfl
  go_wp2_with fail
  refine wp_region_grows (by kernel_rfl) (by kernel_rfl) ?_
  repeat (go_big_quiet_step (fail))
  refine wpQuiet_nil ?_
  rintro _ ⟨V, rfl⟩
  clear x4 y3 z4
  have hH := V.has hH
  have hAr := V.has hAr
  have RW := RW.keep (KeepM.below V.2)
  have RL := RL.keep (KeepM.below V.2)
  have RK := RK.keep (KeepM.below V.2)
  have C := (Chg.refl (fun b => d ≤ c b ∧ c b ≤ d + 5) w).trans (Chg.of_below V.2)
  have aA : a ≠ A := fun e => by rw [e] at ca; omega
  have agw : gw ≠ a := fun e => by have := kw.1; rw [e] at this; omega
  have agl : gl ≠ a := fun e => by have := kl.1; rw [e] at this; omega
  have agk : gk ≠ a := fun e => by have := kk'.1; rw [e] at this; omega
  have Agw : gw ≠ A := fun e => by have := kw.1; rw [e] at this; omega
  have Agl : gl ≠ A := fun e => by have := kl.1; rw [e] at this; omega
  have Agk : gk ≠ A := fun e => by have := kk'.1; rw [e] at this; omega
  have wl : gw ≠ gl := fun e => by have h1 := kw.1; have h2 := kl.1; rw [e] at h1; omega
  have wk : gw ≠ gk := fun e => by have h1 := kw.1; have h2 := kk'.1; rw [e] at h1; omega
  have lk : gl ≠ gk := fun e => by have h1 := kl.1; have h2 := kk'.1; rw [e] at h1; omega
  have NE := Lib.hid (And.intro aA (And.intro agw (And.intro agl (And.intro agk (And.intro Agw (And.intro Agl (And.intro Agk (And.intro wl (And.intro wk lk)))))))))
  have KC : Hid ((d ≤ c a ∧ c a ≤ d + 5) ∧ (d ≤ c A ∧ c A ≤ d + 5) ∧ (d ≤ c gw ∧ c gw ≤ d + 5) ∧ (d ≤ c gl ∧ c gl ≤ d + 5) ∧ (d ≤ c gk ∧ c gk ≤ d + 5)) := ⟨by omega, by omega, by omega, by omega, by omega⟩
  have hs3 : Hid (3 ≤ cs) := by show 3 ≤ cs; omega
  clear RS bs kw kl kk' ca cA aA agw agl agk Agw Agl Agk wl wk lk
  obtain ⟨w1, hw⟩ : ∃ W, W = V.1 := ⟨_, rfl⟩
  rw [← hw] at hH hAr RW RL RK C ⊢
  clear hw V
  go_wp2_with fail
  have f0 : ∀ V : Gr w1, V.1.cell? ⟨a, 4, none⟩ = some (.slice (some ⟨gs, 0, none⟩) 4 cs) := fun V => ((V.has hH).cell 4).trans rfl
  refine wp_region_grows_tail 14 (by kernel_rfl) (by kernel_rfl) ?_
  simp only [List.take_succ_cons, List.take_zero, List.drop_succ_cons, List.drop_zero]
  repeat (go_big_quiet_step (fail))
  refine wpQuiet_nil ?_
  rintro _ ⟨V, rfl⟩
  have hH := V.has hH
  have hAr := V.has hAr
  have RW := RW.keep (KeepM.below V.2)
  have RL := RL.keep (KeepM.below V.2)
  have RK := RK.keep (KeepM.below V.2)
  have C := C.trans (Chg.of_below V.2)
  clear f0
  obtain ⟨v0, hw⟩ : ∃ W, W = V.1 := ⟨_, rfl⟩
  rw [← hw] at hH hAr RW RL RK C ⊢
  clear hw V
  have l0 := (hH.cell 0).trans rfl
  have n0 := NE.out.1
  have m0 := (Ne.symm NE.out.1)
  have c0_ := (hH.cell 4).trans rfl
  have cf0 := hH.free 4
  have c1_ := (hAr.cell 1).trans rfl
  have cf1 := hAr.free 1
  go_wp2_with fail
  have hH : Has ((v0).setCell ⟨a, 4, none⟩ (.slice (some ⟨gs, 0, none⟩) 3 cs)) a 204 #[.slice (some ⟨A, 0, none⟩) 5 5, .slice (some ⟨gw, 0, none⟩) 5 cw, .slice (some ⟨gl, 0, none⟩) 5 cl, .slice (some ⟨gk, 0, none⟩) 5 ck, .slice (some ⟨gs, 0, none⟩) 3 cs, .int .i64 1] := by
    have := hH.set 4 (.slice (some ⟨gs, 0, none⟩) 3 cs)
    simp only [List.setIfInBounds_toArray, List.set] at this
    exact this
  have hAr := hAr.setOther (c := a) 4 (Ne.symm NE.out.1) (.slice (some ⟨gs, 0, none⟩) 3 cs)
  have RW := RW.setOther (b := a) (fun e => NE.out.2.1 (by cases e; rfl)) 4 (.slice (some ⟨gs, 0, none⟩) 3 cs)
  have RL := RL.setOther (b := a) (fun e => NE.out.2.2.1 (by cases e; rfl)) 4 (.slice (some ⟨gs, 0, none⟩) 3 cs)
  have RK := RK.setOther (b := a) (fun e => NE.out.2.2.2.1 (by cases e; rfl)) 4 (.slice (some ⟨gs, 0, none⟩) 3 cs)
  have C := C.set (b := a) KC.out.1 4 (.slice (some ⟨gs, 0, none⟩) 3 cs)
  have hH := hH.setOther (c := A) 1 NE.out.1 (.int .i64 0)
  have hAr : Has (((v0).setCell ⟨a, 4, none⟩ (.slice (some ⟨gs, 0, none⟩) 3 cs)).setCell ⟨A, 1, none⟩ (.int .i64 0)) A 3 #[.int .i64 0, .int .i64 0, .int .i64 2, .int .i64 3, .int .i64 4] := by
    have := hAr.set 1 (.int .i64 0)
    simp only [List.setIfInBounds_toArray, List.set] at this
    exact this
  have RW := RW.setOther (b := A) (fun e => NE.out.2.2.2.2.1 (by cases e; rfl)) 1 (.int .i64 0)
  have RL := RL.setOther (b := A) (fun e => NE.out.2.2.2.2.2.1 (by cases e; rfl)) 1 (.int .i64 0)
  have RK := RK.setOther (b := A) (fun e => NE.out.2.2.2.2.2.2.1 (by cases e; rfl)) 1 (.int .i64 0)
  have C := C.set (b := A) KC.out.2.1 1 (.int .i64 0)
  obtain ⟨u0, hw⟩ : ∃ W, W = ((v0).setCell ⟨a, 4, none⟩ (.slice (some ⟨gs, 0, none⟩) 3 cs)).setCell ⟨A, 1, none⟩ (.int .i64 0) := ⟨_, rfl⟩
  rw [← hw] at hH hAr RW RL RK C ⊢
  clear hw l0 n0 m0 c0_ cf0 c1_ cf1
  have RL : Row (fun b => c b = d + 3) u0 3 1 (.slice (some ⟨gl, 0, none⟩) 5 cl) 5 (ints 5) := RL
  have RW : Row (fun b => c b = d + 2) u0 3 1 (.slice (some ⟨gw, 0, none⟩) 5 cw) 5 (ints 5) := RW
  have f0 : ∀ V : Gr u0, V.1.cell? ⟨a, 1, none⟩ = some (.slice (some ⟨gw, 0, none⟩) 5 cw) := fun V => ((V.has hH).cell 1).trans rfl
  have f1 : ∀ V : Gr u0, V.1.cell? ⟨a, 2, none⟩ = some (.slice (some ⟨gl, 0, none⟩) 5 cl) := fun V => ((V.has hH).cell 2).trans rfl
  have f2 : ∀ V : Gr u0, V.1.cell? ⟨a, 5, none⟩ = some (.int .i64 1) := fun V => ((V.has hH).cell 5).trans rfl
  have f3 : ∀ V : Gr u0, V.1.cell? ⟨gw, 1, none⟩ = some (.int .i64 1) := fun V => (RW.keep (KeepM.below V.2)).cellAt (by decide)
  refine wp_region_grows_tail 19 (by kernel_rfl) (by kernel_rfl) ?_
  simp only [List.take_succ_cons, List.take_zero, List.drop_succ_cons, List.drop_zero]
  repeat (go_big_quiet_step (fail))
  refine wpQuiet_nil ?_
  rintro _ ⟨V, rfl⟩
  have hH := V.has hH
  have hAr := V.has hAr
  have RW := RW.keep (KeepM.below V.2)
  have RL := RL.keep (KeepM.below V.2)
  have RK := RK.keep (KeepM.below V.2)
  have C := C.trans (Chg.of_below V.2)
  clear f0 f1 f2 f3
  obtain ⟨v1, hw⟩ : ∃ W, W = V.1 := ⟨_, rfl⟩
  rw [← hw] at hH hAr RW RL RK C ⊢
  clear hw V
  have c0_ : v1.cell? ⟨gl, 1, none⟩ = some (.int .i64 1) := RL.cellAt (i := 1) (by decide)
  have cf0 := RL.freeAt 1
  go_wp2_with fail
  have hH := hH.setOther (c := gl) 1 (Ne.symm NE.out.2.2.1) (.int .i64 1)
  have hAr := hAr.setOther (c := gl) 1 (Ne.symm NE.out.2.2.2.2.2.1) (.int .i64 1)
  have RW := RW.setOther (b := gl) (fun e => NE.out.2.2.2.2.2.2.2.1 (by cases e; rfl)) 1 (.int .i64 1)
  have RL := RL.setIn 1 (.int .i64 1)
  have RK := RK.setOther (b := gl) (fun e => (Ne.symm NE.out.2.2.2.2.2.2.2.2.2) (by cases e; rfl)) 1 (.int .i64 1)
  have C := C.set (b := gl) KC.out.2.2.2.1 1 (.int .i64 1)
  obtain ⟨u1, hw⟩ : ∃ W, W = (v1).setCell ⟨gl, 1, none⟩ (.int .i64 1) := ⟨_, rfl⟩
  rw [← hw] at hH hAr RW RL RK C ⊢
  clear hw c0_ cf0
  have RL : Row (fun b => c b = d + 3) u1 3 1 (.slice (some ⟨gl, 0, none⟩) 5 cl) 5 (ints 5) := RL
  have RW : Row (fun b => c b = d + 2) u1 3 1 (.slice (some ⟨gw, 0, none⟩) 5 cw) 5 (ints 5) := RW
  have f0 : ∀ V : Gr u1, V.1.cell? ⟨a, 1, none⟩ = some (.slice (some ⟨gw, 0, none⟩) 5 cw) := fun V => ((V.has hH).cell 1).trans rfl
  have f1 : ∀ V : Gr u1, V.1.cell? ⟨a, 2, none⟩ = some (.slice (some ⟨gl, 0, none⟩) 5 cl) := fun V => ((V.has hH).cell 2).trans rfl
  have f2 : ∀ V : Gr u1, V.1.cell? ⟨gl, 1, none⟩ = some (.int .i64 1) := fun V => (RL.keep (KeepM.below V.2)).cellAt (by decide)
  refine wp_region_grows_tail 13 (by kernel_rfl) (by kernel_rfl) ?_
  simp only [List.take_succ_cons, List.take_zero, List.drop_succ_cons, List.drop_zero]
  repeat (go_big_quiet_step (fail))
  refine wpQuiet_nil ?_
  rintro _ ⟨V, rfl⟩
  have hH := V.has hH
  have hAr := V.has hAr
  have RW := RW.keep (KeepM.below V.2)
  have RL := RL.keep (KeepM.below V.2)
  have RK := RK.keep (KeepM.below V.2)
  have C := C.trans (Chg.of_below V.2)
  clear f0 f1 f2
  obtain ⟨v2, hw⟩ : ∃ W, W = V.1 := ⟨_, rfl⟩
  rw [← hw] at hH hAr RW RL RK C ⊢
  clear hw V
  have l0 := (hH.cell 3).trans rfl
  have l1 := (hH.cell 5).trans rfl
  have n0 := NE.out.2.1
  have m0 := (Ne.symm NE.out.2.1)
  have n1 := NE.out.2.2.2.1
  have m1 := (Ne.symm NE.out.2.2.2.1)
  have n2 := NE.out.2.2.2.2.2.2.2.2.1
  have m2 := (Ne.symm NE.out.2.2.2.2.2.2.2.2.1)
  have c0_ : v2.cell? ⟨gw, 1, none⟩ = some (.int .i64 1) := RW.cellAt (i := 1) (by decide)
  have cf0 := RW.freeAt 1
  have c1_ : v2.cell? ⟨gk, 1, none⟩ = some (.int .i64 1) := RK.cellAt (i := 1) (by decide)
  have cf1 := RK.freeAt 1
  have c2_ := (hH.cell 5).trans rfl
  have cf2 := hH.free 5
  go_wp2_with fail
  have hH := hH.setOther (c := gw) 1 (Ne.symm NE.out.2.1) (.int .i64 1)
  have hAr := hAr.setOther (c := gw) 1 (Ne.symm NE.out.2.2.2.2.1) (.int .i64 1)
  have RW := RW.setIn 1 (.int .i64 1)
  have RL := RL.setOther (b := gw) (fun e => (Ne.symm NE.out.2.2.2.2.2.2.2.1) (by cases e; rfl)) 1 (.int .i64 1)
  have RK := RK.setOther (b := gw) (fun e => (Ne.symm NE.out.2.2.2.2.2.2.2.2.1) (by cases e; rfl)) 1 (.int .i64 1)
  have C := C.set (b := gw) KC.out.2.2.1 1 (.int .i64 1)
  have hH := hH.setOther (c := gk) 1 (Ne.symm NE.out.2.2.2.1) (.int .i64 1)
  have hAr := hAr.setOther (c := gk) 1 (Ne.symm NE.out.2.2.2.2.2.2.1) (.int .i64 1)
  have RW := RW.setOther (b := gk) (fun e => NE.out.2.2.2.2.2.2.2.2.1 (by cases e; rfl)) 1 (.int .i64 1)
  have RL := RL.setOther (b := gk) (fun e => NE.out.2.2.2.2.2.2.2.2.2 (by cases e; rfl)) 1 (.int .i64 1)
  have RK := RK.setIn 1 (.int .i64 1)
  have C := C.set (b := gk) KC.out.2.2.2.2 1 (.int .i64 1)
  have hH : Has ((((v2).setCell ⟨gw, 1, none⟩ (.int .i64 1)).setCell ⟨gk, 1, none⟩ (.int .i64 1)).setCell ⟨a, 5, none⟩ (.int .i64 2)) a 204 #[.slice (some ⟨A, 0, none⟩) 5 5, .slice (some ⟨gw, 0, none⟩) 5 cw, .slice (some ⟨gl, 0, none⟩) 5 cl, .slice (some ⟨gk, 0, none⟩) 5 ck, .slice (some ⟨gs, 0, none⟩) 3 cs, .int .i64 2] := by
    have := hH.set 5 (.int .i64 2)
    simp only [List.setIfInBounds_toArray, List.set] at this
    exact this
  have hAr := hAr.setOther (c := a) 5 (Ne.symm NE.out.1) (.int .i64 2)
  have RW := RW.setOther (b := a) (fun e => NE.out.2.1 (by cases e; rfl)) 5 (.int .i64 2)
  have RL := RL.setOther (b := a) (fun e => NE.out.2.2.1 (by cases e; rfl)) 5 (.int .i64 2)
  have RK := RK.setOther (b := a) (fun e => NE.out.2.2.2.1 (by cases e; rfl)) 5 (.int .i64 2)
  have C := C.set (b := a) KC.out.1 5 (.int .i64 2)
  obtain ⟨u2, hw⟩ : ∃ W, W = (((v2).setCell ⟨gw, 1, none⟩ (.int .i64 1)).setCell ⟨gk, 1, none⟩ (.int .i64 1)).setCell ⟨a, 5, none⟩ (.int .i64 2) := ⟨_, rfl⟩
  rw [← hw] at hH hAr RW RL RK C ⊢
  clear hw l0 l1 n0 m0 n1 m1 n2 m2 c0_ cf0 c1_ cf1 c2_ cf2
  have RL : Row (fun b => c b = d + 3) u2 3 1 (.slice (some ⟨gl, 0, none⟩) 5 cl) 5 (ints 5) := RL
  have RW : Row (fun b => c b = d + 2) u2 3 1 (.slice (some ⟨gw, 0, none⟩) 5 cw) 5 (ints 5) := RW
  have C := Lib.hid C
  clear hH hAr RW RL RK
  go_ret2
  exact ⟨rfl, C.out⟩
end Go.Proofs.YtngdebpaheejlaaGreatDoor
namespace Go.Proofs.YtngdebpaheejlaaGreatDoor
open Go.RowKit Go.Shelf
set_option linter.unusedSimpArgs false
set_option linter.unusedVariables false
def la5 : Array Value := #[.int .i64 0, .int .i64 1, .int .i64 2, .int .i64 3, .int .i64 4]
def st4 : List Value := [.int .i64 4, .int .i64 3, .int .i64 2, .int .i64 1]
theorem DAnc.keep {c : Nat → Nat} {d : Nat} {w w' : World} {a A : Nat} {la : Array Value} {lw ll lk ls : List Value} {N : Int} (h : DAnc c d w a A la lw ll lk ls N) (hk : ∀ b, b < w.heap.size → d ≤ c b → c b ≤ d + 5 → w'.heap[b]? = w.heap[b]?) : DAnc c d w' a A la lw ll lk ls N := by
  obtain ⟨ca, cA, ⟨sw, sl, sk, ss, hH, RW, RL, RK, RS⟩, hAr⟩ := h
  exact ⟨ca, cA, ⟨sw, sl, sk, ss, (hk a hH.lt (by omega) (by omega)).trans hH, RW.keep (fun b hb (e : c b = d + 2) => hk b hb (by omega) (by omega)), RL.keep (fun b hb (e : c b = d + 3) => hk b hb (by omega) (by omega)), RK.keep (fun b hb (e : c b = d + 4) => hk b hb (by omega) (by omega)), RS.keep (fun b hb (e : c b = d + 5) => hk b hb (by omega) (by omega))⟩, (hk A hAr.lt (by omega) (by omega)).trans hAr⟩
theorem DAnc.re {c c2 : Nat → Nat} {d : Nat} {w : World} {a A : Nat} {la : Array Value} {lw ll lk ls : List Value} {N : Int} (h : DAnc c d w a A la lw ll lk ls N) (he : ∀ b, b < w.heap.size → d ≤ c b → c b ≤ d + 5 → c2 b = c b) : DAnc c2 d w a A la lw ll lk ls N := by
  obtain ⟨ca, cA, ⟨sw, sl, sk, ss, hH, RW, RL, RK, RS⟩, hAr⟩ := h
  exact ⟨(he a hH.lt (by omega) (by omega)).trans ca, (he A hAr.lt (by omega) (by omega)).trans cA, ⟨sw, sl, sk, ss, hH, RW.cut.mono (fun b (e : c b = d + 2 ∧ b < w.heap.size) => (he b e.2 (by omega) (by omega)).trans e.1), RL.cut.mono (fun b (e : c b = d + 3 ∧ b < w.heap.size) => (he b e.2 (by omega) (by omega)).trans e.1), RK.cut.mono (fun b (e : c b = d + 4 ∧ b < w.heap.size) => (he b e.2 (by omega) (by omega)).trans e.1), RS.cut.mono (fun b (e : c b = d + 5 ∧ b < w.heap.size) => (he b e.2 (by omega) (by omega)).trans e.1)⟩, hAr⟩
def mem1 : List Value := [.int .i64 1, .int .u32 51, .int .i64 8080, .int .i64 1, .int .i64 0]
def own1 : Nat → Array Value
  | 0 => #[.int .i64 0, .int .i64 0, .int .i64 0, .int .i64 0, .int .i64 0]
  | _ => #[.int .i64 1, .int .i64 0, .int .i64 0, .int .i64 0, .int .i64 0]
/-- The document's pool in memory, at nobody (t = 0) or one member (t = 1). -/
def DPool (c : Nat → Nat) (d : Nat) (w : World) (p t : Nat) : Prop := c p = d + 6 ∧ p < w.heap.size ∧ (t < 2 → ∃ a A O sL key, c O = d + 7 ∧ DAnc c d w a A la5 (ints 5) (ints 5) (ints 5) st4 1 ∧ Has w p 191 #[.string key, .pointer (some ⟨a, 0, none⟩), sL, .slice (some ⟨O, 0, none⟩) 5 5, .int .i64 5] ∧ Has w O 3 (own1 t) ∧ (t = 0 → sL = .slice none 0 0) ∧ (t = 1 → Row (fun b => c b = d + 8) w 206 5 sL 1 mem1))
theorem DPool.keep {c : Nat → Nat} {d : Nat} {w w' : World} {p t : Nat} (h : DPool c d w p t) (hs : w.heap.size ≤ w'.heap.size) (hk : ∀ b, b < w.heap.size → d ≤ c b → c b ≤ d + 8 → w'.heap[b]? = w.heap[b]?) : DPool c d w' p t := by
  obtain ⟨h1, h0, h⟩ := h
  refine ⟨h1, by omega, fun ht => ?_⟩
  obtain ⟨a, A, O, sL, key, h2, h3, h4, h5, h6, h7⟩ := h ht
  exact ⟨a, A, O, sL, key, h2, h3.keep (fun b hb e1 e2 => hk b hb e1 (by omega)), (hk p h4.lt (by omega) (by omega)).trans h4, (hk O h5.lt (by omega) (by omega)).trans h5, h6, fun e => (h7 e).keep (fun b hb (q : c b = d + 8) => hk b hb (by omega) (by omega))⟩
theorem DPool.re {c c2 : Nat → Nat} {d : Nat} {w : World} {p t : Nat} (h : DPool c d w p t) (he : ∀ b, b < w.heap.size → d ≤ c b → c b ≤ d + 8 → c2 b = c b) : DPool c2 d w p t := by
  obtain ⟨h1, h0, h⟩ := h
  refine ⟨(he p h0 (by omega) (by omega)).trans h1, h0, fun ht => ?_⟩
  obtain ⟨a, A, O, sL, key, h2, h3, h4, h5, h6, h7⟩ := h ht
  exact ⟨a, A, O, sL, key, (he O h5.lt (by omega) (by omega)).trans h2, h3.re (fun b hb e1 e2 => he b hb e1 (by omega)), h4, h5, h6, fun e => (h7 e).cut.mono (fun b (q : c b = d + 8 ∧ b < w.heap.size) => (he b q.2 (by omega) (by omega)).trans q.1)⟩
theorem dp_leaf (d : Nat) (hd : 1 ≤ d) {w W wN F : World} {a A O : Nat} {c1 : Nat → Nat} {key : ByteArray} (gF : GG w F) (hW : w.heap.size ≤ W.heap.size) (hE : Ext (fun x => d ≤ x ∧ x ≤ d + 5) (fun _ => 0) c1 W.heap.size) (hA : DAnc c1 d wN a A la5 (ints 5) (ints 5) (ints 5) st4 1) (gN : GG wN F) (hO : Has F O 3 (own1 0)) (hOw : w.heap.size ≤ O) (hOn : O < W.heap.size ∨ wN.heap.size ≤ O) :
    ∃ c', Ext (fun x => d ≤ x ∧ x ≤ d + 8) (fun _ => 0) c' w.heap.size ∧ DPool c' d (F.alloc (.cells #[.string key, .pointer (some ⟨a, 0, none⟩), .slice none 0 0, .slice (some ⟨O, 0, none⟩) 5 5, .int .i64 5] 191)) F.heap.size 0 := by
  have z1 : wN.heap.size ≤ F.heap.size := gN.size
  have z2 : w.heap.size ≤ F.heap.size := gF.size
  have z3 := hO.lt
  obtain ⟨c', hc⟩ : ∃ c' : Nat → Nat, c' = fun b => if b < w.heap.size then 0 else if b = F.heap.size then d + 6 else if b = O then d + 7 else if d ≤ c1 b ∧ c1 b ≤ d + 5 then c1 b else d := ⟨_, rfl⟩
  have ce : ∀ b, c' b = if b < w.heap.size then 0 else if b = F.heap.size then d + 6 else if b = O then d + 7 else if d ≤ c1 b ∧ c1 b ≤ d + 5 then c1 b else d := fun b => by rw [hc]
  refine ⟨c', ⟨fun b hb => by rw [ce, if_pos hb], fun b hb => ?_⟩, ?_, by simp, fun _ => ⟨a, A, O, _, key, ?_, ((hA.re fun b hb e1 e2 => ?_).keep (fun b hb _ _ => Below.block gN b hb)).keep (fun b hb _ _ => Below.heap_alloc _ _ _ hb), Has.new _ _ _, hO.alloc _, fun _ => rfl, fun e => by omega⟩⟩
  · show d ≤ c' b ∧ c' b ≤ d + 8
    rw [ce, if_neg (by omega)]
    by_cases e1 : b = F.heap.size
    · rw [if_pos e1]; omega
    · rw [if_neg e1]
      by_cases e2 : b = O
      · rw [if_pos e2]; omega
      · rw [if_neg e2]
        by_cases e3 : d ≤ c1 b ∧ c1 b ≤ d + 5
        · rw [if_pos e3]; omega
        · rw [if_neg e3]; omega
  · rw [ce, if_neg (by omega), if_pos rfl]
  · rw [ce, if_neg (by omega), if_neg (by omega), if_pos rfl]
  · have hbW : W.heap.size ≤ b := by
      rcases Nat.lt_or_ge b W.heap.size with q | q
      · have : c1 b = 0 := hE.1 b q
        omega
      · exact q
    rw [ce, if_neg (by omega), if_neg (by omega), if_neg (by omega), if_pos ⟨e1, e2⟩]
set_option maxRecDepth 100000 in
set_option maxHeartbeats 6400000 in
theorem dpnew_c (d : Nat) (hd : 1 ≤ d) (key : ByteArray) (hk : key.size = 16) (w : World) : Calls Tryz.prog 33 #[.int .i64 5, .string key] w fun e w' => ∃ p, e = .returned (.pointer (some ⟨p, 0, none⟩)) ∧ ∃ c', Ext (fun x => d ≤ x ∧ x ≤ d + 8) (fun _ => 0) c' w.heap.size ∧ DPool c' d w' p 0 ∧ Below w.heap.size w w' := by
  have hmk : ∀ W : World, (Instr.makeSlice 114 (.int .i64 5) (.int .i64 5)).run Tryz.prog W = .ok (.slice (some ⟨W.heap.size, 0, none⟩) 5 5) (W.alloc (.cells #[.int .i64 0, .int .i64 0, .int .i64 0, .int .i64 0, .int .i64 0] 3)) := fun W => by kernel_rfl
  have HA := Lib.hid (danew_c d hd)
  go_enter Tryz.func33, Tryz.ntmps33
  go_wp2_with fail
  go_region_held3 (fun W => True) (exact trivial) ((go_at_call 63; refine (HA.out _).mono ?_; rintro _ wN ⟨a, rfl, A, c1, hE, hA, bN⟩))
  all_goals
    have HE := Lib.hid hE
    have HAA := Lib.hid hA
    clear hE hA HA
    go_wp2_with fail
    go_ret
    refine ⟨_, rfl, ?_⟩
    first
      | (have gN : GG w wN := GG.step (GG.drew (GG.refl w)) bN
         obtain ⟨c', h1, h2⟩ := dp_leaf d hd (w := w) (W := w.drew) (wN := wN) (F := wN.alloc (.cells #[.int .i64 0, .int .i64 0, .int .i64 0, .int .i64 0, .int .i64 0] 3)) (O := wN.heap.size) (key := key) (gN.alloc _) (Nat.le_refl _) HE.out HAA.out ((GG.refl wN).alloc _) (Has.new _ _ _) gN.size (.inr (Nat.le_refl _))
         exact ⟨c', h1, by simpa using h2, (gN.alloc _).alloc _⟩)
      | (have gN : GG w wN := GG.step (((GG.refl w).alloc (.cells #[.int .i64 0, .int .i64 0, .int .i64 0, .int .i64 0, .int .i64 0] 3)).drew) bN
         obtain ⟨c', h1, h2⟩ := dp_leaf d hd (w := w) (W := (w.alloc (.cells #[.int .i64 0, .int .i64 0, .int .i64 0, .int .i64 0, .int .i64 0] 3)).drew) (wN := wN) (F := wN) (O := w.heap.size) (key := key) gN (by simp [World.drew]) HE.out HAA.out (GG.refl wN) (Has.below (Has.drew (Has.new w #[.int .i64 0, .int .i64 0, .int .i64 0, .int .i64 0, .int .i64 0] 3)) bN) (Nat.le_refl _) (.inl (by simp [World.drew]))
         exact ⟨c', h1, h2, gN.alloc _⟩)
set_option maxRecDepth 100000 in
set_option maxHeartbeats 3200000 in
theorem dplace0_c (p  : Nat) (w : World) (c2 : w.cell? ⟨p, 2, none⟩ = some (.slice none 0 0))  : Calls Tryz.prog 70 #[.pointer (some ⟨p, 0, none⟩), .int .i64 1] w fun e w' => e = .returned (.tuple #[.int .i64 0, .bool false]) ∧ Below w.heap.size w w' := by
  go_enter Tryz.func70, Tryz.ntmps70
  go_wp2_with fail
  go_loopw [6] (fun i wr => ∃ j : Nat, j ≤ 0 ∧ i = .int .i64 (j : Int) ∧ wr = w) (fun i _ => 0 - (intOf i).toNat)
  case atStart => exact ⟨0, by omega, rfl, rfl⟩
  case round =>
    obtain ⟨j, hj, rfl, rfl⟩ := hrel
    obtain rfl : j = 0 := by omega
    go_wp2_with fail
    go_region
    go_wp2_with fail
    go_ret2
    exact ⟨rfl, (Below.refl _ _).drew⟩
set_option maxRecDepth 100000 in
set_option maxHeartbeats 3200000 in
theorem dactive0_c (p  : Nat) (w : World) (c2 : w.cell? ⟨p, 2, none⟩ = some (.slice none 0 0))  : Calls Tryz.prog 71 #[.pointer (some ⟨p, 0, none⟩)] w fun e w' => e = .returned (.int .i64 0) ∧ Below w.heap.size w w' := by
  go_enter Tryz.func71, Tryz.ntmps71
  go_wp2_with fail
  go_loopw [3, 4] (fun a i wr => ∃ j : Nat, j ≤ 0 ∧ i = .int .i64 (j : Int) ∧ a = .int .i64 (j : Int) ∧ wr = w) (fun _ i _ => 0 - (intOf i).toNat)
  case atStart => exact ⟨0, by omega, rfl, rfl, rfl⟩
  case round =>
    obtain ⟨j, hj, rfl, rfl, rfl⟩ := hrel
    obtain rfl : j = 0 := by omega
    go_wp2_with fail
    go_ret
    exact ⟨rfl, Below.refl _ _⟩
set_option maxRecDepth 100000 in
set_option maxHeartbeats 3200000 in
theorem dplace1_c (p g cap : Nat) (w : World) (c2 : w.cell? ⟨p, 2, none⟩ = some (.slice (some ⟨g, 0, none⟩) 1 cap)) (g0 : w.cell? ⟨g, 0, none⟩ = some (.int .i64 1)) (g3 : w.cell? ⟨g, 3, none⟩ = some (.int .i64 1)) : Calls Tryz.prog 70 #[.pointer (some ⟨p, 0, none⟩), .int .i64 2] w fun e w' => e = .returned (.tuple #[.int .i64 1, .bool false]) ∧ Below w.heap.size w w' := by
  go_enter Tryz.func70, Tryz.ntmps70
  go_wp2_with fail
  go_loopw [6] (fun i wr => ∃ j : Nat, j ≤ 1 ∧ i = .int .i64 (j : Int) ∧ wr = w) (fun i _ => 1 - (intOf i).toNat)
  case atStart => exact ⟨0, by omega, rfl, rfl⟩
  case round =>
    obtain ⟨j, hj, rfl, rfl⟩ := hrel
    have hj' : j = 0 ∨ j = 1 := by omega
    clear hj
    rcases hj' with rfl | rfl
    · go_wp2_with fail
      go_roundw
      case rel => exact ⟨1, by omega, by first | rfl | trivial, by first | rfl | trivial⟩
      case measure => simp [intOf]
    · go_wp2_with fail
      go_region
      go_wp2_with fail
      go_ret2
      exact ⟨rfl, (Below.refl _ _).drew⟩
set_option maxRecDepth 100000 in
set_option maxHeartbeats 3200000 in
theorem dactive1_c (p g cap : Nat) (w : World) (c2 : w.cell? ⟨p, 2, none⟩ = some (.slice (some ⟨g, 0, none⟩) 1 cap)) (g0 : w.cell? ⟨g, 0, none⟩ = some (.int .i64 1)) (g3 : w.cell? ⟨g, 3, none⟩ = some (.int .i64 1)) : Calls Tryz.prog 71 #[.pointer (some ⟨p, 0, none⟩)] w fun e w' => e = .returned (.int .i64 1) ∧ Below w.heap.size w w' := by
  go_enter Tryz.func71, Tryz.ntmps71
  go_wp2_with fail
  go_loopw [3, 4] (fun a i wr => ∃ j : Nat, j ≤ 1 ∧ i = .int .i64 (j : Int) ∧ a = .int .i64 (j : Int) ∧ wr = w) (fun _ i _ => 1 - (intOf i).toNat)
  case atStart => exact ⟨0, by omega, rfl, rfl, rfl⟩
  case round =>
    obtain ⟨j, hj, rfl, rfl, rfl⟩ := hrel
    have hj' : j = 0 ∨ j = 1 := by omega
    clear hj
    rcases hj' with rfl | rfl
    · go_wp2_with fail
      go_roundw
      case rel => exact ⟨1, by omega, by first | rfl | trivial, by first | rfl | trivial, by first | rfl | trivial⟩
      case measure => simp [intOf]
    · go_wp2_with fail
      go_ret
      exact ⟨rfl, Below.refl _ _⟩
end Go.Proofs.YtngdebpaheejlaaGreatDoor
namespace Go.Proofs.YtngdebpaheejlaaGreatDoor
open Go.RowKit Go.Shelf
set_option linter.unusedSimpArgs false
set_option linter.unusedVariables false
theorem info206 : (Tryz.prog.info? 206).map (fun i => (i.zero, i.size, i.bytes)) = some (some (.agg #[.int .i64 0, .int .u32 0, .int .i64 0, .int .i64 0, .int .i64 0]), 5, 40) := by kernel_rfl
theorem wpList_appr {ops : Array Oper} {rest : List Oper} {o : Oper} {a : Act} {w w' : World} {Q : Exit → Act → World → Prop} (hgd : o.guard = none) (s x : Operand) (t : TypeId) (ho : o.op = .call { callee := .builtin .append, args := #[s, x], argTypes := #[t, t] }) {v u v' : Value} (hs : a.eval s = v) (hx : a.eval x = u) (hr : (Builtin.append_ #[t, t] o.type #[v, u]).run Tryz.prog w = .ok v' w') (h : wpList Tryz.prog ops Q rest (a.put o.dst v') w') : wpList Tryz.prog ops Q (o :: rest) a w :=
  wpList_plain hgd fun _ hK => wp_appr s x t ho hs hx hr (hK _ _ h)
theorem app189_nil (ty : TypeId) (w : World) (base : Option Addr) (n c c2 : Nat) (h : n ≤ c) : (Builtin.append_ #[189, 189] ty #[.slice base n c, .slice none 0 c2]).run Tryz.prog w = .ok (.slice base n c) w := by
  obtain ⟨i0, hi0, hz0, hs0, hb0⟩ := info_parts info206
  exact run_append_nothing w 189 189 ty 206 i0 Tryz.underlying189 hi0 base n c h _ (Src.ofNil w Tryz.underlying189 c2)
theorem app189_zero (ty : TypeId) (w : World) (base : Option Addr) (n c c2 : Nat) (a : Addr) (h : n ≤ c) : (Builtin.append_ #[189, 189] ty #[.slice base n c, .slice (some a) 0 c2]).run Tryz.prog w = .ok (.slice base n c) w := by
  obtain ⟨i0, hi0, hz0, hs0, hb0⟩ := info_parts info206
  exact run_append_nothing w 189 189 ty 206 i0 Tryz.underlying189 hi0 base n c h _ (Src.ofSlice w Tryz.underlying189 a 0 c2 [] (by simp) (fun j u hj => by simp at hj) (fun u hu => by simp at hu))
set_option maxRecDepth 100000 in
set_option maxHeartbeats 6400000 in
theorem dpadd1_c (c : Nat → Nat) (d p : Nat) (hd : 1 ≤ d) (w : World) (h : DPool c d w p 0) :
    Calls Tryz.prog 39 #[.pointer (some ⟨p, 0, none⟩), .agg #[.int .i64 1, .int .u32 51, .int .i64 8080]] w fun e w' => e = .returned (.int .i64 0) ∧ ∃ c', (∀ b, b < w.heap.size → c' b = c b) ∧ (∀ b, w.heap.size ≤ b → d ≤ c' b ∧ c' b ≤ d + 8) ∧ DPool c' d w' p 1 ∧ Chg (fun b => d ≤ c b ∧ c b ≤ d + 8) w w' := by
  have h1 := h.re (c2 := owner c w.heap.size (d + 8)) (fun b hb _ _ => own_lt hb)
  obtain ⟨c1, hc1⟩ : ∃ c1, c1 = owner c w.heap.size (d + 8) := ⟨_, rfl⟩
  rw [← hc1] at h1
  have EL : Hid (∀ b, b < w.heap.size → c1 b = c b) := fun b hb => by rw [hc1]; exact own_lt hb
  have EB : Hid (∀ b, w.heap.size ≤ b → c1 b = d + 8) := fun b hb => by rw [hc1]; exact own_back hb
  clear h hc1
  obtain ⟨cp, plt, h⟩ := h1
  obtain ⟨a, A, O, sL, key, cO, hA, hP, hO, hs, _⟩ := h (by decide)
  obtain rfl := hs rfl
  have Olt := hO.lt
  have hX := Has.new w #[.int .i64 1, .int .u32 51, .int .i64 8080] 68
  have b1 : GG w (w.alloc (.cells #[.int .i64 1, .int .u32 51, .int .i64 8080] 68)) := (GG.refl _).alloc _
  have hA := hA.keep (w' := w.alloc (.cells #[.int .i64 1, .int .u32 51, .int .i64 8080] 68)) (fun b hb _ _ => Below.block b1 b hb)
  have hP := hP.alloc (.cells #[.int .i64 1, .int .u32 51, .int .i64 8080] 68)
  have hO := hO.alloc (.cells #[.int .i64 1, .int .u32 51, .int .i64 8080] 68)
  go_enter Tryz.func39, Tryz.ntmps39
  obtain ⟨w1, hw⟩ : ∃ W, W = w.alloc (.cells #[.int .i64 1, .int .u32 51, .int .i64 8080] 68) := ⟨_, rfl⟩
  obtain ⟨bx, hbx⟩ : ∃ b, b = w.heap.size := ⟨_, rfl⟩
  have LO := Lib.hid hbx
  rw [← hw] at hX b1 hA hP hO
  rw [← hbx] at hX
  have x0 := (hX.cell 0).trans rfl
  have x2 := (hX.cell 2).trans rfl
  rw [hw, hbx] at x0 x2
  go_wp2_with fail
  rw [← hw, ← hbx]
  clear x0 x2 hw hbx h
  refine (dplace0_c p w1 ((hP.cell 2).trans rfl)).mono ?_
  rintro e w2 ⟨rfl, b2⟩
  have hX := hX.below b2
  have hA := hA.keep (fun b hb _ _ => Below.block b2 b hb)
  have hP := hP.below b2
  have hO := hO.below b2
  have b2 := b1.step b2
  clear b1
  go_wp2_with fail
  refine (dactive0_c p w2 ((hP.cell 2).trans rfl)).mono ?_
  rintro e w3 ⟨rfl, b3⟩
  have hX := hX.below b3
  have hA := hA.keep (fun b hb _ _ => Below.block b3 b hb)
  have hP := hP.below b3
  have hO := hO.below b3
  have b3 := b2.step b3
  clear b2
  have p4 := (hP.cell 4).trans rfl
  have p1 := (hP.cell 1).trans rfl
  obtain ⟨ca, cA, ⟨sw, sl, sk, ss, hH, RW⟩, hAr⟩ := hA
  have a0 := (hH.cell 0).trans rfl
  have A0 : w3.cell? ⟨A, 0, none⟩ = some (.int .i64 0) := (hAr.cell 0).trans rfl
  have hA : DAnc c1 d w3 a A la5 (ints 5) (ints 5) (ints 5) st4 1 := ⟨ca, cA, ⟨sw, sl, sk, ss, hH, RW⟩, hAr⟩
  have HA := Lib.hid hA
  clear hH RW hAr hA
  go_wp2_with fail
  go_loopw [8] (fun i wr => i = .int .i64 0 ∧ wr = w3) (fun i _ => 0)
  case atStart => exact ⟨rfl, rfl⟩
  case round =>
    obtain ⟨rfl, rfl⟩ := hrel
    go_wp2_with fail
    have x3 : ∀ V : Gr wr, V.1.cell? ⟨p, 3, none⟩ = some (.slice (some ⟨O, 0, none⟩) 5 5) := fun V => ((V.has hP).cell 3).trans rfl
    have y0 : ∀ V : Gr wr, V.1.cell? ⟨bx, 0, none⟩ = some (.int .i64 1) := fun V => ((V.has hX).cell 0).trans rfl
    clear p4 p1 a0 A0
    refine wp_region_grows_tail 8 (by kernel_rfl) (by kernel_rfl) ?_
    simp only [List.take_succ_cons, List.take_zero, List.drop_succ_cons, List.drop_zero]
    repeat (go_big_quiet_step (fail))
    refine wpQuiet_nil ?_
    rintro _ ⟨V, rfl⟩
    have hX4 := V.has hX
    have hP4 := V.has hP
    have hO4 := V.has hO
    have hA4 := Lib.hid (HA.out.keep (fun b hb _ _ => V.2.block b hb))
    have b4 := b3.step V.2
    clear x3 y0
    obtain ⟨w4, hw⟩ : ∃ W, W = V.1 := ⟨_, rfl⟩
    rw [← hw] at hX4 hP4 hO4 hA4 b4 ⊢
    clear hw V
    have o0 := (hO4.cell 0).trans rfl
    have of := hO4.free 0
    have t0 := (hX4.cell 0).trans rfl
    have t1 := (hX4.cell 1).trans rfl
    have t2 := (hX4.cell 2).trans rfl
    have p2 := (hP4.cell 2).trans rfl
    have nO : p ≠ O := fun e => by rw [e] at cp; omega
    have nX : bx ≠ O := fun e => by have h1 := hX4; rw [e] at h1; exact h1.ne hO4 (by decide) rfl
    have nO' := Ne.symm nO
    have nX' := Ne.symm nX
    have O4 := hO4.set 0 (.int .i64 1)
    obtain ⟨i0, hi0, hz0, hs0, hb0⟩ := info_parts info206
    have HCN : Hid (∀ (j : Nat) (u : Value), [Value.int .i64 1, .int .u32 51, .int .i64 8080, .int .i64 1, .int .i64 0][j]? = some u → ((w4.setCell ⟨O, 0, none⟩ (.int .i64 1)).alloc (.cells #[.int .i64 1, .int .u32 51, .int .i64 8080, .int .i64 1, .int .i64 0] 206)).cell? ((⟨w4.heap.size, 0, none⟩ : Addr).add j) = some u) := fun j u hj => by
      have := (Has.new (w4.setCell ⟨O, 0, none⟩ (.int .i64 1)) #[.int .i64 1, .int .u32 51, .int .i64 8080, .int .i64 1, .int .i64 0] 206).cell j
      rw [add_none, Nat.zero_add]
      rw [show (w4.setCell ⟨O, 0, none⟩ (.int .i64 1)).heap.size = w4.heap.size by simp] at this
      rw [this]
      simpa using hj
    have OWN := (Row.nil (fun _ => False) (w4.setCell ⟨O, 0, none⟩ (.int .i64 1)) 206 5).1
    have STOP : ∀ {p : Prop}, Hid p → p := fun h => h.out
    go_wp2_with (at_builtin; refine STOP ?_)
    refine Lib.hid ?_
    refine wpList_appr rfl _ _ 189 rfl rfl rfl (app189_nil _ _ none 0 0 0 (Nat.le_refl _)) ?_
    go_wp2_with (at_builtin; refine STOP ?_)
    refine Lib.hid ?_
    refine wpList_append_lies _ rfl _ _ 189 rfl 0 206 i0 _ 5 40 Tryz.underlying189 hi0 hz0 hs0 hb0 rfl (by decide) (.slice none 0 0) 0 _ rfl (OWN.alloc _) ⟨w4.heap.size, 0, none⟩ 1 1 [.int .i64 1, .int .u32 51, .int .i64 8080, .int .i64 1, .int .i64 0] rfl rfl HCN.out (by simp [Value.oneCell']) (by omega) (by decide) (by omega) (by simp) (w4.heap.size + 1) (by simp) ?_
    intro g cap w5 own G hat hlt
    have hP5 : Has (w4.setCell ⟨O, 0, none⟩ (.int .i64 1)) p 191 _ := hP4.setOther (c := O) 0 nO (.int .i64 1)
    have hA5 := hA4.out.keep (w' := w4.setCell ⟨O, 0, none⟩ (.int .i64 1)) (fun b hb e1 e2 => Below.heap_setCell _ _ _ _ (fun e => by have e : b = O := e; rw [e] at e2; omega))
    have hrn := Row.nil (fun _ => False) (w4.setCell ⟨O, 0, none⟩ (.int .i64 1)) 206 5
    obtain ⟨RN, hC5, hz5, up⟩ := hrn.app own G (by simpa using hat)
    have hP6 := hP5.chg hC5 (fun e => e)
    have hO6 : Has w5 O 3 _ := Has.chg O4 hC5 (fun e => e)
    have hA6 := hA5.keep (w' := w5) (fun b hb _ _ => hC5.block b hb (fun e => e))
    have p2' := (hP6.cell 2).trans rfl
    have pf := hP6.free 2
    clear p2
    go_wp2_with (at_builtin; refine STOP ?_)
    refine Lib.hid ?_
    have hcap : 1 ≤ cap := RN.blk.2.2
    refine wpList_appr rfl _ _ 189 rfl rfl rfl (app189_nil _ _ _ _ _ 0 hcap) ?_
    have gp : g ≠ p := fun e => by
      have h1 := hP6
      rw [← e] at h1
      exact RN.ne h1 (by decide) rfl
    have FIN : Hid (DPool c1 d (w5.setCell ⟨p, 2, none⟩ (.slice (some ⟨g, 0, none⟩) 1 cap)) p 1) := by
      have hP7 := hP6.set 2 (.slice (some ⟨g, 0, none⟩) 1 cap)
      simp only [List.setIfInBounds_toArray, List.set] at hP7
      refine ⟨cp, hP7.lt, fun _ => ⟨a, A, O, _, key, cO, hA6.keep (fun b hb e1 e2 => Below.heap_setCell _ _ _ _ (fun e => by have e : b = p := e; rw [e] at e2; omega)), hP7, ?_, fun e => by omega, fun _ => ?_⟩⟩
      · have := hO6.setOther (c := p) 2 (Ne.symm nO) (.slice (some ⟨g, 0, none⟩) 1 cap)
        exact this
      · refine (RN.setOther (b := p) (fun e => gp (by cases e; rfl)) 2 _).mono (fun b hb => ?_)
        have h4 : w.heap.size ≤ w4.heap.size := b4.size
        rcases hb with hb | hb
        · exact hb.elim
        · refine EB.out b ?_
          have : w4.heap.size ≤ b := by simpa using hb
          omega
    have CC : Hid (Chg (fun b => d ≤ c b ∧ c b ≤ d + 8) w (w5.setCell ⟨p, 2, none⟩ (.slice (some ⟨g, 0, none⟩) 1 cap))) := by
      have e1 := EL.out p plt
      have e2 := EL.out O Olt
      exact (((Chg.of_below b4).set (b := O) (by omega) _ _).trans (hC5.mono (fun b _ h => h.elim))).set (b := p) (by omega) _ _
    clear hP6 hO6 hA6 RN hC5 hz5 up
    go_wp2_with fail
    go_ret
    exact ⟨rfl, c1, EL.out, fun b hb => by have := EB.out b hb; omega, FIN.out, CC.out⟩
end Go.Proofs.YtngdebpaheejlaaGreatDoor
namespace Go.Proofs.YtngdebpaheejlaaGreatDoor
open Go.RowKit Go.Shelf
set_option linter.unusedSimpArgs false
set_option linter.unusedVariables false
theorem Row.app0 {S : Nat → Prop} {w w' : World} {t size n m g cap : Nat} {v : Value} {xs news : List Value} (h : Row S w t size v n xs) (own : w'.ownsRow 0 t size (.slice (some ⟨g, 0, none⟩) m cap) m news) (G : w.grownBy w' v.ownBlock) (hat : v.ownBlock = some g ∨ g = w.heap.size) :
    Row (fun b => S b ∨ w.heap.size ≤ b) w' t size (.slice (some ⟨g, 0, none⟩) m cap) m news ∧ Chg S w w' := by
  refine ⟨⟨own, fun b e => ?_⟩, ⟨G.os, G.tape, G.output, G.size, fun k hk hn => G.block k hk (fun e => hn (h.2 k e.symm))⟩⟩
  cases e
  rcases hat with q | q
  · exact .inl (h.2 _ q)
  · exact .inr (by show w.heap.size ≤ g; omega)
set_option maxRecDepth 100000 in
set_option maxHeartbeats 6400000 in
theorem dpadd2_c (c : Nat → Nat) (d p : Nat) (hd : 1 ≤ d) (w : World) (h : DPool c d w p 1) :
    Calls Tryz.prog 39 #[.pointer (some ⟨p, 0, none⟩), .agg #[.int .i64 2, .int .u32 52, .int .i64 8080]] w fun e w' => e = .returned (.int .i64 0) ∧ Chg (fun b => d ≤ c b ∧ c b ≤ d + 8) w w' := by
  have h1 := h.re (c2 := owner c w.heap.size (d + 9)) (fun b hb _ _ => own_lt hb)
  obtain ⟨c1, hc1⟩ : ∃ c1, c1 = owner c w.heap.size (d + 9) := ⟨_, rfl⟩
  rw [← hc1] at h1
  have EL : Hid (∀ b, b < w.heap.size → c1 b = c b) := fun b hb => by rw [hc1]; exact own_lt hb
  have EB : Hid (∀ b, w.heap.size ≤ b → c1 b = d + 9) := fun b hb => by rw [hc1]; exact own_back hb
  clear h hc1
  obtain ⟨cp, plt, h⟩ := h1
  obtain ⟨a, A, O, sL, key, cO, hA, hP, hO, _, hs⟩ := h (by decide)
  have hL := hs rfl
  clear h hs
  obtain ⟨g0, cap0, rfl⟩ := hL.form (by decide)
  have hcap0 : 1 ≤ cap0 := hL.blk.2.2
  have hg0c : c1 g0 = d + 8 := hL.blk.1
  have Olt := hO.lt
  have hX := Has.new w #[.int .i64 2, .int .u32 52, .int .i64 8080] 68
  have b1 : GG w (w.alloc (.cells #[.int .i64 2, .int .u32 52, .int .i64 8080] 68)) := (GG.refl _).alloc _
  have hA := hA.keep (w' := w.alloc (.cells #[.int .i64 2, .int .u32 52, .int .i64 8080] 68)) (fun b hb _ _ => Below.block b1 b hb)
  have hP := hP.alloc (.cells #[.int .i64 2, .int .u32 52, .int .i64 8080] 68)
  have hO := hO.alloc (.cells #[.int .i64 2, .int .u32 52, .int .i64 8080] 68)
  have hL := hL.keep (KeepM.below b1)
  have bxw : Hid (∀ b, b = w.heap.size → w.heap.size ≤ b) := fun b e => by omega
  go_enter Tryz.func39, Tryz.ntmps39
  obtain ⟨w1, hw⟩ : ∃ W, W = w.alloc (.cells #[.int .i64 2, .int .u32 52, .int .i64 8080] 68) := ⟨_, rfl⟩
  obtain ⟨bx, hbx⟩ : ∃ b, b = w.heap.size := ⟨_, rfl⟩
  have LO := Lib.hid hbx
  rw [← hw] at hX b1 hA hP hO hL
  rw [← hbx] at hX
  have x0 := (hX.cell 0).trans rfl
  have x2 := (hX.cell 2).trans rfl
  rw [hw, hbx] at x0 x2
  go_wp2_with fail
  rw [← hw, ← hbx]
  clear x0 x2 hw hbx
  refine (dplace1_c p g0 cap0 w1 ((hP.cell 2).trans rfl) (hL.cellAt (by decide)) (hL.cellAt (by decide))).mono ?_
  rintro e w2 ⟨rfl, b2⟩
  have hX := hX.below b2
  have hA := hA.keep (fun b hb _ _ => Below.block b2 b hb)
  have hP := hP.below b2
  have hO := hO.below b2
  have hL := hL.keep (KeepM.below b2)
  have b2 := b1.step b2
  clear b1
  go_wp2_with fail
  refine (dactive1_c p g0 cap0 w2 ((hP.cell 2).trans rfl) (hL.cellAt (by decide)) (hL.cellAt (by decide))).mono ?_
  rintro e w3 ⟨rfl, b3⟩
  have hX := hX.below b3
  have hA := hA.keep (fun b hb _ _ => Below.block b3 b hb)
  have hP := hP.below b3
  have hO := hO.below b3
  have hL := hL.keep (KeepM.below b3)
  have b3 := b2.step b3
  clear b2
  have p4 := (hP.cell 4).trans rfl
  have p1 := (hP.cell 1).trans rfl
  have HAD := Lib.hid (daadd_c c1 d a A hd w3 hA)
  go_wp2_with fail
  refine HAD.out.mono ?_
  rintro e w4 ⟨rfl, cA⟩
  have xb : c1 bx = d + 9 := EB.out bx (by have := LO.out; omega)
  have hX := hX.chg cA (fun e => by omega)
  have hP := hP.chg cA (fun e => by omega)
  have hO := hO.chg cA (fun e => by omega)
  have hL := hL.keep (fun b hb (e : c1 b = d + 8) => cA.block b hb (fun e2 => by omega))
  have C4 : Chg (fun b => d ≤ c b ∧ c b ≤ d + 8) w w4 := (Chg.of_below b3).then cA (fun b hb e => by have := EL.out b hb; omega)
  clear HAD cA hA p4 p1 b3
  go_wp2_with fail
  have x3 : ∀ V : Gr w4, V.1.cell? ⟨p, 3, none⟩ = some (.slice (some ⟨O, 0, none⟩) 5 5) := fun V => ((V.has hP).cell 3).trans rfl
  have y0 : ∀ V : Gr w4, V.1.cell? ⟨bx, 0, none⟩ = some (.int .i64 2) := fun V => ((V.has hX).cell 0).trans rfl
  refine wp_region_grows_tail 8 (by kernel_rfl) (by kernel_rfl) ?_
  simp only [List.take_succ_cons, List.take_zero, List.drop_succ_cons, List.drop_zero]
  repeat (go_big_quiet_step (fail))
  refine wpQuiet_nil ?_
  rintro _ ⟨V, rfl⟩
  have hX5 := V.has hX
  have hP5 := V.has hP
  have hO5 := V.has hO
  have hL5 := hL.keep (KeepM.below V.2)
  have C5 := C4.trans (Chg.of_below V.2)
  clear x3 y0 hX hP hO hL C4
  obtain ⟨w5, hw⟩ : ∃ W, W = V.1 := ⟨_, rfl⟩
  rw [← hw] at hX5 hP5 hO5 hL5 C5 ⊢
  clear hw V
  have o1 := (hO5.cell 1).trans rfl
  have of := hO5.free 1
  have t0 := (hX5.cell 0).trans rfl
  have t1 := (hX5.cell 1).trans rfl
  have t2 := (hX5.cell 2).trans rfl
  have p2 := (hP5.cell 2).trans rfl
  have nO : p ≠ O := fun e => by rw [e] at cp; omega
  have nX : bx ≠ O := fun e => by have h1 := hX5; rw [e] at h1; exact h1.ne hO5 (by decide) rfl
  have nG : g0 ≠ O := fun e => by rw [e] at hg0c; omega
  have nO' := Ne.symm nO
  have nX' := Ne.symm nX
  obtain ⟨i0, hi0, hz0, hs0, hb0⟩ := info_parts info206
  have STOP : ∀ {p : Prop}, Hid p → p := fun h => h.out
  go_wp2_with (at_builtin; refine STOP ?_)
  refine Lib.hid ?_
  have hP6 := hP5.setOther (c := O) 1 nO (.int .i64 2)
  have hX6 := hX5.setOther (c := O) 1 nX (.int .i64 2)
  have hL6 := hL5.setOther (b := O) (fun e => nG (by cases e; rfl)) 1 (.int .i64 2)
  have C6 := C5.set (b := O) (by have := EL.out O Olt; omega) 1 (.int .i64 2)
  clear hX5 hP5 hO5 hL5 C5 o1 of t0 t1 t2 p2
  obtain ⟨w6, hw⟩ : ∃ W, W = w5.setCell ⟨O, 1, none⟩ (.int .i64 2) := ⟨_, rfl⟩
  rw [← hw] at hP6 hX6 hL6 C6 ⊢
  clear hw
  have HS6 : Hid (w.heap.size ≤ w6.heap.size) := C6.size
  have hrn := Row.nil (fun _ => False) w6 206 5
  refine wpList_append_lies _ rfl _ _ 189 rfl 0 206 i0 _ 5 40 Tryz.underlying189 hi0 hz0 hs0 hb0 rfl (by decide) (.slice none 0 0) 0 _ rfl hrn.1 ⟨g0, 0, none⟩ 1 cap0 mem1 rfl rfl (fun j u hj => ?_) (by decide) (by decide) (by decide) (by decide) (Nat.zero_le _) w6.heap.size rfl ?_
  · rw [add_none, Nat.zero_add]
    have hj5 : j < 5 := by
      have := (List.getElem?_eq_some_iff.1 hj).1
      simpa [mem1] using this
    exact (hL6.cellAt hj5).trans hj
  intro g cap w7 own G hat hlt
  obtain ⟨RN, hC7⟩ := hrn.app0 own G hat
  have hP7 := hP6.chg hC7 (fun e => e)
  have hX7 := hX6.chg hC7 (fun e => e)
  have C7 := C6.trans (hC7.mono (fun b _ h => h.elim))
  have RN : Row (fun b => w6.heap.size ≤ b) w7 206 5 (.slice (some ⟨g, 0, none⟩) (0 + 1) cap) (0 + 1) mem1 := RN.mono (fun b h => h.elim (fun h => h.elim) id)
  have gp : g ≠ p := fun e => by
    have h1 := hP7
    rw [← e] at h1
    exact RN.ne h1 (by decide) rfl
  clear own G hat hlt hrn hL6 hP6 hX6 C6 hC7
  have t0 := (hX7.cell 0).trans rfl
  have t1 := (hX7.cell 1).trans rfl
  have t2 := (hX7.cell 2).trans rfl
  go_wp2_with (at_builtin; refine STOP ?_)
  refine Lib.hid ?_
  have HCN : Hid (∀ (j : Nat) (u : Value), [Value.int .i64 2, .int .u32 52, .int .i64 8080, .int .i64 1, .int .i64 1][j]? = some u → (w7.alloc (.cells #[.int .i64 2, .int .u32 52, .int .i64 8080, .int .i64 1, .int .i64 1] 206)).cell? ((⟨w7.heap.size, 0, none⟩ : Addr).add j) = some u) := fun j u hj => by
    have := (Has.new w7 #[.int .i64 2, .int .u32 52, .int .i64 8080, .int .i64 1, .int .i64 1] 206).cell j
    rw [add_none, Nat.zero_add]
    rw [this]
    simpa using hj
  refine wpList_append_lies _ rfl _ _ 189 rfl 0 206 i0 _ 5 40 Tryz.underlying189 hi0 hz0 hs0 hb0 rfl (by decide) (.slice (some ⟨g, 0, none⟩) (0 + 1) cap) (0 + 1) _ rfl (RN.1.alloc _) ⟨w7.heap.size, 0, none⟩ 1 1 [.int .i64 2, .int .u32 52, .int .i64 8080, .int .i64 1, .int .i64 1] rfl rfl HCN.out (by simp [Value.oneCell']) (by omega) (by decide) (by omega) (by simp) (w7.heap.size + 1) (by simp) ?_
  intro g2 cap2 w8 own G hat hlt
  obtain ⟨RN8, hC8, hz8, up⟩ := RN.app own G (by simpa using hat)
  have hP8 : Has w8 p 191 _ := (up p hP7.lt (RN.ne hP7 (by decide))).trans hP7
  have C8 : Chg (fun b => d ≤ c b ∧ c b ≤ d + 8) w w8 := C7.then hC8 (fun b hb (e : w6.heap.size ≤ b) => absurd (Nat.le_trans HS6.out e) (by omega))
  have p2 := (hP8.cell 2).trans rfl
  have pf := hP8.free 2
  have hcap2 : (0 + 1 + 1) ≤ cap2 := RN8.blk.2.2
  have CC : Hid (Chg (fun b => d ≤ c b ∧ c b ≤ d + 8) w (w8.setCell ⟨p, 2, none⟩ (.slice (some ⟨g2, 0, none⟩) (0 + 1 + 1) cap2))) := C8.set (b := p) (by have := EL.out p plt; omega) _ _
  clear hP8 RN8 hC8 hz8 up RN hP7 hX7 C7 own G hat hlt
  clear t0 t1 t2 HCN
  go_wp2_with (at_builtin; refine STOP ?_)
  all_goals
    refine Lib.hid ?_
    refine wpList_appr rfl _ _ 189 rfl rfl rfl (app189_zero _ _ _ _ _ _ _ hcap2) ?_
    go_wp2_with fail
    go_ret
    exact ⟨rfl, CC.out⟩
end Go.Proofs.YtngdebpaheejlaaGreatDoor
namespace Go.Proofs.YtngdebpaheejlaaGreatDoor
open Go.RowKit Go.Shelf
set_option linter.unusedSimpArgs false
set_option linter.unusedVariables false
theorem info199 : (Tryz.prog.info? 199).map (fun i => (i.zero, i.size, i.bytes)) = some (some (.agg #[.int .i64 0, .int .i64 0, .int .u32 0, .int .i64 0, .bool false, .int .u32 0]), 6, 40) := by kernel_rfl
theorem app111_nil (ty : TypeId) (w : World) (base : Option Addr) (n c c2 : Nat) (h : n ≤ c) : (Builtin.append_ #[111, 111] ty #[.slice base n c, .slice none 0 c2]).run Tryz.prog w = .ok (.slice base n c) w := by
  obtain ⟨i0, hi0, hz0, hs0, hb0⟩ := info_parts info199
  exact run_append_nothing w 111 111 ty 199 i0 Tryz.underlying111 hi0 base n c h _ (Src.ofNil w Tryz.underlying111 c2)
theorem app111_zero (ty : TypeId) (w : World) (base : Option Addr) (n c c2 : Nat) (a : Addr) (h : n ≤ c) : (Builtin.append_ #[111, 111] ty #[.slice base n c, .slice (some a) 0 c2]).run Tryz.prog w = .ok (.slice base n c) w := by
  obtain ⟨i0, hi0, hz0, hs0, hb0⟩ := info_parts info199
  exact run_append_nothing w 111 111 ty 199 i0 Tryz.underlying111 hi0 base n c h _ (Src.ofSlice w Tryz.underlying111 a 0 c2 [] (by simp) (fun j u hj => by simp at hj) (fun u hu => by simp at hu))
theorem dright1_c (w : World) : Calls Tryz.prog 66 #[.agg #[.int .i64 6, .int .u32 100, .int .i64 80, .bool false, .int .u32 200]] w fun e w' => e = .returned (.bool true) ∧ Below w.heap.size w w' := by
  go_enter Tryz.func66, Tryz.ntmps66
  go_wp2_with fail
  go_ret
  exact ⟨rfl, (Below.refl _ _).alloc (Nat.le_refl _) _⟩
theorem dright2_c (w : World) : Calls Tryz.prog 66 #[.agg #[.int .i64 17, .int .u32 100, .int .i64 53, .bool false, .int .u32 200]] w fun e w' => e = .returned (.bool true) ∧ Below w.heap.size w w' := by
  go_enter Tryz.func66, Tryz.ntmps66
  go_wp2_with fail
  go_ret
  exact ⟨rfl, (Below.refl _ _).alloc (Nat.le_refl _) _⟩
theorem dright3_c (w : World) : Calls Tryz.prog 66 #[.agg #[.int .i64 6, .int .u32 101, .int .i64 80, .bool true, .int .u32 0]] w fun e w' => e = .returned (.bool true) ∧ Below w.heap.size w w' := by
  go_enter Tryz.func66, Tryz.ntmps66
  go_wp2_with fail
  go_ret
  exact ⟨rfl, (Below.refl _ _).alloc (Nat.le_refl _) _⟩
theorem dright4_c (w : World) : Calls Tryz.prog 66 #[.agg #[.int .i64 17, .int .u32 102, .int .i64 9, .bool false, .int .u32 201]] w fun e w' => e = .returned (.bool true) ∧ Below w.heap.size w w' := by
  go_enter Tryz.func66, Tryz.ntmps66
  go_wp2_with fail
  go_ret
  exact ⟨rfl, (Below.refl _ _).alloc (Nat.le_refl _) _⟩
set_option maxRecDepth 100000 in
set_option maxHeartbeats 3200000 in
theorem dfind1_c (tb : Nat)  (w : World) (c0 : w.cell? ⟨tb, 0, none⟩ = some (.slice none 0 0))  : Calls Tryz.prog 67 #[.pointer (some ⟨tb, 0, none⟩), .int .i64 6, .int .u32 100, .int .i64 80] w fun e w' => e = .returned (.tuple #[.int .i64 0, .bool false]) ∧ w' = w := by
  skip
  go_enter Tryz.func67, Tryz.ntmps67
  go_wp2_with fail
  go_loopw [10] (fun i wr => ∃ j : Nat, j ≤ 0 ∧ i = .int .i64 (j : Int) ∧ wr = w) (fun i _ => 0 - (intOf i).toNat)
  case atStart => exact ⟨0, by omega, rfl, rfl⟩
  case round =>
    obtain ⟨j, hj, rfl, rfl⟩ := hrel
    have hj' : j = 0 := by omega
    clear hj
    rcases hj' with rfl
    · go_wp2_with fail
      go_ret2
      exact ⟨rfl, rfl⟩
set_option maxRecDepth 100000 in
set_option maxHeartbeats 3200000 in
theorem dfind2_c (tb : Nat) (g cap : Nat) (S : Nat → Prop) (w : World) (c0 : w.cell? ⟨tb, 0, none⟩ = some (.slice (some ⟨g, 0, none⟩) 1 cap)) (hL : Row S w 199 6 (.slice (some ⟨g, 0, none⟩) 1 cap) 1 [.int .i64 1, .int .i64 6, .int .u32 100, .int .i64 80, .bool false, .int .u32 200]) : Calls Tryz.prog 67 #[.pointer (some ⟨tb, 0, none⟩), .int .i64 17, .int .u32 100, .int .i64 53] w fun e w' => e = .returned (.tuple #[.int .i64 0, .bool false]) ∧ w' = w := by
  have e0_1 : w.cell? ⟨g, 1, none⟩ = some (.int .i64 6) := hL.cellAt (by decide)
  have e0_2 : w.cell? ⟨g, 2, none⟩ = some (.int .u32 100) := hL.cellAt (by decide)
  have e0_3 : w.cell? ⟨g, 3, none⟩ = some (.int .i64 80) := hL.cellAt (by decide)
  clear hL
  go_enter Tryz.func67, Tryz.ntmps67
  go_wp2_with fail
  go_loopw [10] (fun i wr => ∃ j : Nat, j ≤ 1 ∧ i = .int .i64 (j : Int) ∧ wr = w) (fun i _ => 1 - (intOf i).toNat)
  case atStart => exact ⟨0, by omega, rfl, rfl⟩
  case round =>
    obtain ⟨j, hj, rfl, rfl⟩ := hrel
    have hj' : j = 0 ∨ j = 1 := by omega
    clear hj
    rcases hj' with rfl | rfl
    · go_wp2_with fail
      go_roundw
      case rel => exact ⟨1, by omega, by first | rfl | trivial, by first | rfl | trivial⟩
      case measure => simp [intOf]
    · go_wp2_with fail
      go_ret2
      exact ⟨rfl, rfl⟩
set_option maxRecDepth 100000 in
set_option maxHeartbeats 3200000 in
theorem dfind3_c (tb : Nat) (g cap : Nat) (S : Nat → Prop) (w : World) (c0 : w.cell? ⟨tb, 0, none⟩ = some (.slice (some ⟨g, 0, none⟩) 2 cap)) (hL : Row S w 199 6 (.slice (some ⟨g, 0, none⟩) 2 cap) 2 [.int .i64 1, .int .i64 6, .int .u32 100, .int .i64 80, .bool false, .int .u32 200, .int .i64 2, .int .i64 17, .int .u32 100, .int .i64 53, .bool false, .int .u32 200]) : Calls Tryz.prog 67 #[.pointer (some ⟨tb, 0, none⟩), .int .i64 6, .int .u32 101, .int .i64 80] w fun e w' => e = .returned (.tuple #[.int .i64 0, .bool false]) ∧ w' = w := by
  have e0_1 : w.cell? ⟨g, 1, none⟩ = some (.int .i64 6) := hL.cellAt (by decide)
  have e0_2 : w.cell? ⟨g, 2, none⟩ = some (.int .u32 100) := hL.cellAt (by decide)
  have e0_3 : w.cell? ⟨g, 3, none⟩ = some (.int .i64 80) := hL.cellAt (by decide)
  have e1_1 : w.cell? ⟨g, 7, none⟩ = some (.int .i64 17) := hL.cellAt (by decide)
  have e1_2 : w.cell? ⟨g, 8, none⟩ = some (.int .u32 100) := hL.cellAt (by decide)
  have e1_3 : w.cell? ⟨g, 9, none⟩ = some (.int .i64 53) := hL.cellAt (by decide)
  clear hL
  go_enter Tryz.func67, Tryz.ntmps67
  go_wp2_with fail
  go_loopw [10] (fun i wr => ∃ j : Nat, j ≤ 2 ∧ i = .int .i64 (j : Int) ∧ wr = w) (fun i _ => 2 - (intOf i).toNat)
  case atStart => exact ⟨0, by omega, rfl, rfl⟩
  case round =>
    obtain ⟨j, hj, rfl, rfl⟩ := hrel
    have hj' : j = 0 ∨ j = 1 ∨ j = 2 := by omega
    clear hj
    rcases hj' with rfl | rfl | rfl
    · go_wp2_with fail
      go_roundw
      case rel => exact ⟨1, by omega, by first | rfl | trivial, by first | rfl | trivial⟩
      case measure => simp [intOf]
    · go_wp2_with fail
      go_roundw
      case rel => exact ⟨2, by omega, by first | rfl | trivial, by first | rfl | trivial⟩
      case measure => simp [intOf]
    · go_wp2_with fail
      go_ret2
      exact ⟨rfl, rfl⟩
set_option maxRecDepth 100000 in
set_option maxHeartbeats 3200000 in
theorem dfind4_c (tb : Nat) (g cap : Nat) (S : Nat → Prop) (w : World) (c0 : w.cell? ⟨tb, 0, none⟩ = some (.slice (some ⟨g, 0, none⟩) 3 cap)) (hL : Row S w 199 6 (.slice (some ⟨g, 0, none⟩) 3 cap) 3 [.int .i64 1, .int .i64 6, .int .u32 100, .int .i64 80, .bool false, .int .u32 200, .int .i64 2, .int .i64 17, .int .u32 100, .int .i64 53, .bool false, .int .u32 200, .int .i64 3, .int .i64 6, .int .u32 101, .int .i64 80, .bool true, .int .u32 0]) : Calls Tryz.prog 67 #[.pointer (some ⟨tb, 0, none⟩), .int .i64 17, .int .u32 102, .int .i64 9] w fun e w' => e = .returned (.tuple #[.int .i64 0, .bool false]) ∧ w' = w := by
  have e0_1 : w.cell? ⟨g, 1, none⟩ = some (.int .i64 6) := hL.cellAt (by decide)
  have e0_2 : w.cell? ⟨g, 2, none⟩ = some (.int .u32 100) := hL.cellAt (by decide)
  have e0_3 : w.cell? ⟨g, 3, none⟩ = some (.int .i64 80) := hL.cellAt (by decide)
  have e1_1 : w.cell? ⟨g, 7, none⟩ = some (.int .i64 17) := hL.cellAt (by decide)
  have e1_2 : w.cell? ⟨g, 8, none⟩ = some (.int .u32 100) := hL.cellAt (by decide)
  have e1_3 : w.cell? ⟨g, 9, none⟩ = some (.int .i64 53) := hL.cellAt (by decide)
  have e2_1 : w.cell? ⟨g, 13, none⟩ = some (.int .i64 6) := hL.cellAt (by decide)
  have e2_2 : w.cell? ⟨g, 14, none⟩ = some (.int .u32 101) := hL.cellAt (by decide)
  have e2_3 : w.cell? ⟨g, 15, none⟩ = some (.int .i64 80) := hL.cellAt (by decide)
  clear hL
  go_enter Tryz.func67, Tryz.ntmps67
  go_wp2_with fail
  go_loopw [10] (fun i wr => ∃ j : Nat, j ≤ 3 ∧ i = .int .i64 (j : Int) ∧ wr = w) (fun i _ => 3 - (intOf i).toNat)
  case atStart => exact ⟨0, by omega, rfl, rfl⟩
  case round =>
    obtain ⟨j, hj, rfl, rfl⟩ := hrel
    have hj' : j = 0 ∨ j = 1 ∨ j = 2 ∨ j = 3 := by omega
    clear hj
    rcases hj' with rfl | rfl | rfl | rfl
    · go_wp2_with fail
      go_roundw
      case rel => exact ⟨1, by omega, by first | rfl | trivial, by first | rfl | trivial⟩
      case measure => simp [intOf]
    · go_wp2_with fail
      go_roundw
      case rel => exact ⟨2, by omega, by first | rfl | trivial, by first | rfl | trivial⟩
      case measure => simp [intOf]
    · go_wp2_with fail
      go_roundw
      case rel => exact ⟨3, by omega, by first | rfl | trivial, by first | rfl | trivial⟩
      case measure => simp [intOf]
    · go_wp2_with fail
      go_ret2
      exact ⟨rfl, rfl⟩
end Go.Proofs.YtngdebpaheejlaaGreatDoor
