/- A table in memory (instance P): Put and Remove over whatever heap of free handles. -/
import Derived.Test.YtckbffbjdcnklaaPTw3
import Derived.Test.YtckbffbjdcnklaaHeapW
namespace Go.Proofs.Ytckbffbjdcnklaa.P
open Go.RowKit
set_option linter.unusedSimpArgs false
set_option linter.unusedVariables false
section
variable {w0 : Base} {w w' : World} {tb g cap am bm room m cnt : Nat} {R : Nat → Option Row} {fa : ByteArray → Option Nat} {fb : Int → Option Nat} {fr : Value}
set_option maxRecDepth 100000 in
set_option maxHeartbeats 3200000 in
theorem rem_any (fo : Option (Nat × Nat)) (n : Nat) (H : Nat → Nat) (vf : Value) (h : TS w0 w tb g cap am bm room m cnt R fa fb vf) (hfr : FreeAt w fo n H vf) (hfo : ∀ f c, fo = some (f, c) → f ≠ tb ∧ f ≠ g ∧ f ≠ am ∧ f ≠ bm ∧ ¬ w0.Z f) (ho : HOrd n H) (hi : HInj n H) (x : Nat) (hx : ¬ HMem n H x) (hn : n < 70000) (r : Row) (hr : R x = some r) : Calls Try.prog 46 #[.pointer (some ⟨tb, 0, none⟩), .int .i64 x] w fun e w' => ∃ f capf H1, e = .returned (.bool true) ∧ TS w0 w' tb g cap am bm room m (cnt - 1) (setR R x none) (updF fa r.a none) (updF fb r.b none) (.slice (some ⟨f, 0, none⟩) (n + 1 : Nat) capf) ∧ HeapAt w' f capf (n + 1) H1 ∧ HOrd (n + 1) H1 ∧ HInj (n + 1) H1 ∧ (∀ y, HMem (n + 1) H1 y ↔ HMem n H y ∨ y = x) ∧ (f ≠ tb ∧ f ≠ g ∧ f ≠ am ∧ f ≠ bm) ∧ ¬ w0.Z f := by
  have HA := Lib.hid (at_yes h x r hr)
  obtain ⟨r1, r2, r3, r4⟩ := h.okR x r hr
  have NE := h.ne
  have tl := h.head.lt
  have al := h.alt
  have bl := h.blt
  have gl := h.rows.lt
  have c3 := h.head.cell 3
  have c4 := h.head.cell 4
  have d0 := h.rows.cell (x := x) (k := 0) r4 (by omega)
  have d1 := h.rows.cell (x := x) (k := 1) r4 (by omega)
  rw [hr] at d0 d1
  have q0 : w.cell? ⟨g, x * 4, none⟩ = some (vA r.a) := d0
  have q1 : w.cell? ⟨g, x * 4 + 1, none⟩ = some (vB r.b) := d1
  simp at c3 c4
  obtain ⟨MA, ga, hMA⟩ := h.ma
  obtain ⟨MB, gb, hMB⟩ := h.mb
  have hA1 : MA (kA r.a) = some (.int .i64 (x : Int)) := by rw [hMA _ r1, (h.coA _ x r1).2 ⟨r, hr, rfl⟩]; rfl
  have hB1 : MB (kB r.b) = some (.int .i64 (x : Int)) := by rw [hMB _ r2, (h.coB _ x r2).2 ⟨r, hr, rfl⟩]; rfl
  obtain ⟨w1, s1, gA1, t1⟩ := (ga.of_block (w' := w.drew) rfl).drop keyedA Try.underlying75 (keyA r1) 0
  rw [hA1] at gA1
  have gbX := gb.of_block (w' := w1.drew) (turned_block t1 NE.2.2.2.2.2.symm)
  obtain ⟨w2, s2, gB2, t2⟩ := gbX.drop keyedB Try.underlying86 (keyB r2) 0
  rw [hB1] at gB2
  have E2 : ∀ c, c ≠ am → c ≠ bm → w2.heap[c]? = w.heap[c]? := fun c n1 n2 => (turned_block t2 n2).trans (turned_block t1 n1)
  have E1 : ∀ c, c ≠ am → w1.heap[c]? = w.heap[c]? := fun c n1 => turned_block t1 n1
  have KA := Lib.hid (fun (W : World) (e : W.heap[tb]? = w.heap[tb]?) (e2 : W.heap[g]? = w.heap[g]?) => And.intro (Has.cell (e.trans h.head : Has W tb _ _) 3) (And.intro (Has.cell (e.trans h.head : Has W tb _ _) 4) (And.intro ((World.cell?_of_block (w := w) (a := ⟨g, x * 4, none⟩) e2).trans q0) ((World.cell?_of_block (w := w) (a := ⟨g, x * 4 + 1, none⟩) e2).trans q1))))
  have rows2 := h.rows.of_block (E2 g NE.2.2.2.1 NE.2.2.2.2.1)
  have p0 := rows2.cell (x := x) (k := 0) r4 (by omega)
  have p1 := rows2.cell (x := x) (k := 1) r4 (by omega)
  have p2 := rows2.cell (x := x) (k := 2) r4 (by omega)
  have p3 := rows2.cell (x := x) (k := 3) r4 (by omega)
  have g0 := rows2.free (x * 4)
  have g1 := rows2.free (x * 4 + 1)
  have g2 := rows2.free (x * 4 + 2)
  have g3 := rows2.free (x * 4 + 3)
  simp at p0
  have HT := Lib.hid h
  have C2 : Chg (fun c => c = am ∨ c = bm) w w2 := ((((Chg.refl _ w).drew).trans (Chg.turned t1 (.inl rfl))).drew).trans (Chg.turned t2 (.inr rfl))
  have K1 := KA.out w1 (E1 tb NE.2.1) (E1 g NE.2.2.2.1)
  have K1H := Lib.hid K1
  have K2H := Lib.hid (KA.out w2 (E2 tb NE.2.1 NE.2.2.1) (E2 g NE.2.2.2.1 NE.2.2.2.2.1))
  have m3 := K1.1
  have m4 := K1.2.1
  have mA := K1.2.2.1
  have mB := K1.2.2.2
  simp at m3 m4
  unfold vA at s1 q0 mA
  unfold vB at s2 q1 mB
  have DR : Hid (w2.drew.heap = w2.heap) := rfl
  clear h K1 d0 d1 ga gb gbX hA1 hB1
  go_enter Try.func46, Try.ntmps46
  go_wp2_with fail
  refine (HA.out).mono ?_
  rintro e w' ⟨rfl, rfl⟩
  go_wp2_with fail
  go_region_held3 (fun W => W.cell? ⟨tb, 3, none⟩ = some (.map (some am)) ∧ W.cell? ⟨g, x * 4, none⟩ = some (.string r.a)) (first | exact ⟨c3, q0⟩ | exact ⟨m3, mA⟩) (first | fail)
  all_goals
    go_wp2_with fail
    go_region_held3 (fun W => W.cell? ⟨tb, 4, none⟩ = some (.map (some bm)) ∧ W.cell? ⟨g, x * 4 + 1, none⟩ = some (.int .i64 r.b)) (first | exact ⟨m4, mB⟩ | exact ⟨K2H.out.2.1, K2H.out.2.2.2⟩) (first | fail)
    all_goals
      go_wp2_with fail
      have hd : Has ((((w2.setCell ⟨g, x * 4, none⟩ (.string ⟨#[]⟩)).setCell ⟨g, x * 4 + 1, none⟩ (.int .i64 0)).setCell ⟨g, x * 4 + 2, none⟩ (.string ⟨#[]⟩)).setCell ⟨g, x * 4 + 3, none⟩ (.bool false)) tb 105 #[.int .i64 room, .slice (some ⟨g, 0, none⟩) (m + 1 : Nat) cap, vf, .map (some am), .map (some bm)] :=
        (((Has.setOther (show Has w2 tb _ _ from (E2 tb NE.2.1 NE.2.2.1).trans HT.out.head) _ NE.1 _).setOther _ NE.1 _).setOther _ NE.1 _).setOther _ NE.1 _
      have rows3 : RowsAt ((((w2.setCell ⟨g, x * 4, none⟩ (.string ⟨#[]⟩)).setCell ⟨g, x * 4 + 1, none⟩ (.int .i64 0)).setCell ⟨g, x * 4 + 2, none⟩ (.string ⟨#[]⟩)).setCell ⟨g, x * 4 + 3, none⟩ (.bool false)) g cap m (setR R x none) := by
        refine rows2.put r4 none (.string ⟨#[]⟩) (.int .i64 0) (.string ⟨#[]⟩) (.bool false) rfl rfl rfl rfl (cur := #[]) fun cur hcur => ?_
        exact (((Has.set (show Has w2 g 109 cur from hcur) _ _).set _ _).set _ _).set _ _
      have E3 : ∀ c, c ≠ g → ((((w2.setCell ⟨g, x * 4, none⟩ (.string ⟨#[]⟩)).setCell ⟨g, x * 4 + 1, none⟩ (.int .i64 0)).setCell ⟨g, x * 4 + 2, none⟩ (.string ⟨#[]⟩)).setCell ⟨g, x * 4 + 3, none⟩ (.bool false)).heap[c]? = w2.heap[c]? := fun c n =>
        (Below.heap_setCell _ _ _ _ n).trans ((Below.heap_setCell _ _ _ _ n).trans ((Below.heap_setCell _ _ _ _ n).trans (Below.heap_setCell _ _ _ _ n)))
      have C3 : Chg (fun c => c = am ∨ c = bm ∨ c = g) w ((((w2.setCell ⟨g, x * 4, none⟩ (.string ⟨#[]⟩)).setCell ⟨g, x * 4 + 1, none⟩ (.int .i64 0)).setCell ⟨g, x * 4 + 2, none⟩ (.string ⟨#[]⟩)).setCell ⟨g, x * 4 + 3, none⟩ (.bool false)) :=
        ((((C2.mono (fun _ _ h => by rcases h with h | h; exact .inl h; exact .inr (.inl h))).set (.inr (.inr rfl)) _ _).set (.inr (.inr rfl)) _ _).set (.inr (.inr rfl)) _ _).set (.inr (.inr rfl)) _ _
      obtain ⟨w3, hw3⟩ : ∃ w3, w3 = ((((w2.setCell ⟨g, x * 4, none⟩ (.string ⟨#[]⟩)).setCell ⟨g, x * 4 + 1, none⟩ (.int .i64 0)).setCell ⟨g, x * 4 + 2, none⟩ (.string ⟨#[]⟩)).setCell ⟨g, x * 4 + 3, none⟩ (.bool false)) := ⟨_, rfl⟩
      rw [← hw3] at hd rows3 E3 C3
      have fr3 : FreeAt w3 fo n H vf := by
        unfold FreeAt at hfr ⊢
        split at hfr
        · exact hfr
        · rename_i f c
          have q := hfo f c rfl
          exact ⟨hfr.1, hfr.2.of_block (C3.block f hfr.2.lt (by omega))⟩
      have PU := push_n 105 tb n x H fo _ _ vf _ _ w3 hd fr3 (fun f c e => (hfo f c e).1) ho hi hx hn
      rw [hw3] at PU
      refine PU.mono ?_
      rw [← hw3]
      rintro e w4 ⟨f, capf, H1, rfl, hd4, hp4, o4, i4, m4', fl4, ft4, C4⟩
      have sz : w.heap.size ≤ w3.heap.size := C3.size
      have E4 : ∀ c, c ≠ tb → (∀ c0, fo ≠ some (c, c0)) → c < w3.heap.size → w4.heap[c]? = w3.heap[c]? := fun c n1 n2 l => C4.block c l (fun e => by
        rcases e with e | ⟨c0, e⟩
        · exact n1 e
        · exact n2 c0 e)
      have nfo : (∀ c0, fo ≠ some (g, c0)) ∧ (∀ c0, fo ≠ some (am, c0)) ∧ (∀ c0, fo ≠ some (bm, c0)) := ⟨fun c0 e => (hfo g c0 e).2.1 rfl, fun c0 e => (hfo am c0 e).2.2.1 rfl, fun c0 e => (hfo bm c0 e).2.2.2.1 rfl⟩
      have nf : (f ≠ tb ∧ f ≠ g ∧ f ≠ am ∧ f ≠ bm) ∧ ¬ w0.Z f := by
        rcases fl4 with ⟨c0, e⟩ | e
        · have q := hfo f c0 e
          exact ⟨⟨q.1, q.2.1, q.2.2.1, q.2.2.2.1⟩, q.2.2.2.2⟩
        · exact ⟨⟨by omega, by omega, by omega, by omega⟩, HT.out.bel.new (by omega)⟩
      have FIN : Hid (TS w0 w4 tb g cap am bm room m (cnt - 1) (setR R x none) (updF fa r.a none) (updF fb r.b none) (.slice (some ⟨f, 0, none⟩) (n + 1 : Nat) capf) ∧ HeapAt w4 f capf (n + 1) H1 ∧ HOrd (n + 1) H1 ∧ HInj (n + 1) H1 ∧ (∀ y, HMem (n + 1) H1 y ↔ HMem n H y ∨ y = x) ∧ (f ≠ tb ∧ f ≠ g ∧ f ≠ am ∧ f ≠ bm) ∧ ¬ w0.Z f) := by
        refine ⟨⟨hd4, rows3.of_block (E4 g (Ne.symm NE.1) nfo.1 (by omega)), ⟨_, gA1.of_block ?_, putA hMA r.a none _ rfl⟩, ⟨_, gB2.of_block ?_, putB hMB r.b none _ rfl⟩, coA_del HT.out.coA x r hr r1, coB_del HT.out.coB x r hr r2, fun y s hy => ?_, NE, HT.out.z, HT.out.bel.trans ((C3.mono (T := fun c => (c = am ∨ c = bm ∨ c = g) ∨ c = tb ∨ ∃ c0, fo = some (c, c0)) (fun _ _ h => .inl h)).trans (C4.mono (fun _ _ h => .inr h))) (fun c hc => ?_), HT.out.hm, by have := HT.out.hc; omega, HT.out.hr⟩, hp4, o4, i4, m4', nf⟩
        · exact (E4 am (Ne.symm NE.2.1) nfo.2.1 (by omega)).trans ((E3 am (Ne.symm NE.2.2.2.1)).trans (turned_block t2 NE.2.2.2.2.2))
        · exact (E4 bm (Ne.symm NE.2.2.1) nfo.2.2 (by omega)).trans (E3 bm (Ne.symm NE.2.2.2.2.1))
        · unfold setR at hy
          split at hy
          · cases hy
          · exact HT.out.okR y s hy
        · have zz := HT.out.z
          rcases hc with (rfl | rfl | rfl) | rfl | ⟨c0, e⟩
          · exact zz.2.2.1
          · exact zz.2.2.2
          · exact zz.2.1
          · exact zz.1
          · exact (hfo c c0 e).2.2.2.2
      clear hd4 hp4 o4 i4 m4' fl4 nf nfo fr3 C4 hd rows3 E3 C3 E4 PU hw3 rows2 C2 gA1 gB2 t1 t2 E1 E2
      go_wp2
      go_ret
      exact ⟨f, capf, H1, rfl, FIN.out⟩
set_option maxRecDepth 100000 in
set_option maxHeartbeats 3200000 in
theorem put_heap (f capf n : Nat) (H : Nat → Nat) (x : Nat) (hxH : x = H 0) (h : TS w0 w tb g cap am bm room m cnt R fa fb (.slice (some ⟨f, 0, none⟩) (n + 1 : Nat) capf)) (own : HeapAt w f capf (n + 1) H) (ho : HOrd (n + 1) H) (hi : HInj (n + 1) H) (hnn : n < 70000) (hf : f ≠ tb ∧ f ≠ g ∧ f ≠ am ∧ f ≠ bm) (hzf : ¬ w0.Z f) (hx1 : 1 ≤ x) (hx2 : x ≤ m) (hxn : R x = none) (a : ByteArray) (b : Int) (v : ByteArray) (ha : okA a) (hb : okB b) (h1 : fa a = none) (h2 : fb b = none) (hc : cnt ≠ room) (hcc : cnt < 70000) :
    Calls Try.prog 34 #[.pointer (some ⟨tb, 0, none⟩), vA a, vB b, vV v] w fun e w' => e = .returned (.tuple #[.int .i64 x, .int .i64 0]) ∧ ∃ H1, TS w0 w' tb g cap am bm room m (cnt + 1) (setR R x (some ⟨a, b, v⟩)) (updF fa a (some x)) (updF fb b (some x)) (.slice (some ⟨f, 0, none⟩) n capf) ∧ HeapAt w' f capf n H1 ∧ HOrd n H1 ∧ HInj n H1 ∧ (∀ y, HMem n H1 y ↔ HMem (n + 1) H y ∧ y ≠ x) := by
  have c0 := h.head.cell 0
  have c1 := h.head.cell 1
  have c2 := h.head.cell 2
  have c3 := h.head.cell 3
  have c4 := h.head.cell 4
  have la := h.lookA ha
  have lb := h.lookB hb
  rw [h1] at la
  rw [h2] at lb
  simp at c0 c1 c2 c3 c4 la lb
  have hl := fun W hW => len_c (w := W) (h.grow (w' := W) hW)
  have HL := Lib.hid hl
  have hne : ((cnt : Int) == (room : Int)) = false := by simp; omega
  have HS := Lib.hid h
  have OWN := Lib.hid own
  have NE := h.ne
  have fl : f < w.heap.size := own.lt
  unfold vA vB vV at *
  clear h hl own
  go_enter Try.func34, Try.ntmps34
  go_wp2_with fail
  go_quiet ((go_at_call 32; exact Calls.quiet_of_same ((HL.out _ (bel_dr (Below.refl _ _) _)).mono (fun _ _ q => And.intro q.1 q.2.symm))))
  obtain ⟨wd, hwd⟩ : ∃ wd, wd = w.drewN nq := ⟨_, rfl⟩
  have TD : TS w0 wd tb g cap am bm room m cnt R fa fb (.slice (some ⟨f, 0, none⟩) (n + 1 : Nat) capf) := by rw [hwd]; exact HS.out.grow (bel_dr (Below.refl _ _) _)
  have ownd : HeapAt wd f capf (n + 1) H := by rw [hwd]; exact OWN.out.of_block rfl
  have fld2 : f < wd.heap.size := by rw [hwd]; exact fl
  rw [← hwd]
  clear hwd c0 c1 c2 c3 c4 la lb HL hne HS OWN fl
  have c1 := TD.head.cell 1
  have c2 := TD.head.cell 2
  simp at c1 c2
  have PO := Lib.hid (pop_n 105 tb n f capf H _ _ _ _ wd TD.head ownd hf.1 ho hi hnn)
  rw [← hxH] at PO
  clear hxH
  have hn1 : (0 : Int) < (n : Int) + 1 := by omega
  have T0 := Lib.hid TD
  clear TD ownd
  go_wp2_with fail
  refine (PO.out).mono ?_
  rintro e w5 ⟨H1, rfl, head5, hp5, o5, i5, m5, C5⟩
  have tl := T0.out.head.lt
  have al := T0.out.alt
  have bl := T0.out.blt
  have gl := T0.out.rows.lt
  have rows5 := T0.out.rows.of_block (C5.block g gl (by omega))
  have k1 := head5.cell 1
  have fg := rows5.free (x * 4)
  have fg1 := rows5.free (x * 4 + 1)
  have fg2 := rows5.free (x * 4 + 2)
  have fg3 := rows5.free (x * 4 + 3)
  have e0 := rows5.cell (x := x) (k := 0) (by omega) (by omega)
  have e1 := rows5.cell (x := x) (k := 1) (by omega) (by omega)
  have e2 := rows5.cell (x := x) (k := 2) (by omega) (by omega)
  have e3 := rows5.cell (x := x) (k := 3) (by omega) (by omega)
  simp at k1 e0
  have HR5 := Lib.hid rows5
  have HC5 := Lib.hid C5
  have HH5 := Lib.hid head5
  have HP5 := Lib.hid hp5
  have him : (x : Int) < ((m : Int) + 1) := by omega
  have him0 : (0 : Int) ≤ (x : Int) := by omega
  clear rows5 C5 head5 c1 c2 hp5
  go_wp2_with fail
  obtain ⟨w8, hw8⟩ : ∃ w8, w8 = (((w5.setCell ⟨g, x * 4, none⟩ (.string a)).setCell ⟨g, x * 4 + 1, none⟩ (.int .i64 b)).setCell ⟨g, x * 4 + 2, none⟩ (.string v)).setCell ⟨g, x * 4 + 3, none⟩ (.bool true) := ⟨_, rfl⟩
  rw [← hw8]
  have gt2 : g ≠ tb := Ne.symm NE.1
  have head8 : Has w8 tb 105 #[.int .i64 room, .slice (some ⟨g, 0, none⟩) (m + 1) cap, .slice (some ⟨f, 0, none⟩) n capf, .map (some am), .map (some bm)] := by
    rw [hw8]
    exact (((Has.setOther (HH5.out : Has w5 tb _ _) _ (Ne.symm gt2) _).setOther _ (Ne.symm gt2) _).setOther _ (Ne.symm gt2) _).setOther _ (Ne.symm gt2) _
  have rows8 : RowsAt w8 g cap m (setR R x (some ⟨a, b, v⟩)) := by
    refine HR5.out.put hx2 _ (.string a) (.int .i64 b) (.string v) (.bool true) rfl rfl rfl rfl (cur := #[]) fun cur hcur => ?_
    rw [hw8]
    exact (((Has.set (show Has w5 g 109 cur from hcur) _ _).set _ _).set _ _).set _ _
  have C8 : Chg (fun c => c = tb ∨ c = g ∨ c = f) wd w8 := by
    have q := HC5.out.mono (T := fun c => c = tb ∨ c = g ∨ c = f) (fun c _ h => by rcases h with h | h; exact .inl h; exact .inr (.inr h))
    rw [hw8]
    exact (((q.set (.inr (.inl rfl)) _ _).set (.inr (.inl rfl)) _ _).set (.inr (.inl rfl)) _ _).set (.inr (.inl rfl)) _ _
  have E8 : ∀ c, c ≠ g → w8.heap[c]? = w5.heap[c]? := fun c n => by
    rw [hw8]
    exact (Below.heap_setCell _ _ _ _ n).trans ((Below.heap_setCell _ _ _ _ n).trans ((Below.heap_setCell _ _ _ _ n).trans (Below.heap_setCell _ _ _ _ n)))
  clear hw8 k1 fg fg1 fg2 fg3 e0 e1 e2 e3
  have gA : am ≠ g := Ne.symm NE.2.2.2.1
  have gB : bm ≠ g := Ne.symm NE.2.2.2.2.1
  obtain ⟨MA, ga, hMA⟩ := T0.out.ma
  obtain ⟨MB, gb, hMB⟩ := T0.out.mb
  have ga8 := ga.of_block (w' := w8.drew) (C8.block am al (by omega))
  have hnoA : MA (kA a) = none := by rw [hMA a ha, h1]; rfl
  have hnoB : MB (kB b) = none := by rw [hMB b hb, h2]; rfl
  obtain ⟨wA1, sA, rA1, tA1, nA⟩ := ga8.entry keyedA Try.underlying75 zero3 (by unfold maxLen; omega) (keyedA.key (keyA ha)) (keyA ha) hnoA (.int .i64 (x : Int))
  obtain ⟨wA2, rA2, gA2, tA2⟩ := nA wA1 rfl
  have gb8 := gb.of_block (w' := wA2) ((turned_block tA2 NE.2.2.2.2.2.symm).trans ((turned_block tA1 NE.2.2.2.2.2.symm).trans (C8.block bm bl (by omega))))
  obtain ⟨wB1, sB, rB1, tB1, nB⟩ := gb8.entry keyedB Try.underlying86 zero3 (by unfold maxLen; omega) (keyedB.key (keyB hb)) (keyB hb) hnoB (.int .i64 (x : Int))
  obtain ⟨wB2, rB2, gB2, tB2⟩ := nB wB1 rfl
  have b1 : wA1.heap[tb]? = w8.heap[tb]? := turned_block tA1 NE.2.1
  have b2 : wA2.heap[tb]? = w8.heap[tb]? := (turned_block tA2 NE.2.1).trans b1
  have b3 : wB1.heap[tb]? = w8.heap[tb]? := (turned_block tB1 NE.2.2.1).trans b2
  have b4 : wB2.heap[tb]? = w8.heap[tb]? := (turned_block tB2 NE.2.2.1).trans b3
  have KA := Lib.hid (fun (W : World) (e : W.heap[tb]? = w8.heap[tb]?) => And.intro (Has.cell (e.trans head8 : Has W tb _ _) 3) (Has.cell (e.trans head8 : Has W tb _ _) 4))
  have c3 := (KA.out w8 rfl).1
  have c4 := (KA.out w8 rfl).2
  simp at c3 c4
  unfold vA at rA1
  unfold vB at rB1
  have FIN : Hid (TS w0 wB2 tb g cap am bm room m (cnt + 1) (setR R x (some ⟨a, b, v⟩)) (updF fa a (some x)) (updF fb b (some x)) (.slice (some ⟨f, 0, none⟩) n capf) ∧ HeapAt wB2 f capf n H1) := by
    have CT : Chg (fun c => (c = tb ∨ c = g ∨ c = f) ∨ c = am ∨ c = bm) wd wB2 :=
      ((((C8.mono (fun _ _ h => .inl h)).drew.trans (Chg.turned tA1 (.inr (.inl rfl)))).trans (Chg.turned tA2 (.inr (.inl rfl)))).trans (Chg.turned tB1 (.inr (.inr rfl)))).trans (Chg.turned tB2 (.inr (.inr rfl)))
    have zz := T0.out.z
    have hp8 : HeapAt w8 f capf n H1 := HP5.out.of_block (E8 f hf.2.1)
    refine ⟨⟨b4.trans head8, rows8.of_block ((turned_block tB2 (Ne.symm gB)).trans ((turned_block tB1 (Ne.symm gB)).trans ((turned_block tA2 (Ne.symm gA)).trans (turned_block tA1 (Ne.symm gA))))), ⟨_, gA2.of_block ((turned_block tB2 NE.2.2.2.2.2).trans (turned_block tB1 NE.2.2.2.2.2)), putA hMA a (some x) _ rfl⟩, ⟨_, gB2, putB hMB b (some x) _ rfl⟩, coA_put T0.out.coA x ⟨a, b, v⟩ hxn h1, coB_put T0.out.coB x ⟨a, b, v⟩ hxn h2, fun y r hy => ?_, NE, zz, T0.out.bel.trans CT (fun c hc => ?_), T0.out.hm, by omega, T0.out.hr⟩, hp8.of_block ((turned_block tB2 hf.2.2.2).trans ((turned_block tB1 hf.2.2.2).trans ((turned_block tA2 hf.2.2.1).trans (turned_block tA1 hf.2.2.1))))⟩
    · unfold setR at hy
      split at hy
      · cases hy; exact ⟨ha, hb, by omega, by omega⟩
      · exact T0.out.okR y r hy
    · rcases hc with (rfl | rfl | rfl) | rfl | rfl
      · exact zz.1
      · exact zz.2.1
      · exact hzf
      · exact zz.2.2.1
      · exact zz.2.2.2
  have BB := Lib.hid (And.intro b1 (And.intro b2 (And.intro b3 b4)))
  clear E8 b1 b2 b3 b4 head8 rows8 C8 ga gb ga8 gb8 gA2 gB2 nA nB tA1 tA2 tB1 tB2 hMA hMB hnoA hnoB
  go_region_held3 (fun W => W.cell? ⟨tb, 3, none⟩ = some (.map (some am)) ∧ W.cell? ⟨tb, 4, none⟩ = some (.map (some bm)))
    (first | exact ⟨c3, c4⟩ | exact KA.out _ BB.out.1 | exact KA.out _ BB.out.2.1 | exact KA.out _ BB.out.2.2.1 | exact KA.out _ BB.out.2.2.2) (first | fail)
  all_goals
    go_wp2
    go_ret2
    exact ⟨rfl, H1, FIN.out.1, FIN.out.2, o5, i5, m5⟩
set_option maxRecDepth 100000 in
set_option maxHeartbeats 1600000 in
theorem put_more (va : Option Addr) (vc : Nat) (h : TS w0 w tb g cap am bm room m cnt R fa fb (.slice va 0 vc)) (a : ByteArray) (b : Int) (v : ByteArray) (ha : okA a) (hb : okB b) (h1 : fa a = none) (h2 : fb b = none) (hc : cnt ≠ room) (hm : m < 70000) (hcc : cnt < 70000) :
    Calls Try.prog 34 #[.pointer (some ⟨tb, 0, none⟩), vA a, vB b, vV v] w fun e w' => ∃ g2 cap2, e = .returned (.tuple #[.int .i64 ((m : Int) + 1), .int .i64 0]) ∧ TS w0 w' tb g2 cap2 am bm room (m + 1) (cnt + 1) (setR R (m + 1) (some ⟨a, b, v⟩)) (updF fa a (some (m + 1))) (updF fb b (some (m + 1))) (.slice va 0 vc) := by
  have c0 := h.head.cell 0
  have c1 := h.head.cell 1
  have c2 := h.head.cell 2
  have c3 := h.head.cell 3
  have c4 := h.head.cell 4
  have la := h.lookA ha
  have lb := h.lookB hb
  rw [h1] at la
  rw [h2] at lb
  simp at c0 c1 c2 c3 c4 la lb
  have hl := fun W hW => len_c (w := W) (h.grow (w' := W) hW)
  have HL := Lib.hid hl
  have hne : ((cnt : Int) == (room : Int)) = false := by simp; omega
  have HS := Lib.hid h
  unfold vA vB vV at *
  clear h hl
  go_enter Try.func34, Try.ntmps34
  go_wp2_with fail
  go_quiet ((go_at_call 32; exact Calls.quiet_of_same ((HL.out _ (bel_dr (Below.refl _ _) _)).mono (fun _ _ q => And.intro q.1 q.2.symm))))
  obtain ⟨wd, hwd⟩ : ∃ wd, wd = w.drewN nq := ⟨_, rfl⟩
  have TD : TS w0 wd tb g cap am bm room m cnt R fa fb (.slice va 0 vc) := by rw [hwd]; exact HS.out.grow (bel_dr (Below.refl _ _) _)
  rw [← hwd]
  clear hwd c0 c1 c2 c3 c4 la lb HL hne HS
  have c1 := TD.head.cell 1
  have c2 := TD.head.cell 2
  simp at c1 c2
  obtain ⟨xs, own, hxs⟩ := TD.rows.own
  obtain ⟨i0, hi0, hz0, hs0, hb0⟩ := info_parts infoR
  have hgl := TD.rows.lt
  have HZ : Hid (m + 1 + 1 ≤ maxLen ∧ (m + 1 + 1) * 48 ≤ 140737488355328) := ⟨by unfold maxLen; omega, by omega⟩
  have HX := Lib.hid hxs
  have T0 := Lib.hid TD
  clear TD hxs
  unfold zA zB zV at hz0
  go_wp2_with (at_builtin; go_loud (refine wpList_append_lies _ rfl _ _ 103 rfl g 109 i0 _ 4 48 Try.underlying103 hi0 hz0 hs0 hb0 rfl (by decide) _ _ _ rfl (own.alloc _) ⟨wd.heap.size, 0, none⟩ 1 1 [.string ⟨#[]⟩, .int .i64 0, .string ⟨#[]⟩, .bool false] rfl rfl (World.news_of_block (cs := #[.string ⟨#[]⟩, .int .i64 0, .string ⟨#[]⟩, .bool false]) (t := 109) (fr := (0, 0)) (heap_alloc_new wd _)) (by simp [Value.oneCell']) (by omega) HZ.out.1 HZ.out.2 (by simp; omega) (wd.heap.size + 1) (by simp) ?_))
  intro g2 cap2 w5 own5 grow5 hat5 hlt5
  have hn : R (m + 1) = none := by
    cases q : R (m + 1) with
    | none => rfl
    | some r => have := (T0.out.okR _ r q).2.2.2; omega
  have rows5 : RowsAt w5 g2 cap2 (m + 1) R := RowsAt.of_own (by unfold zA zB zV; exact own5) own.1 HX.out hn
  have C5 : Chg (fun b => b = g) wd w5 := ((Chg.refl _ wd).alloc _).trans (Chg.grown grow5 (fun k e => by cases e; rfl))
  have NE := T0.out.ne
  have tl := T0.out.head.lt
  have al := T0.out.alt
  have bl := T0.out.blt
  have G2 : Hid (g2 = g ∨ g2 = wd.heap.size + 1) := by
    rcases hat5 with q | q
    · exact .inl (by cases q; rfl)
    · exact .inr q
  have head5 := (C5.block tb tl NE.1).trans T0.out.head
  have k1 : w5.cell? ⟨tb, 1, none⟩ = _ := Has.cell head5 1
  have f1 : w5.frozen? ⟨tb, 1, none⟩ = false := Has.free head5 1
  have fg := rows5.free ((m + 1) * 4)
  have fg1 := rows5.free ((m + 1) * 4 + 1)
  have fg2 := rows5.free ((m + 1) * 4 + 2)
  have fg3 := rows5.free ((m + 1) * 4 + 3)
  have e0 := rows5.cell (x := m + 1) (k := 0) (by omega) (by omega)
  have e1 := rows5.cell (x := m + 1) (k := 1) (by omega) (by omega)
  have e2 := rows5.cell (x := m + 1) (k := 2) (by omega) (by omega)
  have e3 := rows5.cell (x := m + 1) (k := 3) (by omega) (by omega)
  simp at k1 e0
  have gt2 : g2 ≠ tb := by have := G2.out; omega
  have HR5 := Lib.hid rows5
  have HC5 := Lib.hid C5
  have HH5 := Lib.hid head5
  have him : ((m : Int) + 1) < ((m : Int) + 1 + 1) := by omega
  clear own5 grow5 hat5 rows5 C5 head5
  go_wp2_with fail
  obtain ⟨w8, hw8⟩ : ∃ w8, w8 = ((((w5.setCell ⟨tb, 1, none⟩ (.slice (some ⟨g2, 0, none⟩) (m + 1 + 1) cap2)).setCell ⟨g2, (m + 1) * 4, none⟩ (.string a)).setCell ⟨g2, (m + 1) * 4 + 1, none⟩ (.int .i64 b)).setCell ⟨g2, (m + 1) * 4 + 2, none⟩ (.string v)).setCell ⟨g2, (m + 1) * 4 + 3, none⟩ (.bool true) := ⟨_, rfl⟩
  rw [← hw8]
  have E8 : ∀ c, c ≠ tb → c ≠ g2 → w8.heap[c]? = w5.heap[c]? := fun c n1 n2 => by
    rw [hw8]
    exact (Below.heap_setCell _ _ _ _ n2).trans ((Below.heap_setCell _ _ _ _ n2).trans ((Below.heap_setCell _ _ _ _ n2).trans ((Below.heap_setCell _ _ _ _ n2).trans (Below.heap_setCell _ _ _ _ n1))))
  have head8 : Has w8 tb 105 #[.int .i64 room, .slice (some ⟨g2, 0, none⟩) (m + 1 + 1) cap2, .slice va 0 vc, .map (some am), .map (some bm)] := by
    rw [hw8]
    exact (((((Has.set (HH5.out : Has w5 tb _ _) 1 (.slice (some ⟨g2, 0, none⟩) (m + 1 + 1) cap2)).setOther _ (Ne.symm gt2) _).setOther _ (Ne.symm gt2) _).setOther _ (Ne.symm gt2) _).setOther _ (Ne.symm gt2) _)
  have rows8 : RowsAt w8 g2 cap2 (m + 1) (setR R (m + 1) (some ⟨a, b, v⟩)) := by
    refine HR5.out.put (Nat.le_refl _) _ (.string a) (.int .i64 b) (.string v) (.bool true) rfl rfl rfl rfl (cur := #[]) fun cur hcur => ?_
    rw [hw8]
    exact ((((Has.setOther (show Has w5 g2 109 cur from hcur) 1 gt2 _).set _ _).set _ _).set _ _).set _ _
  have C8 : Chg (fun c => c = tb ∨ c = g ∨ c = g2) wd w8 := by
    have q := HC5.out.mono (T := fun c => c = tb ∨ c = g ∨ c = g2) (fun c _ h => .inr (.inl h))
    rw [hw8]
    exact ((((q.set (.inl rfl) _ _).set (.inr (.inr rfl)) _ _).set (.inr (.inr rfl)) _ _).set (.inr (.inr rfl)) _ _).set (.inr (.inr rfl)) _ _
  clear hw8 k1 f1 fg fg1 fg2 fg3 e0 e1 e2 e3
  have hG2 := G2.out
  have gA : am ≠ g2 := by omega
  have gB : bm ≠ g2 := by omega
  obtain ⟨MA, ga, hMA⟩ := T0.out.ma
  obtain ⟨MB, gb, hMB⟩ := T0.out.mb
  have ga8 := ga.of_block (w' := w8.drew) (C8.block am al (by omega))
  have hnoA : MA (kA a) = none := by rw [hMA a ha, h1]; rfl
  have hnoB : MB (kB b) = none := by rw [hMB b hb, h2]; rfl
  obtain ⟨wA1, sA, rA1, tA1, nA⟩ := ga8.entry keyedA Try.underlying75 zero3 (by unfold maxLen; omega) (keyedA.key (keyA ha)) (keyA ha) hnoA (.int .i64 ((m : Int) + 1))
  obtain ⟨wA2, rA2, gA2, tA2⟩ := nA wA1 rfl
  have gb8 := gb.of_block (w' := wA2) ((turned_block tA2 NE.2.2.2.2.2.symm).trans ((turned_block tA1 NE.2.2.2.2.2.symm).trans (C8.block bm bl (by omega))))
  obtain ⟨wB1, sB, rB1, tB1, nB⟩ := gb8.entry keyedB Try.underlying86 zero3 (by unfold maxLen; omega) (keyedB.key (keyB hb)) (keyB hb) hnoB (.int .i64 ((m : Int) + 1))
  obtain ⟨wB2, rB2, gB2, tB2⟩ := nB wB1 rfl
  have b1 : wA1.heap[tb]? = w8.heap[tb]? := turned_block tA1 NE.2.1
  have b2 : wA2.heap[tb]? = w8.heap[tb]? := (turned_block tA2 NE.2.1).trans b1
  have b3 : wB1.heap[tb]? = w8.heap[tb]? := (turned_block tB1 NE.2.2.1).trans b2
  have b4 : wB2.heap[tb]? = w8.heap[tb]? := (turned_block tB2 NE.2.2.1).trans b3
  have KA := Lib.hid (fun (W : World) (e : W.heap[tb]? = w8.heap[tb]?) => And.intro (Has.cell (e.trans head8 : Has W tb _ _) 3) (Has.cell (e.trans head8 : Has W tb _ _) 4))
  have c3 := (KA.out w8 rfl).1
  have c4 := (KA.out w8 rfl).2
  simp at c3 c4
  unfold vA at rA1
  unfold vB at rB1
  have FIN : Hid (∃ g' cap', TS w0 wB2 tb g' cap' am bm room (m + 1) (cnt + 1) (setR R (m + 1) (some ⟨a, b, v⟩)) (updF fa a (some (m + 1))) (updF fb b (some (m + 1))) (.slice va 0 vc)) := by
    have CT : Chg (fun c => (c = tb ∨ c = g ∨ c = g2) ∨ c = am ∨ c = bm) wd wB2 :=
      ((((C8.mono (fun _ _ h => .inl h)).drew.trans (Chg.turned tA1 (.inr (.inl rfl)))).trans (Chg.turned tA2 (.inr (.inl rfl)))).trans (Chg.turned tB1 (.inr (.inr rfl)))).trans (Chg.turned tB2 (.inr (.inr rfl)))
    have zz := T0.out.z
    have zg2 : ¬ w0.Z g2 := by
      rcases hG2 with q | q
      · rw [q]; exact zz.2.1
      · exact T0.out.bel.new (by omega)
    refine ⟨g2, cap2, b4.trans head8, rows8.of_block ((turned_block tB2 (Ne.symm gB)).trans ((turned_block tB1 (Ne.symm gB)).trans ((turned_block tA2 (Ne.symm gA)).trans (turned_block tA1 (Ne.symm gA))))), ⟨_, gA2.of_block ((turned_block tB2 NE.2.2.2.2.2).trans (turned_block tB1 NE.2.2.2.2.2)), putA hMA a (some (m + 1)) _ (by simp)⟩, ⟨_, gB2, putB hMB b (some (m + 1)) _ (by simp)⟩, coA_put T0.out.coA (m + 1) ⟨a, b, v⟩ hn h1, coB_put T0.out.coB (m + 1) ⟨a, b, v⟩ hn h2, fun x r hx => ?_, by omega, ⟨zz.1, zg2, zz.2.2.1, zz.2.2.2⟩, T0.out.bel.trans CT (fun c hc => ?_), by omega, by omega, T0.out.hr⟩
    · unfold setR at hx
      split at hx
      · cases hx; exact ⟨ha, hb, by omega, by omega⟩
      · have := T0.out.okR x r hx; exact ⟨this.1, this.2.1, this.2.2.1, by omega⟩
    · rcases hc with (rfl | rfl | rfl) | rfl | rfl
      · exact zz.1
      · exact zz.2.1
      · exact zg2
      · exact zz.2.2.1
      · exact zz.2.2.2
  have BB := Lib.hid (And.intro b1 (And.intro b2 (And.intro b3 b4)))
  clear b1 b2 b3 b4 head8 rows8 C8 ga gb ga8 gb8 gA2 gB2 nA nB tA1 tA2 tB1 tB2 hMA hMB hnoA hnoB E8
  go_region_held3 (fun W => W.cell? ⟨tb, 3, none⟩ = some (.map (some am)) ∧ W.cell? ⟨tb, 4, none⟩ = some (.map (some bm)))
    (first | exact ⟨c3, c4⟩ | exact KA.out _ BB.out.1 | exact KA.out _ BB.out.2.1 | exact KA.out _ BB.out.2.2.1 | exact KA.out _ BB.out.2.2.2) (first | fail)
  all_goals
    obtain ⟨g3, cap3, HF⟩ := FIN.out
    have HF := Lib.hid HF
    clear FIN
    go_wp2
    go_ret2
    exact ⟨g3, cap3, rfl, HF.out⟩
end
end Go.Proofs.Ytckbffbjdcnklaa.P
