/- The state of TopFills' world, and FromClient on it. -/
import Derived.Test.YtngdebpaheejlaaGreatDoorTB
import Derived.Test.YtngdebpaheejlaaGreatDoorZr
namespace Go.Proofs.YtngdebpaheejlaaGreatDoor
open Go.RowKit Go.Shelf
set_option linter.unusedSimpArgs false
set_option linter.unusedVariables false
def kA (src sp : Nat) : Value := .agg #[.int .i64 17, .int .u32 (src : Int), .int .u32 100, .int .i64 (sp : Int), .int .i64 53]
def kB (ad : Int) (i : Nat) : Value := .agg #[.int .i64 17, .int .u32 200, .int .u32 ad, .int .i64 (2000 + (i : Int)), .int .i64 8080]
theorem kA_ne {s s' p p' : Nat} (h : s ≠ s' ∨ p ≠ p') : kA s p ≠ kA s' p' := by
  intro e
  unfold kA at e
  simp at e
  omega
theorem kB_ne {a a' : Int} {i j : Nat} (h : i ≠ j) : kB a i ≠ kB a' j := by
  intro e
  unfold kB at e
  simp at e
  omega
/-- What is kept where the flows' blocks are. -/
structure KF (F : (Nat → Nat) → World → Prop) : Prop where
  keep : ∀ {o : Nat → Nat} {w w' : World}, F o w → (∀ b, b < w.heap.size → o b ≤ 4 → w'.heap[b]? = w.heap[b]?) → F o w'
  re : ∀ {o o' : Nat → Nat} {w : World}, F o w → (∀ b, b < w.heap.size → o' b = o b) → F o' w
/-- The flows of UDP. -/
def F17 (f pb wh mb t am bm r k i : Nat) (o : Nat → Nat) (w : World) : Prop := ∃ gA gB l, Flw o w f pb wh mb t am bm k r 20 i i i (.agg #[.int .i64 17, .int .u32 200, .int .u32 51, .int .i64 8080]) gA gB l ∧ (∀ j, i ≤ j → gA (kA 10 j) = none) ∧ gA (kA 11 1) = none ∧ ∀ j, i ≤ j → ∀ ad : Int, ad = 51 ∨ ad = 52 → gB (kB ad j) = none
/-- The flow of TCP. -/
def F6 (f pb wh mb t am bm r k i : Nat) (o : Nat → Nat) (w : World) : Prop := ∃ kv gA gB l, Flw o w f pb wh mb t am bm k r 5 i i i kv gA gB l
section
variable {f pb wh mb t am bm r k i : Nat}
theorem kf17 : KF (F17 f pb wh mb t am bm r k i) := ⟨fun ⟨gA, gB, l, h, h1, h2, h3⟩ q => ⟨gA, gB, l, h.keep q, h1, h2, h3⟩, fun ⟨gA, gB, l, h, h1, h2, h3⟩ q => ⟨gA, gB, l, h.re q, h1, h2, h3⟩⟩
theorem kf6 : KF (F6 f pb wh mb t am bm r k i) := ⟨fun ⟨kv, gA, gB, l, h⟩ q => ⟨kv, gA, gB, l, h.keep q⟩, fun ⟨kv, gA, gB, l, h⟩ q => ⟨kv, gA, gB, l, h.re q⟩⟩
end
/-- The World in memory, as FromClient sees it. -/
structure Gs (b f sv sm pm hm cn cm r k wb xb : Nat) (T : Nat → Nat) (F : (Nat → Nat) → World → Prop) (o : Nat → Nat) (hi : Nat) (w0 W : World) : Prop where
  z : ∀ c, c < w0.heap.size → o c = 0
  bal : Bal o W b f sv sm pm hm cn cm r k 4 hi T
  flw : F o W
  ow : o wb = 31
  hw : Has W wb 31 #[.pointer (some ⟨b, 0, none⟩), .pointer (some ⟨xb, 0, none⟩), .slice none 0 0, .slice none 0 0]
  bel : Below w0.heap.size w0 W
section
variable {b f sv sm pm hm cn cm r k wb xb hi i : Nat} {T : Nat → Nat} {F : (Nat → Nat) → World → Prop} {o o' : Nat → Nat} {w0 W W' : World}
theorem Gs.keepC (h : Gs b f sv sm pm hm cn cm r k wb xb T F o hi w0 W) (K : KF F) (hC : Chg (fun c => c ≠ wb ∧ o c = 31) W W') : Gs b f sv sm pm hm cn cm r k wb xb T F o hi w0 W' := by
  obtain ⟨z, hB, hF, ow, hw, bel⟩ := h
  have hk : ∀ c, c < W.heap.size → o c ≠ 31 → W'.heap[c]? = W.heap[c]? := fun c hc e => hC.block c hc (fun q => e q.2)
  refine ⟨z, hB.keep (fun c hc e1 e2 => hk c hc (by omega)), K.keep hF (fun c hc e => hk c hc (by omega)), ow, hw.chg hC (fun q => q.1 rfl), bel.trans ⟨hC.os, hC.tape, hC.output, hC.size, fun c hc => hC.block c (Nat.lt_of_lt_of_le hc bel.size) (fun q => by have := z c hc; omega)⟩⟩
theorem Gs.grow (h : Gs b f sv sm pm hm cn cm r k wb xb T F o hi w0 W) (K : KF F) (g : GG W W') : Gs b f sv sm pm hm cn cm r k wb xb T F (owner o W.heap.size 31) hi w0 W' := by
  obtain ⟨z, hB, hF, ow, hw, bel⟩ := h
  refine ⟨fun c hc => (own_lt (Nat.lt_of_lt_of_le hc bel.size)).trans (z c hc), (hB.re (fun c hc => own_lt hc)).below g, K.keep (K.re hF (fun c hc => own_lt hc)) (fun c hc _ => Below.block g c hc), (own_lt hw.lt).trans ow, Has.below hw g, bel.trans (Below.mono g bel.size)⟩
/-- Behind FromClient. -/
theorem Gs.fed {P0 P1 P2 : Prop} {X Y : (Nat → Nat) → Int → Nat → World → Prop} {L n1 : Nat} {e : Ending} (h : Gs b f sv sm pm hm cn cm r k wb xb T F o hi w0 W) (on : ∀ c, n1 ≤ c → o c = 31) (hp : FromPost P0 P1 P2 X Y (fun o' w' => Bal o' w' b f sv sm pm hm cn cm r k 4 (hi + 1) T) L o W e W') : ∃ (o' : Nat → Nat) (bk : Int) (ad : Nat),
    ((P0 ∧ e = .returned (.agg #[.int .i64 0, .int .u32 0, .string ⟨#[]⟩, .int .i64 16]) ∧ X o' bk ad W') ∨ (P1 ∧ e = .returned (.agg #[.int .i64 0, .int .u32 0, .string ⟨#[]⟩, .int .i64 17]) ∧ X o' bk ad W') ∨
     (P2 ∧ (∃ l' : List Nat, l'.length = L ∧ e = .returned (.agg #[.int .i64 2, .int .u32 (ad : Int), .string (bs l'), .int .i64 0])) ∧ Y o' bk ad W')) ∧ (∀ F' : (Nat → Nat) → World → Prop, F' o' W' → Gs b f sv sm pm hm cn cm r k wb xb T F' o' (hi + 1) w0 W') ∧ (∀ c, n1 ≤ c → c < W.heap.size → o' c = 31) ∧ Chg (fun c => c ≠ wb ∧ c < n1) W W' := by
  obtain ⟨z, hB, hF, ow, hw, bel⟩ := h
  obtain ⟨o', bk, ad, had, hE, hC, hB', hh⟩ := hp
  refine ⟨o', bk, ad, hh, fun F' hF' => ⟨fun c hc => (hE.1 c (Nat.lt_of_lt_of_le hc bel.size)).trans (z c hc), hB', hF', (hE.1 wb hw.lt).trans ow, hw.chg hC (fun q => by omega), bel.trans ⟨hC.os, hC.tape, hC.output, hC.size, fun c hc => hC.block c (Nat.lt_of_lt_of_le hc bel.size) (fun q => by have := z c hc; omega)⟩⟩, fun c h1 h2 => (hE.1 c h2).trans (on c h1), hC.mono (fun c hc q => ⟨fun e => by rw [e] at q; omega, ?_⟩)⟩
  rcases Nat.lt_or_ge c n1 with q1 | q1
  · exact q1
  · have := on c q1
    omega
end
section
variable {b f sv sm pm hm cn cm r k wb xb hi i pb wh mb t am bm : Nat} {o : Nat → Nat} {w0 W1 : World}
def T3 : Nat → Nat := setT (Tn 4) 2 3
theorem fs_in (h : Gs b f sv sm pm hm cn cm r k wb xb T3 (F17 f pb wh mb t am bm r k i) o hi w0 W1) (hhi : hi < 60000) (hk1 : 1 ≤ k) (hk : k ≤ 30) (hr : r ≤ 40) (hik : i < k) (hir : i < r) (W : World) (g : GG W1 W) :
    Calls Tryz.prog 7 #[.pointer (some ⟨b, 0, none⟩), .string (bs (fu 10 i))] W fun e W' => ∃ (ad : Nat) (l' : List Nat) (o' : Nat → Nat), e = .returned (.agg #[.int .i64 2, .int .u32 (ad : Int), .string (bs l'), .int .i64 0]) ∧ Gs b f sv sm pm hm cn cm r k wb xb T3 (F17 f pb wh mb t am bm r k (i + 1)) o' (hi + 1) w0 W' ∧ (∀ c, W1.heap.size ≤ c → c < W.heap.size → o' c = 31) ∧ Chg (fun c => c ≠ wb ∧ c < W1.heap.size) W W' := by
  have h1 := h.grow kf17 g
  have on : ∀ c, W1.heap.size ≤ c → owner o W1.heap.size 31 c = 31 := fun c hc => own_back hc
  obtain ⟨o1, ho⟩ : ∃ x, x = owner o W1.heap.size 31 := ⟨_, rfl⟩
  rw [← ho] at h1 on
  clear ho
  obtain ⟨gA, gB, l, hF, f1, f2, f3⟩ := h1.flw
  have kb := keyB i (by omega)
  refine (from17_c o1 b f sv sm pm hm cn cm r k hi T3 rfl hhi pb wh mb t am bm i gA gB l 10 i 9 (fu 10 i) (by decide) (by omega) (frmU (fu10 i (by omega))) (keyU i (by omega)) (fun ad had => ?_) (fun ad had => ?_) (f1 i (Nat.le_refl _)) (fun ad had => f3 i (Nat.le_refl _) ad had) hk1 hk hr (by omega) (by omega) W h1.bal (fun ad had => ?_)).mono ?_
  · rcases had with rfl | rfl
    · exact kb.1
    · exact kb.2
  · rcases had with rfl | rfl
    · exact keyK.1
    · exact keyK.2
  · rcases had with rfl | had
    · exact hF
    · exact absurd had.1 (by decide)
  · intro e W' hp
    obtain ⟨o', bk, ad, hh, hG, h31, hC⟩ := h1.fed on hp
    rcases hh with ⟨q, _⟩ | ⟨q, _⟩ | ⟨q, ⟨l', hl', rfl⟩, ad', l2, ha, hok, hF'⟩
    · omega
    · omega
    · refine ⟨ad, l', o', rfl, hG _ ?_, h31, hC⟩
      rcases hok with rfl | hok
      · refine ⟨_, _, l2, hF', fun j hj => (setK_ne _ _ _ (kA_ne (.inr (by omega)))).trans (f1 j (by omega)), (setK_ne _ _ _ (kA_ne (.inl (by decide)))).trans f2, fun j hj ad hd => (setK_ne _ _ _ (kB_ne (by omega))).trans (f3 j (by omega) ad hd)⟩
      · exact absurd hok.1 (by decide)
theorem fs_out (h : Gs b f sv sm pm hm cn cm r k wb xb T3 (F17 f pb wh mb t am bm r k i) o hi w0 W1) (hhi : hi < 60000) (hk1 : 1 ≤ k) (hk : k ≤ 30) (hr : r ≤ 40) (hik : i ≤ k) (hir : i ≤ r) (cd : Int) (hcd : (i = r ∧ cd = 16) ∨ (i < r ∧ i = k ∧ cd = 17)) (W : World) (g : GG W1 W) :
    Calls Tryz.prog 7 #[.pointer (some ⟨b, 0, none⟩), .string (bs (fu 11 1))] W fun e W' => ∃ (o' : Nat → Nat), e = .returned (.agg #[.int .i64 0, .int .u32 0, .string ⟨#[]⟩, .int .i64 cd]) ∧ Gs b f sv sm pm hm cn cm r k wb xb T3 (F17 f pb wh mb t am bm r k i) o' (hi + 1) w0 W' ∧ (∀ c, W1.heap.size ≤ c → c < W.heap.size → o' c = 31) ∧ Chg (fun c => c ≠ wb ∧ c < W1.heap.size) W W' := by
  have h1 := h.grow kf17 g
  have on : ∀ c, W1.heap.size ≤ c → owner o W1.heap.size 31 c = 31 := fun c hc => own_back hc
  obtain ⟨o1, ho⟩ : ∃ x, x = owner o W1.heap.size 31 := ⟨_, rfl⟩
  rw [← ho] at h1 on
  clear ho
  obtain ⟨gA, gB, l, hF, f1, f2, f3⟩ := h1.flw
  have kb := keyB i (by omega)
  refine (from17_c o1 b f sv sm pm hm cn cm r k hi T3 rfl hhi pb wh mb t am bm i gA gB l 11 1 9 (fu 11 1) (by decide) (by decide) (frmU fu11) keyL11 (fun ad had => ?_) (fun ad had => ?_) f2 (fun ad had => f3 i (Nat.le_refl _) ad had) hk1 hk hr hik hir W h1.bal (fun ad had => ?_)).mono ?_
  · rcases had with rfl | rfl
    · exact kb.1
    · exact kb.2
  · rcases had with rfl | rfl
    · exact keyK.1
    · exact keyK.2
  · rcases had with rfl | had
    · exact hF
    · exact absurd had.1 (by decide)
  · intro e W' hp
    obtain ⟨o', bk, ad, hh, hG, h31, hC⟩ := h1.fed on hp
    rcases hh with ⟨q, rfl, ad', ha, hok, hF'⟩ | ⟨q, rfl, ad', ha, hok, hF'⟩ | ⟨q, _⟩
    · have hc : cd = 16 := by omega
      rcases hok with rfl | hok
      · exact ⟨o', by rw [hc], hG _ ⟨_, _, _, hF', f1, f2, f3⟩, h31, hC⟩
      · exact absurd hok.1 (by decide)
    · have hc : cd = 17 := by omega
      rcases hok with rfl | hok
      · exact ⟨o', by rw [hc], hG _ ⟨_, _, _, hF', f1, f2, f3⟩, h31, hC⟩
      · exact absurd hok.1 (by decide)
    · omega
theorem ts_in (h : Gs b f sv sm pm hm cn cm 3 2 wb xb (Tn 4) (fun o w => ∀ kv, Flw o w f pb wh mb t am bm 2 3 5 0 0 0 kv (fun _ => none) (fun _ => none) zero25) o hi w0 W1) (hhi : hi < 60000) (W : World) (g : GG W1 W) :
    Calls Tryz.prog 7 #[.pointer (some ⟨b, 0, none⟩), .string (bs fl)] W fun e W' => ∃ (ad : Nat) (l' : List Nat) (o' : Nat → Nat), l'.length = fl.length ∧ e = .returned (.agg #[.int .i64 2, .int .u32 (ad : Int), .string (bs l'), .int .i64 0]) ∧ Gs b f sv sm pm hm cn cm 3 2 wb xb (Tn 4) (F6 f pb wh mb t am bm 3 2 1) o' (hi + 1) w0 W' ∧ (∀ c, W1.heap.size ≤ c → c < W.heap.size → o' c = 31) ∧ Chg (fun c => c ≠ wb ∧ c < W1.heap.size) W W' := by
  have h1 := h.grow ⟨fun h q kv => (h kv).keep q, fun h q kv => (h kv).re q⟩ g
  have on : ∀ c, W1.heap.size ≤ c → owner o W1.heap.size 31 c = 31 := fun c hc => own_back hc
  obtain ⟨o1, ho⟩ : ∃ x, x = owner o W1.heap.size 31 := ⟨_, rfl⟩
  rw [← ho] at h1 on
  clear ho
  refine (from6_c o1 b f sv sm pm hm cn cm 3 2 hi (Tn 4) rfl hhi pb wh mb t am bm 0 (fun _ => none) (fun _ => none) zero25 10 1 64 fl (by decide) (by decide) frmT keyT (fun ad had => ?_) (fun ad had => ?_) rfl (fun _ _ => rfl) (by decide) (by decide) (by decide) (by decide) (by decide) W h1.bal (fun ad had => h1.flw _)).mono ?_
  · rcases had with rfl | rfl
    · exact keyTB.1
    · exact keyTB.2
  · rcases had with rfl | rfl
    · exact keyTK.1
    · exact keyTK.2
  · intro e W' hp
    obtain ⟨o', bk, ad, hh, hG, h31, hC⟩ := h1.fed on hp
    rcases hh with ⟨q, _⟩ | ⟨q, _⟩ | ⟨q, ⟨l', hl', rfl⟩, ad', l2, ha, hok, hF'⟩
    · omega
    · omega
    · exact ⟨ad, l', o', hl', rfl, hG _ ⟨_, _, _, _, hF'⟩, h31, hC⟩
end
/-- A block that was made ahead of FromClient. -/
theorem fed_new {n1 wb : Nat} {x W : World} {Z : Array Value} {t : TypeId} {o' : Nat → Nat} (hn : n1 ≤ x.heap.size) (h31 : ∀ c, n1 ≤ c → c < (x.alloc (.cells Z t)).heap.size → o' c = 31) (hC : Chg (fun c => c ≠ wb ∧ c < n1) (x.alloc (.cells Z t)) W) : Has W x.heap.size t Z ∧ o' x.heap.size = 31 :=
  ⟨(Has.new x Z t).chg hC (fun q => absurd q.2 (by omega)), h31 _ hn (Has.new x Z t).lt⟩
theorem fed_new2 {n1 wb : Nat} {x y W : World} {Z : Array Value} {t : TypeId} {o' : Nat → Nat} (hn : n1 ≤ x.heap.size) (hb : Below (x.alloc (.cells Z t)).heap.size (x.alloc (.cells Z t)) y) (h31 : ∀ c, n1 ≤ c → c < y.heap.size → o' c = 31) (hC : Chg (fun c => c ≠ wb ∧ c < n1) y W) : Has W x.heap.size t Z ∧ o' x.heap.size = 31 :=
  ⟨((Has.new x Z t).below hb).chg hC (fun q => absurd q.2 (by omega)), h31 _ hn ((Has.new x Z t).below hb).lt⟩
theorem fed_new3 {n1 wb : Nat} {x y W : World} {Z : Array Value} {t : TypeId} {o' : Nat → Nat} (hn : n1 ≤ x.heap.size) (hb : Below (x.alloc (.cells Z t)).drew.heap.size (x.alloc (.cells Z t)).drew y) (h31 : ∀ c, n1 ≤ c → c < y.heap.size → o' c = 31) (hC : Chg (fun c => c ≠ wb ∧ c < n1) y W) : Has W x.heap.size t Z ∧ o' x.heap.size = 31 :=
  fed_new2 hn (y := y) ((Below.refl _ _).drew.trans hb) h31 hC
/-- Behind FromClient what was made ahead of it is filled. -/
theorem Gs.fill {b f sv sm pm hm cn cm r k wb xb hi b8 : Nat} {T : Nat → Nat} {F : (Nat → Nat) → World → Prop} {o : Nat → Nat} {w0 W : World} (h : Gs b f sv sm pm hm cn cm r k wb xb T F o hi w0 W) (K : KF F) (h8 : o b8 = 31) (hn : b8 ≠ wb) (v0 v1 v2 v3 : Value) :
    Gs b f sv sm pm hm cn cm r k wb xb T F o hi w0 ((((W.setCell ⟨b8, 0, none⟩ v0).setCell ⟨b8, 1, none⟩ v1).setCell ⟨b8, 2, none⟩ v2).setCell ⟨b8, 3, none⟩ v3) :=
  h.keepC K (((((Chg.refl _ _).set ⟨hn, h8⟩ 0 _).set ⟨hn, h8⟩ 1 _).set ⟨hn, h8⟩ 2 _).set ⟨hn, h8⟩ 3 _)
theorem Has.fill {W : World} {b8 : Nat} {t : TypeId} {z0 z1 z2 z3 : Value} (h : Has W b8 t #[z0, z1, z2, z3]) (v0 v1 v2 v3 : Value) : Has ((((W.setCell ⟨b8, 0, none⟩ v0).setCell ⟨b8, 1, none⟩ v1).setCell ⟨b8, 2, none⟩ v2).setCell ⟨b8, 3, none⟩ v3) b8 t #[v0, v1, v2, v3] := by
  have := (((h.set 0 v0).set 1 v1).set 2 v2).set 3 v3
  simp only [List.setIfInBounds_toArray, List.set] at this
  exact this
end Go.Proofs.YtngdebpaheejlaaGreatDoor
