/- The balancer: FromClient, of UDP and of TCP. The frames of TopFills, by evaluation. The keys of TopFills, by evaluation. -/
import Derived.Test.YtngdebpaheejlaaGreatDoorZq
import Derived.Test.YtngdebpaheejlaaGreatDoorBO
import Derived.Test.YtngdebpaheejlaaGreatDoorBP
import Derived.Test.YtngdebpaheejlaaGreatDoorZf
namespace Go.Proofs.YtngdebpaheejlaaGreatDoor
open Go.RowKit Go.Shelf
set_option linter.unusedSimpArgs false
set_option linter.unusedVariables false
def X17 (f pb wh mb t am bm k r i : Nat) (gA gB : Value → Option Value) (l : List Value) (o' : Nat → Nat) (bk : Int) (adn : Nat) (w : World) : Prop := ∃ ad : Int, ad = (adn : Int) ∧ (ad = 51 ∨ (3 = 2 ∧ ad = 52)) ∧ Flw o' w f pb wh mb t am bm k r 20 i i i (.agg #[.int .i64 17, .int .u32 200, .int .u32 ad, .int .i64 8080]) gA gB l
def Y17 (f pb wh mb t am bm k r i cs cp : Nat) (gA gB : Value → Option Value) (o' : Nat → Nat) (bk : Int) (adn : Nat) (w : World) : Prop := ∃ (ad : Int) (l2 : List Value), ad = (adn : Int) ∧ (ad = 51 ∨ (3 = 2 ∧ ad = 52)) ∧ Flw o' w f pb wh mb t am bm k r 20 (i + 1) (i + 1) (i + 1) (.agg #[.int .i64 17, .int .u32 200, .int .u32 ad, .int .i64 8080]) (setK gA (.agg #[.int .i64 17, .int .u32 (cs : Int), .int .u32 100, .int .i64 (cp : Int), .int .i64 53]) (.int .i64 ((i : Int) + 1))) (setK gB (.agg #[.int .i64 17, .int .u32 200, .int .u32 ad, .int .i64 (2000 + (i : Int)), .int .i64 8080]) (.int .i64 ((i : Int) + 1))) l2
theorem from17_c (o : Nat → Nat) (b f sv sm pm hm cn cm r k hi : Nat) (T : Nat → Nat) (hT : T 2 = 3) (hhi : hi < 60000) (pb wh mb t am bm i : Nat) (gA gB : Value → Option Value) (l : List Value) (cs cp ttl : Nat) (fr : List Nat) (h2 : cs < 4294967296) (h4 : cp < 65536) (hfr : Frm fr 17 6 cs 100 cp 53 0 ttl)
    (hkA : (keyOf Tryz.prog 97 (.agg #[.int .i64 17, .int .u32 (cs : Int), .int .u32 100, .int .i64 (cp : Int), .int .i64 53])).isSome = true) (hkB : ∀ ad : Int, ad = 51 ∨ ad = 52 → (keyOf Tryz.prog 97 (.agg #[.int .i64 17, .int .u32 200, .int .u32 ad, .int .i64 (2000 + (i : Int)), .int .i64 8080])).isSome = true) (hkv : ∀ ad : Int, ad = 51 ∨ ad = 52 → (keyOf Tryz.prog 292 (.agg #[.int .i64 17, .int .u32 200, .int .u32 ad, .int .i64 8080])).isSome = true) (hnA : gA (.agg #[.int .i64 17, .int .u32 (cs : Int), .int .u32 100, .int .i64 (cp : Int), .int .i64 53]) = none) (hnB : ∀ ad : Int, ad = 51 ∨ ad = 52 → gB (.agg #[.int .i64 17, .int .u32 200, .int .u32 ad, .int .i64 (2000 + (i : Int)), .int .i64 8080]) = none) (hk1 : 1 ≤ k) (hk : k ≤ 30) (hr : r ≤ 40) (hik : i ≤ k) (hir : i ≤ r) (w : World)
    (hB : Bal o w b f sv sm pm hm cn cm r k 4 hi T) (hF : ∀ ad : Int, ad = 51 ∨ (3 = 2 ∧ ad = 52) → Flw o w f pb wh mb t am bm k r 20 i i i (.agg #[.int .i64 17, .int .u32 200, .int .u32 ad, .int .i64 8080]) gA gB l) :
    Calls Tryz.prog 7 #[.pointer (some ⟨b, 0, none⟩), .string (bs fr)] w (FromPost (i = r) (i < r ∧ i = k) (i < r ∧ i < k) (X17 f pb wh mb t am bm k r i gA gB l) (Y17 f pb wh mb t am bm k r i cs cp gA gB) (fun o' w' => Bal o' w' b f sv sm pm hm cn cm r k 4 (hi + 1) T) fr.length o w) := by
  have kX : ∀ o' bk ad a b, X17 f pb wh mb t am bm k r i gA gB l o' bk ad a → (∀ c, c < a.heap.size → o' c ≤ 4 → b.heap[c]? = a.heap[c]?) → X17 f pb wh mb t am bm k r i gA gB l o' bk ad b := fun o' bk ad a b ⟨x, e, h1, h2⟩ hk => ⟨x, e, h1, h2.keep hk⟩
  have kY : ∀ o' bk ad a b, Y17 f pb wh mb t am bm k r i cs cp gA gB o' bk ad a → (∀ c, c < a.heap.size → o' c ≤ 4 → b.heap[c]? = a.heap[c]?) → Y17 f pb wh mb t am bm k r i cs cp gA gB o' bk ad b := fun o' bk ad a b ⟨x, l2, e, h1, h2⟩ hk => ⟨x, l2, e, h1, h2.keep hk⟩
  have g1 : GG w (w.alloc (.cells #[.int .i64 0, .int .u32 0, .string ⟨#[]⟩, .int .i64 0] 38)) := (GG.refl _).alloc _
  refine bfrom_c _ _ _ _ _ kX kY o fr b f sv sm pm hm cn cm r k hi T hhi w hB ?_
  have hB1 := (hB.re (o' := owner o w.heap.size 5) (fun b hb => own_lt hb)).below g1
  have hF1 := fun ad h => ((hF ad h).re (o' := owner o w.heap.size 5) (fun b hb => own_lt hb)).below g1
  obtain ⟨w1, hw⟩ : ∃ W, W = w.alloc (.cells #[.int .i64 0, .int .u32 0, .string ⟨#[]⟩, .int .i64 0] 38) := ⟨_, rfl⟩
  obtain ⟨o1, ho⟩ : ∃ O, O = owner o w.heap.size 5 := ⟨_, rfl⟩
  rw [← hw, ← ho] at hB1 hF1 ⊢
  clear hw ho g1 hB hF
  refine bhand_c _ _ _ _ _ kX kY o1 fr 17 6 cs 100 cp 53 0 ttl (2000 + i) 2 8 b f (by omega) hfr _ w1 hB1.head rfl (fun W hW => ?_) (fun W hW => ?_)
  · exact fahead_c (o := o1) (w := W) _ _ _ _ _ hkA hnA ((hF1 51 (.inl rfl)).below hW)
  · have hB2 := (hB1.re (o' := owner o1 w1.heap.size 5) (fun b hb => own_lt hb)).below hW
    have hF2 := fun ad h => ((hF1 ad h).re (o' := owner o1 w1.heap.size 5) (fun b hb => own_lt hb)).below hW
    have ht := hfr.t1
    refine (bopen17_c (owner o1 w1.heap.size 5) b f sv sm pm hm cn cm r k hi T hT pb wh mb t am bm i gA gB l cs cp fr.length ttl (by omega) h2 h4 hkA hkB hkv hnA hnB hk1 hk hr hik hir W hB2 hF2).mono ?_
    rintro e w' ⟨o', bk, ad, had, hE, hC, hh⟩
    obtain ⟨adn, hadn, hlt⟩ : ∃ n : Nat, ad = (n : Int) ∧ n < 60 := by
      rcases had with h | h
      · exact ⟨51, h, by decide⟩
      · exact ⟨52, h.2, by decide⟩
    refine ⟨o', bk, adn, hlt, hE, hC, ?_⟩
    rcases hh with ⟨q1, q2, q3⟩ | ⟨q1, q1', q2, q3⟩ | ⟨q1, q1', q2, q3⟩
    · exact .inl ⟨q1, q2, ad, hadn, had, q3⟩
    · exact .inr (.inl ⟨⟨q1, q1'⟩, q2, ad, hadn, had, q3⟩)
    · refine .inr (.inr ⟨⟨q1, q1'⟩, ?_, ad, _, hadn, had, q3⟩)
      rw [q2, hadn]
      unfold flowV
      rfl
def X6 (f pb wh mb t am bm k r i : Nat) (gA gB : Value → Option Value) (l : List Value) (o' : Nat → Nat) (bk : Int) (adn : Nat) (w : World) : Prop := ∃ ad : Int, ad = (adn : Int) ∧ (ad = 51 ∨ (2 = 2 ∧ ad = 52)) ∧ Flw o' w f pb wh mb t am bm k r 5 i i i (.agg #[.int .i64 6, .int .u32 200, .int .u32 ad, .int .i64 8080]) gA gB l
def Y6 (f pb wh mb t am bm k r i cs cp : Nat) (gA gB : Value → Option Value) (o' : Nat → Nat) (bk : Int) (adn : Nat) (w : World) : Prop := ∃ (ad : Int) (l2 : List Value), ad = (adn : Int) ∧ (ad = 51 ∨ (2 = 2 ∧ ad = 52)) ∧ Flw o' w f pb wh mb t am bm k r 5 (i + 1) (i + 1) (i + 1) (.agg #[.int .i64 6, .int .u32 200, .int .u32 ad, .int .i64 8080]) (setK gA (.agg #[.int .i64 6, .int .u32 (cs : Int), .int .u32 100, .int .i64 (cp : Int), .int .i64 80]) (.int .i64 ((i : Int) + 1))) (setK gB (.agg #[.int .i64 6, .int .u32 200, .int .u32 ad, .int .i64 (2000 + (i : Int)), .int .i64 8080]) (.int .i64 ((i : Int) + 1))) l2
theorem from6_c (o : Nat → Nat) (b f sv sm pm hm cn cm r k hi : Nat) (T : Nat → Nat) (hT : T 1 = 2) (hhi : hi < 60000) (pb wh mb t am bm i : Nat) (gA gB : Value → Option Value) (l : List Value) (cs cp ttl : Nat) (fr : List Nat) (h2 : cs < 4294967296) (h4 : cp < 65536) (hfr : Frm fr 6 16 cs 100 cp 80 2 ttl)
    (hkA : (keyOf Tryz.prog 97 (.agg #[.int .i64 6, .int .u32 (cs : Int), .int .u32 100, .int .i64 (cp : Int), .int .i64 80])).isSome = true) (hkB : ∀ ad : Int, ad = 51 ∨ ad = 52 → (keyOf Tryz.prog 97 (.agg #[.int .i64 6, .int .u32 200, .int .u32 ad, .int .i64 (2000 + (i : Int)), .int .i64 8080])).isSome = true) (hkv : ∀ ad : Int, ad = 51 ∨ ad = 52 → (keyOf Tryz.prog 292 (.agg #[.int .i64 6, .int .u32 200, .int .u32 ad, .int .i64 8080])).isSome = true) (hnA : gA (.agg #[.int .i64 6, .int .u32 (cs : Int), .int .u32 100, .int .i64 (cp : Int), .int .i64 80]) = none) (hnB : ∀ ad : Int, ad = 51 ∨ ad = 52 → gB (.agg #[.int .i64 6, .int .u32 200, .int .u32 ad, .int .i64 (2000 + (i : Int)), .int .i64 8080]) = none) (hk1 : 1 ≤ k) (hk : k ≤ 30) (hr : r ≤ 40) (hik : i ≤ k) (hir : i ≤ r) (w : World)
    (hB : Bal o w b f sv sm pm hm cn cm r k 4 hi T) (hF : ∀ ad : Int, ad = 51 ∨ (2 = 2 ∧ ad = 52) → Flw o w f pb wh mb t am bm k r 5 i i i (.agg #[.int .i64 6, .int .u32 200, .int .u32 ad, .int .i64 8080]) gA gB l) :
    Calls Tryz.prog 7 #[.pointer (some ⟨b, 0, none⟩), .string (bs fr)] w (FromPost (i = r) (i < r ∧ i = k) (i < r ∧ i < k) (X6 f pb wh mb t am bm k r i gA gB l) (Y6 f pb wh mb t am bm k r i cs cp gA gB) (fun o' w' => Bal o' w' b f sv sm pm hm cn cm r k 4 (hi + 1) T) fr.length o w) := by
  have kX : ∀ o' bk ad a b, X6 f pb wh mb t am bm k r i gA gB l o' bk ad a → (∀ c, c < a.heap.size → o' c ≤ 4 → b.heap[c]? = a.heap[c]?) → X6 f pb wh mb t am bm k r i gA gB l o' bk ad b := fun o' bk ad a b ⟨x, e, h1, h2⟩ hk => ⟨x, e, h1, h2.keep hk⟩
  have kY : ∀ o' bk ad a b, Y6 f pb wh mb t am bm k r i cs cp gA gB o' bk ad a → (∀ c, c < a.heap.size → o' c ≤ 4 → b.heap[c]? = a.heap[c]?) → Y6 f pb wh mb t am bm k r i cs cp gA gB o' bk ad b := fun o' bk ad a b ⟨x, l2, e, h1, h2⟩ hk => ⟨x, l2, e, h1, h2.keep hk⟩
  have g1 : GG w (w.alloc (.cells #[.int .i64 0, .int .u32 0, .string ⟨#[]⟩, .int .i64 0] 38)) := (GG.refl _).alloc _
  refine bfrom_c _ _ _ _ _ kX kY o fr b f sv sm pm hm cn cm r k hi T hhi w hB ?_
  have hB1 := (hB.re (o' := owner o w.heap.size 5) (fun b hb => own_lt hb)).below g1
  have hF1 := fun ad h => ((hF ad h).re (o' := owner o w.heap.size 5) (fun b hb => own_lt hb)).below g1
  obtain ⟨w1, hw⟩ : ∃ W, W = w.alloc (.cells #[.int .i64 0, .int .u32 0, .string ⟨#[]⟩, .int .i64 0] 38) := ⟨_, rfl⟩
  obtain ⟨o1, ho⟩ : ∃ O, O = owner o w.heap.size 5 := ⟨_, rfl⟩
  rw [← hw, ← ho] at hB1 hF1 ⊢
  clear hw ho g1 hB hF
  refine bhand_c _ _ _ _ _ kX kY o1 fr 6 16 cs 100 cp 80 2 ttl (2000 + i) 1 1 b f (by omega) hfr _ w1 hB1.head rfl (fun W hW => ?_) (fun W hW => ?_)
  · exact fahead_c (o := o1) (w := W) _ _ _ _ _ hkA hnA ((hF1 51 (.inl rfl)).below hW)
  · have hB2 := (hB1.re (o' := owner o1 w1.heap.size 5) (fun b hb => own_lt hb)).below hW
    have hF2 := fun ad h => ((hF1 ad h).re (o' := owner o1 w1.heap.size 5) (fun b hb => own_lt hb)).below hW
    have ht := hfr.t1
    refine (bopen6_c (owner o1 w1.heap.size 5) b f sv sm pm hm cn cm r k hi T hT pb wh mb t am bm i gA gB l cs cp fr.length ttl (by omega) h2 h4 hkA hkB hkv hnA hnB hk1 hk hr hik hir W hB2 hF2).mono ?_
    rintro e w' ⟨o', bk, ad, had, hE, hC, hh⟩
    obtain ⟨adn, hadn, hlt⟩ : ∃ n : Nat, ad = (n : Int) ∧ n < 60 := by
      rcases had with h | h
      · exact ⟨51, h, by decide⟩
      · exact ⟨52, h.2, by decide⟩
    refine ⟨o', bk, adn, hlt, hE, hC, ?_⟩
    rcases hh with ⟨q1, q2, q3⟩ | ⟨q1, q1', q2, q3⟩ | ⟨q1, q1', q2, q3⟩
    · exact .inl ⟨q1, q2, ad, hadn, had, q3⟩
    · exact .inr (.inl ⟨⟨q1, q1'⟩, q2, ad, hadn, had, q3⟩)
    · refine .inr (.inr ⟨⟨q1, q1'⟩, ?_, ad, _, hadn, had, q3⟩)
      rw [q2, hadn]
      unfold flowV
      rfl
end Go.Proofs.YtngdebpaheejlaaGreatDoor
namespace Go.Proofs.YtngdebpaheejlaaGreatDoor
open Go.RowKit Go.Shelf
set_option linter.unusedSimpArgs false
set_option linter.unusedVariables false
theorem frmT : Frm fl 6 16 10 100 1 80 2 64 := ⟨fl_hdr.byt, fl_hdr.hi, by rw [fl_len]; decide, fl_v.2.2.2.1, by decide, by decide, by rw [fl_drop]; exact tl_seg, fun W => by rw [fl_len]; exact classify_t W⟩
def fu (src sp : Nat) : List Nat := ipB 5 9 17 src 100 (segU src 100 sp 53)
def FuOk (src sp : Nat) : Prop :=
  ((∀ x ∈ fu src sp, x < 256) ∧ 28 ≤ (fu src sp).length ∧ (fu src sp).length ≤ 1500 ∧ bt (fu src sp) 0 = 69 ∧ valAt (fu src sp) 2 2 = (fu src sp).length ∧ fold16 (sumW ((fu src sp).take 20)) = 65535) ∧
  (valAt (fu src sp) 6 2 = 0 ∧ valAt (fu src sp) 9 1 = 17 ∧ valAt (fu src sp) 8 1 = 9 ∧ valAt (fu src sp) 12 4 = src ∧ valAt (fu src sp) 16 4 = 100) ∧
  (valAt ((fu src sp).drop 20) 4 2 = ((fu src sp).drop 20).length ∧ valAt ((fu src sp).drop 20) 0 2 = sp ∧ valAt ((fu src sp).drop 20) 2 2 = 53 ∧ ps8 17 src 100 ((fu src sp).drop 20) = 65535)
instance (src sp : Nat) : Decidable (FuOk src sp) := by unfold FuOk; infer_instance
theorem fu10 : ∀ i, i < 30 → FuOk 10 i := by decide +kernel
theorem fu11 : FuOk 11 1 := by decide +kernel
theorem fu_fr {src sp : Nat} (h : FuOk src sp) : FrU (fu src sp) src 100 sp 53 9 := by
  obtain ⟨⟨a1, a2, a3, a4, a5, a6⟩, ⟨b1, b2, b3, b4, b5⟩, c1, c2, c3, c4⟩ := h
  have hl : ((fu src sp).drop 20).length = (fu src sp).length - 20 := by simp
  exact ⟨⟨a1, by omega, a3, a4, a5, a6⟩, b1, b2, b3, b4, b5, ⟨byt_drop a1 _, by omega, by omega, by omega, .inr ⟨rfl, rfl, c1⟩⟩, c2, c3, c4⟩
theorem frmU {src sp : Nat} (h : FuOk src sp) : Frm (fu src sp) 17 6 src 100 sp 53 0 9 := by
  have f := fu_fr h
  exact ⟨f.hdr.byt, f.hdr.hi, h.1.2.1, f.tt, by decide, by decide, f.seg, fun W => classify_u (fu src sp) src 100 sp 53 9 f W⟩
end Go.Proofs.YtngdebpaheejlaaGreatDoor
namespace Go.Proofs.YtngdebpaheejlaaGreatDoor
open Go.RowKit Go.Shelf
set_option linter.unusedSimpArgs false
set_option linter.unusedVariables false
theorem keyU : ∀ i : Nat, i < 30 → (keyOf Tryz.prog 97 (.agg #[.int .i64 17, .int .u32 ((10 : Nat) : Int), .int .u32 100, .int .i64 (i : Int), .int .i64 53])).isSome = true := by decide +kernel
theorem keyL11 : (keyOf Tryz.prog 97 (.agg #[.int .i64 17, .int .u32 ((11 : Nat) : Int), .int .u32 100, .int .i64 ((1 : Nat) : Int), .int .i64 53])).isSome = true := by decide +kernel
theorem keyB : ∀ i : Nat, i < 31 → (keyOf Tryz.prog 97 (.agg #[.int .i64 17, .int .u32 200, .int .u32 51, .int .i64 (2000 + (i : Int)), .int .i64 8080])).isSome = true ∧ (keyOf Tryz.prog 97 (.agg #[.int .i64 17, .int .u32 200, .int .u32 52, .int .i64 (2000 + (i : Int)), .int .i64 8080])).isSome = true := by decide +kernel
theorem keyK : (keyOf Tryz.prog 292 (.agg #[.int .i64 17, .int .u32 200, .int .u32 51, .int .i64 8080])).isSome = true ∧ (keyOf Tryz.prog 292 (.agg #[.int .i64 17, .int .u32 200, .int .u32 52, .int .i64 8080])).isSome = true := by decide +kernel
theorem keyT : (keyOf Tryz.prog 97 (.agg #[.int .i64 6, .int .u32 ((10 : Nat) : Int), .int .u32 100, .int .i64 ((1 : Nat) : Int), .int .i64 80])).isSome = true := by decide +kernel
theorem keyTB : (keyOf Tryz.prog 97 (.agg #[.int .i64 6, .int .u32 200, .int .u32 51, .int .i64 (2000 + ((0 : Nat) : Int)), .int .i64 8080])).isSome = true ∧ (keyOf Tryz.prog 97 (.agg #[.int .i64 6, .int .u32 200, .int .u32 52, .int .i64 (2000 + ((0 : Nat) : Int)), .int .i64 8080])).isSome = true := by decide +kernel
theorem keyTK : (keyOf Tryz.prog 292 (.agg #[.int .i64 6, .int .u32 200, .int .u32 51, .int .i64 8080])).isSome = true ∧ (keyOf Tryz.prog 292 (.agg #[.int .i64 6, .int .u32 200, .int .u32 52, .int .i64 8080])).isSome = true := by decide +kernel
end Go.Proofs.YtngdebpaheejlaaGreatDoor
