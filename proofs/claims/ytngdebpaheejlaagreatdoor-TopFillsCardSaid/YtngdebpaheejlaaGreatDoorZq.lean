/- The balancer: drop, turn. The balancer: hand of a client's frame that has no flow yet, by open's contract. The balancer: FromClient, by hand's contract. -/
import Derived.Test.YtngdebpaheejlaaGreatDoorZp
import Derived.Test.YtngdebpaheejlaaGreatDoorZf
import Derived.Test.YtngdebpaheejlaaGreatDoorZh
namespace Go.Proofs.YtngdebpaheejlaaGreatDoor
open Go.RowKit Go.Shelf
set_option linter.unusedSimpArgs false
set_option linter.unusedVariables false
/-- A frame that is carried. -/
structure Frm (l : List Nat) (pr a s d sp dp fl ttl : Nat) : Prop where
  byt : Byt l
  hi : l.length ≤ 1500
  lo : 28 ≤ l.length
  tv : valAt l 8 1 = ttl
  t1 : 2 ≤ ttl
  t2 : ttl ≤ 255
  seg : Seg pr a (l.drop 20)
  cls : ∀ W, Calls Tryz.prog 41 #[.string (bs l)] W fun e w' => e = .returned (.tuple #[.agg (pkt l.length pr s d sp dp fl ttl), .int .i64 0]) ∧ Below W.heap.size W w'
set_option maxRecDepth 100000 in
theorem bdrop_c (x : Int) (w : World) : Calls Tryz.prog 42 #[.int .i64 x] w fun e w' => e = .returned (.agg #[.int .i64 0, .int .u32 0, .string ⟨#[]⟩, .int .i64 x]) ∧ Below w.heap.size w w' := by
  go_enter Tryz.func42, Tryz.ntmps42
  go_wp2_with fail
  refine bodyPost_ret (v := .agg #[.int .i64 0, .int .u32 0, .string ⟨#[]⟩, .int .i64 x]) ?_ rfl ⟨rfl, (Below.refl _ _).alloc (Nat.le_refl _) _⟩
  simp [results, Tryz.f42, go_sem]
set_option maxRecDepth 100000 in
set_option maxHeartbeats 3200000 in
theorem bturn_c (l : List Nat) (pr a s d sp dp fl ttl : Nat) (h : Frm l pr a s d sp dp fl ttl) (cp cs cd ca cb bp : Int) (ts td tsp tdp : Nat) (sv be st : Int) (dsr : Bool) (h0 : ts < 4294967296) (h0' : td < 4294967296) (h1 : tsp < 65536) (h2 : tdp < 65536) (w : World) :
    Calls Tryz.prog 48 #[.string (bs l), .agg (pkt l.length pr s d sp dp fl ttl), flowV cp cs cd ca cb bp ts td tsp tdp sv be st dsr, .bool false] w fun e w' => ∃ l', l'.length = l.length ∧ e = .returned (.tuple #[.string (bs l'), .int .i64 0]) ∧ Below w.heap.size w w' := by
  have HT := Lib.hid (fun W => turned_c l pr a s d sp dp fl ttl ts td tsp tdp l.length h.byt rfl h.hi h.lo h.tv h.t1 h.t2 h0 h0' h1 h2 h.seg h.cls W)
  have HQ := Lib.hid (fun W => qplain_c cp cs cd ca cb bp ts td tsp tdp sv be st dsr W)
  unfold flowV at HQ ⊢
  unfold pkt
  have b1 : GG w ((w.alloc (.cells #[.int .i64 1, .int .i64 20, .int .i64 (l.length : Int), .int .i64 (pr : Int), .int .u32 (s : Int), .int .u32 (d : Int), .int .i64 (sp : Int), .int .i64 (dp : Int), .int .i64 (fl : Int), .int .i64 (ttl : Int), .int .u32 (s : Int), .int .u32 (d : Int), .int .i64 0, .int .i64 0] 137)).alloc (.cells #[.int .i64 cp, .int .u32 cs, .int .u32 cd, .int .i64 ca, .int .i64 cb, .int .i64 bp, .int .u32 ts, .int .u32 td, .int .i64 tsp, .int .i64 tdp, .int .i64 sv, .int .i64 be, .int .i64 st, .bool dsr] 99)) := ((GG.refl _).alloc _).alloc _
  clear h
  go_enter Tryz.func48, Tryz.ntmps48
  go_wp2_with fail
  refine (HQ.out _).mono ?_
  rintro e w2 ⟨rfl, b2⟩
  go_wp2_with fail
  refine (HT.out _).mono ?_
  rintro e w3 ⟨l', hl, rfl, b3⟩
  have HL := Lib.hid hl
  have B := Lib.hid ((b1.step b2).step b3)
  clear hl b1 b2 b3 HT HQ
  go_wp2_with fail
  go_ret2
  exact ⟨l', HL.out, rfl, B.out⟩
end Go.Proofs.YtngdebpaheejlaaGreatDoor
namespace Go.Proofs.YtngdebpaheejlaaGreatDoor
open Go.RowKit Go.Shelf
set_option linter.unusedSimpArgs false
set_option linter.unusedVariables false
def OpenPost (P0 P1 P2 : Prop) (X Y : (Nat → Nat) → Int → Nat → World → Prop) (p cs cd cp dp tsp id st : Nat) (o : Nat → Nat) (W : World) (e : Ending) (w' : World) : Prop :=
  ∃ (o' : Nat → Nat) (bk : Int) (ad : Nat), ad < 60 ∧ Ext (fun c => 1 ≤ c ∧ c ≤ 5) o o' W.heap.size ∧ Chg (fun b => 1 ≤ o b ∧ o b ≤ 4) W w' ∧
    ((P0 ∧ e = .returned (.tuple #[.agg #[.int .i64 0, .int .u32 0, .int .u32 0, .int .i64 0, .int .i64 0, .int .i64 0, .int .u32 0, .int .u32 0, .int .i64 0, .int .i64 0, .int .i64 0, .int .i64 0, .int .i64 0, .bool false], .int .i64 16]) ∧ X o' bk ad w') ∨ (P1 ∧ e = .returned (.tuple #[.agg #[.int .i64 0, .int .u32 0, .int .u32 0, .int .i64 0, .int .i64 0, .int .i64 0, .int .u32 0, .int .u32 0, .int .i64 0, .int .i64 0, .int .i64 0, .int .i64 0, .int .i64 0, .bool false], .int .i64 17]) ∧ X o' bk ad w') ∨
     (P2 ∧ e = .returned (.tuple #[flowV p cs cd cp dp p 200 ad tsp 8080 id bk st false, .int .i64 0]) ∧ Y o' bk ad w'))
def HandPost (P0 P1 P2 : Prop) (X Y : (Nat → Nat) → Int → Nat → World → Prop) (L : Nat) (o : Nat → Nat) (W : World) (e : Ending) (w' : World) : Prop :=
  ∃ (o' : Nat → Nat) (bk : Int) (ad : Nat), ad < 60 ∧ Ext (fun c => 1 ≤ c ∧ c ≤ 5) o o' W.heap.size ∧ Chg (fun b => 1 ≤ o b ∧ o b ≤ 4) W w' ∧
    ((P0 ∧ e = .returned (.agg #[.int .i64 0, .int .u32 0, .string ⟨#[]⟩, .int .i64 16]) ∧ X o' bk ad w') ∨ (P1 ∧ e = .returned (.agg #[.int .i64 0, .int .u32 0, .string ⟨#[]⟩, .int .i64 17]) ∧ X o' bk ad w') ∨
     (P2 ∧ (∃ l' : List Nat, l'.length = L ∧ e = .returned (.agg #[.int .i64 2, .int .u32 (ad : Int), .string (bs l'), .int .i64 0])) ∧ Y o' bk ad w'))
set_option maxRecDepth 100000 in
set_option maxHeartbeats 6400000 in
theorem bhand_c (P0 P1 P2 : Prop) (X Y : (Nat → Nat) → Int → Nat → World → Prop) (hXk : ∀ o' bk ad a b, X o' bk ad a → (∀ c, c < a.heap.size → o' c ≤ 4 → b.heap[c]? = a.heap[c]?) → X o' bk ad b) (hYk : ∀ o' bk ad a b, Y o' bk ad a → (∀ c, c < a.heap.size → o' c ≤ 4 → b.heap[c]? = a.heap[c]?) → Y o' bk ad b)
    (o : Nat → Nat) (l : List Nat) (p aa cs cd cp dp fl ttl tsp id st b f : Nat) (htsp : tsp < 65536) (hfr : Frm l p aa cs cd cp dp fl ttl) (xs : Array Value) (w : World) (hH : Has w b 81 xs) (hx : xs[13]? = some (.pointer (some ⟨f, 0, none⟩)))
    (H43 : ∀ W, GG w W → Calls Tryz.prog 43 #[.pointer (some ⟨f, 0, none⟩), .agg #[.int .i64 (p : Int), .int .u32 (cs : Int), .int .u32 (cd : Int), .int .i64 (cp : Int), .int .i64 (dp : Int)]] W fun e w' => e = .returned (.tuple #[.int .i64 0, .bool false]) ∧ Below W.heap.size W w')
    (H47 : ∀ W, GG w W → Calls Tryz.prog 47 #[.pointer (some ⟨b, 0, none⟩), .agg (pkt l.length p cs cd cp dp fl ttl)] W (OpenPost P0 P1 P2 X Y p cs cd cp dp tsp id st (owner o w.heap.size 5) W)) :
    Calls Tryz.prog 22 #[.pointer (some ⟨b, 0, none⟩), .string (bs l), .bool false] w (HandPost P0 P1 P2 X Y l.length o w) := by
  have hmf : ∀ (fn : Fn) (first cap : Array Value) (w : World), (Instr.makeFunc fn first cap).run Tryz.prog w = .ok (.func fn first cap) w := fun _ _ _ _ => rfl
  have E1 := Lib.hid ((own_ext o w.heap.size 5).mono (D := fun c => 1 ≤ c ∧ c ≤ 5) (fun c e => by omega))
  obtain ⟨o1, ho1⟩ : ∃ O, O = owner o w.heap.size 5 := ⟨_, rfl⟩
  have HO1 : Hid (∀ b, w.heap.size ≤ b → o1 b = 5) := fun b hb => by rw [ho1]; exact own_back hb
  have HO2 : Hid (∀ b, b < w.heap.size → o1 b = o b) := fun b hb => by rw [ho1]; exact own_lt hb
  rw [← ho1] at E1 H47
  have H47 := Lib.hid H47
  have H43 := Lib.hid H43
  have H41 := Lib.hid hfr.cls
  have HN := Lib.hid (fun W => name_c l.length p cs cd cp dp fl ttl W)
  have HT := Lib.hid (fun (ad : Nat) (bk : Int) W (h : ad < 4294967296) => bturn_c l p aa cs cd cp dp fl ttl hfr p cs cd cp dp p 200 ad tsp 8080 id bk st false (by decide) h htsp (by decide) W)
  unfold pkt flowV tupV at *
  have hbl := hH.lt
  have b1 : GG w (w.alloc (.cells #[.int .i64 0, .int .u32 0, .string ⟨#[]⟩, .int .i64 0] 38)) := (GG.refl _).alloc _
  have hO := Has.new w #[.int .i64 0, .int .u32 0, .string ⟨#[]⟩, .int .i64 0] 38
  clear hfr ho1
  go_enter Tryz.func22, Tryz.ntmps22
  go_wp2_with fail
  obtain ⟨w1, hw⟩ : ∃ W, W = w.alloc (.cells #[.int .i64 0, .int .u32 0, .string ⟨#[]⟩, .int .i64 0] 38) := ⟨_, rfl⟩
  rw [← hw] at b1 hO ⊢
  clear hw
  obtain ⟨b6, hb6⟩ : ∃ b, b = w.heap.size := ⟨_, rfl⟩
  have LO := Lib.hid hb6
  rw [← hb6] at hO ⊢
  clear hb6
  refine (H41.out _).mono ?_
  rintro e w2 ⟨rfl, b2⟩
  have hP3 := Has.new w2 #[.int .i64 1, .int .i64 20, .int .i64 (l.length : Int), .int .i64 (p : Int), .int .u32 (cs : Int), .int .u32 (cd : Int), .int .i64 (cp : Int), .int .i64 (dp : Int), .int .i64 (fl : Int), .int .i64 (ttl : Int), .int .u32 (cs : Int), .int .u32 (cd : Int), .int .i64 0, .int .i64 0] 137
  have hO3 := (hO.below b2).alloc (.cells #[.int .i64 1, .int .i64 20, .int .i64 (l.length : Int), .int .i64 (p : Int), .int .u32 (cs : Int), .int .u32 (cd : Int), .int .i64 (cp : Int), .int .i64 (dp : Int), .int .i64 (fl : Int), .int .i64 (ttl : Int), .int .u32 (cs : Int), .int .u32 (cd : Int), .int .i64 0, .int .i64 0] 137)
  have b3 := (b1.step b2).alloc (.cells #[.int .i64 1, .int .i64 20, .int .i64 (l.length : Int), .int .i64 (p : Int), .int .u32 (cs : Int), .int .u32 (cd : Int), .int .i64 (cp : Int), .int .i64 (dp : Int), .int .i64 (fl : Int), .int .i64 (ttl : Int), .int .u32 (cs : Int), .int .u32 (cd : Int), .int .i64 0, .int .i64 0] 137)
  have s2 := (b1.step b2).size
  clear b1 b2 hO H41
  go_wp2_with fail
  obtain ⟨w3, hw⟩ : ∃ W, W = w2.alloc (.cells #[.int .i64 1, .int .i64 20, .int .i64 (l.length : Int), .int .i64 (p : Int), .int .u32 (cs : Int), .int .u32 (cd : Int), .int .i64 (cp : Int), .int .i64 (dp : Int), .int .i64 (fl : Int), .int .i64 (ttl : Int), .int .u32 (cs : Int), .int .u32 (cd : Int), .int .i64 0, .int .i64 0] 137) := ⟨_, rfl⟩
  obtain ⟨b7, hb7⟩ : ∃ b, b = w2.heap.size := ⟨_, rfl⟩
  rw [← hw] at b3 hO3 hP3 ⊢
  rw [← hb7] at hP3 s2 ⊢
  clear hw hb7
  have x13 : ∀ V : Gr w3, V.1.cell? ⟨b, 13, none⟩ = some (.pointer (some ⟨f, 0, none⟩)) := fun V => ((Has.below hH (b3.step V.2)).cell 13).trans hx
  have y0 : ∀ V : Gr w3, V.1.cell? ⟨b7, 0, none⟩ = some (.int .i64 1) := fun V => ((V.has hP3).cell 0).trans rfl
  refine wp_region_grows (by kernel_rfl) (by kernel_rfl) ?_
  repeat (go_big_quiet_step (fail))
  refine wpQuiet_nil ?_
  rintro _ ⟨V, rfl⟩
  have hP4 := V.has hP3
  have hO4 := V.has hO3
  have b4 := b3.step V.2
  clear x13 y0 hP3 hO3 b3
  obtain ⟨w4, hw⟩ : ∃ W, W = V.1 := ⟨_, rfl⟩
  rw [← hw] at hP4 hO4 b4 ⊢
  clear hw V
  have y0 := (hP4.cell 0).trans rfl
  have y1 := (hP4.cell 1).trans rfl
  have y2 := (hP4.cell 2).trans rfl
  have y3 := (hP4.cell 3).trans rfl
  have y4 := (hP4.cell 4).trans rfl
  have y5 := (hP4.cell 5).trans rfl
  have y6 := (hP4.cell 6).trans rfl
  have y7 := (hP4.cell 7).trans rfl
  have y8 := (hP4.cell 8).trans rfl
  have y9 := (hP4.cell 9).trans rfl
  have y10 := (hP4.cell 10).trans rfl
  have y11 := (hP4.cell 11).trans rfl
  have y12 := (hP4.cell 12).trans rfl
  have y13 := (hP4.cell 13).trans rfl
  go_wp2_with fail
  refine (HN.out _).mono ?_
  rintro e w5 ⟨rfl, b5⟩
  clear y0 y1 y2 y3 y4 y5 y6 y7 y8 y9 y10 y11 y12 y13
  have hP5 := hP4.below b5
  have hO5 := hO4.below b5
  have b5 := b4.step b5
  clear hP4 hO4 b4 HN
  go_wp2_with fail
  refine (H43.out _ b5).mono ?_
  rintro e w6 ⟨rfl, b6'⟩
  have hP6 := hP5.below b6'
  have hO6 := hO5.below b6'
  have b6' := b5.step b6'
  clear hP5 hO5 b5 H43
  have y0 := (hP6.cell 0).trans rfl
  have y1 := (hP6.cell 1).trans rfl
  have y2 := (hP6.cell 2).trans rfl
  have y3 := (hP6.cell 3).trans rfl
  have y4 := (hP6.cell 4).trans rfl
  have y5 := (hP6.cell 5).trans rfl
  have y6 := (hP6.cell 6).trans rfl
  have y7 := (hP6.cell 7).trans rfl
  have y8 := (hP6.cell 8).trans rfl
  have y9 := (hP6.cell 9).trans rfl
  have y10 := (hP6.cell 10).trans rfl
  have y11 := (hP6.cell 11).trans rfl
  have y12 := (hP6.cell 12).trans rfl
  have y13 := (hP6.cell 13).trans rfl
  have hl6 := hP6.lt
  have hP7 := hP6.alloc (.cells #[.int .i64 0, .int .u32 0, .int .u32 0, .int .i64 0, .int .i64 0, .int .i64 0, .int .u32 0, .int .u32 0, .int .i64 0, .int .i64 0, .int .i64 0, .int .i64 0, .int .i64 0, .bool false] 99)
  have hO7 := hO6.alloc (.cells #[.int .i64 0, .int .u32 0, .int .u32 0, .int .i64 0, .int .i64 0, .int .i64 0, .int .u32 0, .int .u32 0, .int .i64 0, .int .i64 0, .int .i64 0, .int .i64 0, .int .i64 0, .bool false] 99)
  have hZ7 := Has.new w6 #[.int .i64 0, .int .u32 0, .int .u32 0, .int .i64 0, .int .i64 0, .int .i64 0, .int .u32 0, .int .u32 0, .int .i64 0, .int .i64 0, .int .i64 0, .int .i64 0, .int .i64 0, .bool false] 99
  have b7' := b6'.alloc (.cells #[.int .i64 0, .int .u32 0, .int .u32 0, .int .i64 0, .int .i64 0, .int .i64 0, .int .u32 0, .int .u32 0, .int .i64 0, .int .i64 0, .int .i64 0, .int .i64 0, .int .i64 0, .bool false] 99)
  have s6 := b6'.size
  go_wp2_with fail
  obtain ⟨w7, hw⟩ : ∃ W, W = w6.alloc (.cells #[.int .i64 0, .int .u32 0, .int .u32 0, .int .i64 0, .int .i64 0, .int .i64 0, .int .u32 0, .int .u32 0, .int .i64 0, .int .i64 0, .int .i64 0, .int .i64 0, .int .i64 0, .bool false] 99) := ⟨_, rfl⟩
  obtain ⟨b13, hb13⟩ : ∃ b, b = w6.heap.size := ⟨_, rfl⟩
  rw [← hw] at hP7 hO7 hZ7 b7' ⊢
  rw [← hb13] at hZ7 s6 ⊢
  clear hw hb13 hP6 hO6 b6' hl6 y0 y1 y2 y3 y4 y5 y6 y7 y8 y9 y10 y11 y12 y13
  refine (H47.out _ b7').mono ?_
  rintro e w8 ⟨o', bk, ad, had, hE, hC, hh⟩
  have k5 : ∀ c, w.heap.size ≤ c → ¬ (1 ≤ o1 c ∧ o1 c ≤ 4) := fun c hc h => by have := HO1.out c hc; omega
  have hP8 : Has w8 b7 137 _ := hP7.chg hC (k5 b7 s2)
  have hO8 : Has w8 b6 38 _ := hO7.chg hC (k5 b6 (by have := LO.out; omega))
  have hZ8 : Has w8 b13 99 _ := hZ7.chg hC (k5 b13 s6)
  have O6 : Hid (o' b6 = 5) := (hE.1 b6 hO7.lt).trans (HO1.out b6 (by have := LO.out; omega))
  have O13 : Hid (o' b13 = 5) := (hE.1 b13 hZ7.lt).trans (HO1.out b13 s6)
  have EE := Lib.hid (E1.out.trans hE b7'.size)
  have C8 : Chg (fun b => 1 ≤ o b ∧ o b ≤ 4) w w8 := (Chg.of_below b7').then hC (fun c hc e => by have := HO2.out c hc; omega)
  have ne6 : b6 ≠ b13 := fun e => by
    have h1 := hO8
    rw [e] at h1
    exact h1.ne hZ8 (by decide) rfl
  have bw6 : w.heap.size ≤ b6 := by have := LO.out; omega
  have bw13 : w.heap.size ≤ b13 := s6
  have HAD := Lib.hid had
  clear hE hC hP7 hO7 hZ7 b7' k5 HO1 HO2 E1 H47 s2 s6 LO had
  rcases hh with ⟨q1, rfl, q3⟩ | ⟨q1, rfl, q3⟩ | ⟨q1, rfl, q3⟩
  · have Q1 := Lib.hid q1
    have X9 := Lib.hid (hXk o' bk ad w8 (w8.setCells b13 0 #[.int .i64 0, .int .u32 0, .int .u32 0, .int .i64 0, .int .i64 0, .int .i64 0, .int .u32 0, .int .u32 0, .int .i64 0, .int .i64 0, .int .i64 0, .int .i64 0, .int .i64 0, .bool false].toList) q3 (fun c _ h4 => heap_setMany (fun e => by have := O13.out; rw [e] at h4; omega) _ _))
    have hX9 := hZ8.setAll (ys := #[.int .i64 0, .int .u32 0, .int .u32 0, .int .i64 0, .int .i64 0, .int .i64 0, .int .u32 0, .int .u32 0, .int .i64 0, .int .i64 0, .int .i64 0, .int .i64 0, .int .i64 0, .bool false]) rfl
    have hO9 := Has.setMany ne6 #[.int .i64 0, .int .u32 0, .int .u32 0, .int .i64 0, .int .i64 0, .int .i64 0, .int .u32 0, .int .u32 0, .int .i64 0, .int .i64 0, .int .i64 0, .int .i64 0, .int .i64 0, .bool false].toList 0 hO8
    have hP9 := Has.setMany (hP8.ne hZ8 (by decide)) #[.int .i64 0, .int .u32 0, .int .u32 0, .int .i64 0, .int .i64 0, .int .i64 0, .int .u32 0, .int .u32 0, .int .i64 0, .int .i64 0, .int .i64 0, .int .i64 0, .int .i64 0, .bool false].toList 0 hP8
    have C9 := Lib.hid (Chg.setManyIn bw13 #[.int .i64 0, .int .u32 0, .int .u32 0, .int .i64 0, .int .i64 0, .int .i64 0, .int .u32 0, .int .u32 0, .int .i64 0, .int .i64 0, .int .i64 0, .int .i64 0, .int .i64 0, .bool false].toList 0 C8)
    have HTH := Lib.hid (hZ8.there (n := 14) (by decide))
    clear q1 q3 hZ8 hO8 hP8 C8
    go_wp2_with ((with_reducible refine is_put ?_); go_loud (refine wpList_store_mid rfl _ _ _ rfl b13 0 #[.int .i64 0, .int .u32 0, .int .u32 0, .int .i64 0, .int .i64 0, .int .i64 0, .int .u32 0, .int .u32 0, .int .i64 0, .int .i64 0, .int .i64 0, .int .i64 0, .int .i64 0, .bool false] rfl rfl HTH.out (by kernel_rfl) (by kernel_rfl) ?_; generalize w8.setCells b13 0 #[.int .i64 0, .int .u32 0, .int .u32 0, .int .i64 0, .int .i64 0, .int .i64 0, .int .u32 0, .int .u32 0, .int .i64 0, .int .i64 0, .int .i64 0, .int .i64 0, .int .i64 0, .bool false].toList = w9 at hX9 hO9 hP9 C9 X9 ⊢))
    refine (bdrop_c 16 w9).mono ?_
    rintro e w10 ⟨rfl, b10⟩
    have hO10 := hO9.below b10
    have X10 := hXk o' bk ad w9 w10 X9.out (fun c hc _ => b10.block c hc)
    have C10 := C9.out.trans (Chg.of_below b10)
    have hX11 := hO10.setAll (ys := #[.int .i64 0, .int .u32 0, .string ⟨#[]⟩, .int .i64 16]) rfl
    have C11 := Lib.hid (Chg.setManyIn bw6 #[.int .i64 0, .int .u32 0, .string ⟨#[]⟩, .int .i64 16].toList 0 C10)
    have X11 := Lib.hid (hXk o' bk ad w10 (w10.setCells b6 0 #[.int .i64 0, .int .u32 0, .string ⟨#[]⟩, .int .i64 16].toList) X10 (fun c _ h4 => heap_setMany (fun e => by have := O6.out; rw [e] at h4; omega) _ _))
    have HTH6 := Lib.hid (hO10.there (n := 4) (by decide))
    clear hO9 X9 C9 b10 hO10 X10 C10 HTH hX9 hP9
    go_wp2_with ((with_reducible refine is_put ?_); go_loud (refine wpList_store_mid rfl _ _ _ rfl b6 0 #[.int .i64 0, .int .u32 0, .string ⟨#[]⟩, .int .i64 16] rfl rfl HTH6.out (by kernel_rfl) (by kernel_rfl) ?_; generalize w10.setCells b6 0 #[.int .i64 0, .int .u32 0, .string ⟨#[]⟩, .int .i64 16].toList = wF at hX11 C11 X11 ⊢))
    have u0 := (hX11.cell 0).trans rfl
    have u1 := (hX11.cell 1).trans rfl
    have u2 := (hX11.cell 2).trans rfl
    have u3 := (hX11.cell 3).trans rfl
    refine bodyPost_ret (v := .agg #[.int .i64 0, .int .u32 0, .string ⟨#[]⟩, .int .i64 16]) ?_ rfl ⟨o', bk, ad, HAD.out, EE.out, C11.out, .inl ⟨Q1.out, rfl, X11.out⟩⟩
    simp [results, Tryz.f22, go_sem, u0, u1, u2, u3]
  · have Q1 := Lib.hid q1
    have X9 := Lib.hid (hXk o' bk ad w8 (w8.setCells b13 0 #[.int .i64 0, .int .u32 0, .int .u32 0, .int .i64 0, .int .i64 0, .int .i64 0, .int .u32 0, .int .u32 0, .int .i64 0, .int .i64 0, .int .i64 0, .int .i64 0, .int .i64 0, .bool false].toList) q3 (fun c _ h4 => heap_setMany (fun e => by have := O13.out; rw [e] at h4; omega) _ _))
    have hX9 := hZ8.setAll (ys := #[.int .i64 0, .int .u32 0, .int .u32 0, .int .i64 0, .int .i64 0, .int .i64 0, .int .u32 0, .int .u32 0, .int .i64 0, .int .i64 0, .int .i64 0, .int .i64 0, .int .i64 0, .bool false]) rfl
    have hO9 := Has.setMany ne6 #[.int .i64 0, .int .u32 0, .int .u32 0, .int .i64 0, .int .i64 0, .int .i64 0, .int .u32 0, .int .u32 0, .int .i64 0, .int .i64 0, .int .i64 0, .int .i64 0, .int .i64 0, .bool false].toList 0 hO8
    have hP9 := Has.setMany (hP8.ne hZ8 (by decide)) #[.int .i64 0, .int .u32 0, .int .u32 0, .int .i64 0, .int .i64 0, .int .i64 0, .int .u32 0, .int .u32 0, .int .i64 0, .int .i64 0, .int .i64 0, .int .i64 0, .int .i64 0, .bool false].toList 0 hP8
    have C9 := Lib.hid (Chg.setManyIn bw13 #[.int .i64 0, .int .u32 0, .int .u32 0, .int .i64 0, .int .i64 0, .int .i64 0, .int .u32 0, .int .u32 0, .int .i64 0, .int .i64 0, .int .i64 0, .int .i64 0, .int .i64 0, .bool false].toList 0 C8)
    have HTH := Lib.hid (hZ8.there (n := 14) (by decide))
    clear q1 q3 hZ8 hO8 hP8 C8
    go_wp2_with ((with_reducible refine is_put ?_); go_loud (refine wpList_store_mid rfl _ _ _ rfl b13 0 #[.int .i64 0, .int .u32 0, .int .u32 0, .int .i64 0, .int .i64 0, .int .i64 0, .int .u32 0, .int .u32 0, .int .i64 0, .int .i64 0, .int .i64 0, .int .i64 0, .int .i64 0, .bool false] rfl rfl HTH.out (by kernel_rfl) (by kernel_rfl) ?_; generalize w8.setCells b13 0 #[.int .i64 0, .int .u32 0, .int .u32 0, .int .i64 0, .int .i64 0, .int .i64 0, .int .u32 0, .int .u32 0, .int .i64 0, .int .i64 0, .int .i64 0, .int .i64 0, .int .i64 0, .bool false].toList = w9 at hX9 hO9 hP9 C9 X9 ⊢))
    refine (bdrop_c 17 w9).mono ?_
    rintro e w10 ⟨rfl, b10⟩
    have hO10 := hO9.below b10
    have X10 := hXk o' bk ad w9 w10 X9.out (fun c hc _ => b10.block c hc)
    have C10 := C9.out.trans (Chg.of_below b10)
    have hX11 := hO10.setAll (ys := #[.int .i64 0, .int .u32 0, .string ⟨#[]⟩, .int .i64 17]) rfl
    have C11 := Lib.hid (Chg.setManyIn bw6 #[.int .i64 0, .int .u32 0, .string ⟨#[]⟩, .int .i64 17].toList 0 C10)
    have X11 := Lib.hid (hXk o' bk ad w10 (w10.setCells b6 0 #[.int .i64 0, .int .u32 0, .string ⟨#[]⟩, .int .i64 17].toList) X10 (fun c _ h4 => heap_setMany (fun e => by have := O6.out; rw [e] at h4; omega) _ _))
    have HTH6 := Lib.hid (hO10.there (n := 4) (by decide))
    clear hO9 X9 C9 b10 hO10 X10 C10 HTH hX9 hP9
    go_wp2_with ((with_reducible refine is_put ?_); go_loud (refine wpList_store_mid rfl _ _ _ rfl b6 0 #[.int .i64 0, .int .u32 0, .string ⟨#[]⟩, .int .i64 17] rfl rfl HTH6.out (by kernel_rfl) (by kernel_rfl) ?_; generalize w10.setCells b6 0 #[.int .i64 0, .int .u32 0, .string ⟨#[]⟩, .int .i64 17].toList = wF at hX11 C11 X11 ⊢))
    have u0 := (hX11.cell 0).trans rfl
    have u1 := (hX11.cell 1).trans rfl
    have u2 := (hX11.cell 2).trans rfl
    have u3 := (hX11.cell 3).trans rfl
    refine bodyPost_ret (v := .agg #[.int .i64 0, .int .u32 0, .string ⟨#[]⟩, .int .i64 17]) ?_ rfl ⟨o', bk, ad, HAD.out, EE.out, C11.out, .inr (.inl ⟨Q1.out, rfl, X11.out⟩)⟩
    simp [results, Tryz.f22, go_sem, u0, u1, u2, u3]
  · have Q1 := Lib.hid q1
    have X9 := Lib.hid (hYk o' bk ad w8 (w8.setCells b13 0 #[.int .i64 (p : Int), .int .u32 (cs : Int), .int .u32 (cd : Int), .int .i64 (cp : Int), .int .i64 (dp : Int), .int .i64 (p : Int), .int .u32 ((200 : Nat) : Int), .int .u32 (ad : Int), .int .i64 (tsp : Int), .int .i64 ((8080 : Nat) : Int), .int .i64 (id : Int), .int .i64 bk, .int .i64 (st : Int), .bool false].toList) q3 (fun c _ h4 => heap_setMany (fun e => by have := O13.out; rw [e] at h4; omega) _ _))
    have hX9 := hZ8.setAll (ys := #[.int .i64 (p : Int), .int .u32 (cs : Int), .int .u32 (cd : Int), .int .i64 (cp : Int), .int .i64 (dp : Int), .int .i64 (p : Int), .int .u32 ((200 : Nat) : Int), .int .u32 (ad : Int), .int .i64 (tsp : Int), .int .i64 ((8080 : Nat) : Int), .int .i64 (id : Int), .int .i64 bk, .int .i64 (st : Int), .bool false]) rfl
    have hO9 := Has.setMany ne6 #[.int .i64 (p : Int), .int .u32 (cs : Int), .int .u32 (cd : Int), .int .i64 (cp : Int), .int .i64 (dp : Int), .int .i64 (p : Int), .int .u32 ((200 : Nat) : Int), .int .u32 (ad : Int), .int .i64 (tsp : Int), .int .i64 ((8080 : Nat) : Int), .int .i64 (id : Int), .int .i64 bk, .int .i64 (st : Int), .bool false].toList 0 hO8
    have hP9 := Has.setMany (hP8.ne hZ8 (by decide)) #[.int .i64 (p : Int), .int .u32 (cs : Int), .int .u32 (cd : Int), .int .i64 (cp : Int), .int .i64 (dp : Int), .int .i64 (p : Int), .int .u32 ((200 : Nat) : Int), .int .u32 (ad : Int), .int .i64 (tsp : Int), .int .i64 ((8080 : Nat) : Int), .int .i64 (id : Int), .int .i64 bk, .int .i64 (st : Int), .bool false].toList 0 hP8
    have C9 := Lib.hid (Chg.setManyIn bw13 #[.int .i64 (p : Int), .int .u32 (cs : Int), .int .u32 (cd : Int), .int .i64 (cp : Int), .int .i64 (dp : Int), .int .i64 (p : Int), .int .u32 ((200 : Nat) : Int), .int .u32 (ad : Int), .int .i64 (tsp : Int), .int .i64 ((8080 : Nat) : Int), .int .i64 (id : Int), .int .i64 bk, .int .i64 (st : Int), .bool false].toList 0 C8)
    have HTH := Lib.hid (hZ8.there (n := 14) (by decide))
    clear q1 q3 hZ8 hO8 hP8 C8
    go_wp2_with ((with_reducible refine is_put ?_); go_loud (refine wpList_store_mid rfl _ _ _ rfl b13 0 #[.int .i64 (p : Int), .int .u32 (cs : Int), .int .u32 (cd : Int), .int .i64 (cp : Int), .int .i64 (dp : Int), .int .i64 (p : Int), .int .u32 ((200 : Nat) : Int), .int .u32 (ad : Int), .int .i64 (tsp : Int), .int .i64 ((8080 : Nat) : Int), .int .i64 (id : Int), .int .i64 bk, .int .i64 (st : Int), .bool false] rfl rfl HTH.out (by kernel_rfl) (by kernel_rfl) ?_; generalize w8.setCells b13 0 #[.int .i64 (p : Int), .int .u32 (cs : Int), .int .u32 (cd : Int), .int .i64 (cp : Int), .int .i64 (dp : Int), .int .i64 (p : Int), .int .u32 ((200 : Nat) : Int), .int .u32 (ad : Int), .int .i64 (tsp : Int), .int .i64 ((8080 : Nat) : Int), .int .i64 (id : Int), .int .i64 bk, .int .i64 (st : Int), .bool false].toList = w9 at hX9 hO9 hP9 C9 X9 ⊢; have p0 := (hP9.cell 0).trans rfl; have v0 := (hX9.cell 0).trans rfl; have p1 := (hP9.cell 1).trans rfl; have v1 := (hX9.cell 1).trans rfl; have p2 := (hP9.cell 2).trans rfl; have v2 := (hX9.cell 2).trans rfl; have p3 := (hP9.cell 3).trans rfl; have v3 := (hX9.cell 3).trans rfl; have p4 := (hP9.cell 4).trans rfl; have v4 := (hX9.cell 4).trans rfl; have p5 := (hP9.cell 5).trans rfl; have v5 := (hX9.cell 5).trans rfl; have p6 := (hP9.cell 6).trans rfl; have v6 := (hX9.cell 6).trans rfl; have p7 := (hP9.cell 7).trans rfl; have v7 := (hX9.cell 7).trans rfl; have p8 := (hP9.cell 8).trans rfl; have v8 := (hX9.cell 8).trans rfl; have p9 := (hP9.cell 9).trans rfl; have v9 := (hX9.cell 9).trans rfl; have p10 := (hP9.cell 10).trans rfl; have v10 := (hX9.cell 10).trans rfl; have p11 := (hP9.cell 11).trans rfl; have v11 := (hX9.cell 11).trans rfl; have p12 := (hP9.cell 12).trans rfl; have v12 := (hX9.cell 12).trans rfl; have p13 := (hP9.cell 13).trans rfl; have v13 := (hX9.cell 13).trans rfl))
    refine (HT.out ad bk w9 (by have := HAD.out; omega)).mono ?_
    rintro e w10 ⟨l', hl', rfl, b10⟩
    have HLL := Lib.hid hl'
    have hX10 := hX9.below b10
    have w7' := (hX10.cell 7).trans rfl
    clear hl' p0 v0 p1 v1 p2 v2 p3 v3 p4 v4 p5 v5 p6 v6 p7 v7 p8 v8 p9 v9 p10 v10 p11 v11 p12 v12 p13 v13 hX10
    have hO10 := hO9.below b10
    have X10 := hYk o' bk ad w9 w10 X9.out (fun c hc _ => b10.block c hc)
    have C10 := C9.out.trans (Chg.of_below b10)
    have hX11 := hO10.setAll (ys := #[.int .i64 2, .int .u32 (ad : Int), .string (bs l'), .int .i64 0]) rfl
    have C11 := Lib.hid (Chg.setManyIn bw6 #[.int .i64 2, .int .u32 (ad : Int), .string (bs l'), .int .i64 0].toList 0 C10)
    have X11 := Lib.hid (hYk o' bk ad w10 (w10.setCells b6 0 #[.int .i64 2, .int .u32 (ad : Int), .string (bs l'), .int .i64 0].toList) X10 (fun c _ h4 => heap_setMany (fun e => by have := O6.out; rw [e] at h4; omega) _ _))
    have HTH6 := Lib.hid (hO10.there (n := 4) (by decide))
    clear hO9 X9 C9 b10 hO10 X10 C10 HTH hX9 hP9
    go_wp2_with ((with_reducible refine is_put ?_); go_loud (refine wpList_store_mid rfl _ _ _ rfl b6 0 #[.int .i64 2, .int .u32 (ad : Int), .string (bs l'), .int .i64 0] rfl rfl HTH6.out (by kernel_rfl) (by kernel_rfl) ?_; generalize w10.setCells b6 0 #[.int .i64 2, .int .u32 (ad : Int), .string (bs l'), .int .i64 0].toList = wF at hX11 C11 X11 ⊢))
    have u0 := (hX11.cell 0).trans rfl
    have u1 := (hX11.cell 1).trans rfl
    have u2 := (hX11.cell 2).trans rfl
    have u3 := (hX11.cell 3).trans rfl
    refine bodyPost_ret (v := .agg #[.int .i64 2, .int .u32 (ad : Int), .string (bs l'), .int .i64 0]) ?_ rfl ⟨o', bk, ad, HAD.out, EE.out, C11.out, .inr (.inr ⟨Q1.out, ⟨l', HLL.out, rfl⟩, X11.out⟩)⟩
    simp [results, Tryz.f22, go_sem, u0, u1, u2, u3]
end Go.Proofs.YtngdebpaheejlaaGreatDoor
namespace Go.Proofs.YtngdebpaheejlaaGreatDoor
open Go.RowKit Go.Shelf
set_option linter.unusedSimpArgs false
set_option linter.unusedVariables false
theorem Bal.count {o : Nat → Nat} {w w' : World} {b f sv sm pm hm cn cm r k m hi : Nat} {T fc : Nat → Nat} (h : Bal o w b f sv sm pm hm cn cm r k m hi T) (hC : Chg (fun c => c = cn ∨ c = cm) w w') (q : Ct w' cn cm (hi + 1) fc) : Bal o w' b f sv sm pm hm cn cm r k m (hi + 1) T := by
  obtain ⟨h1, h2, h3, h4, h5, h6, ⟨n, M, p1, p2, p3⟩, fc0, h8⟩ := h
  have k3 : ∀ c, c < w.heap.size → o c ≠ 9 → w'.heap[c]? = w.heap[c]? := fun c hc e => hC.block c hc (fun e2 => by
    rcases e2 with e2 | e2
    · exact e (by rw [e2]; exact h3)
    · exact e (by rw [e2]; exact h4))
  refine ⟨h1, h2, h3, h4, (k3 b h5.lt (by omega)).trans h5, h6.keep (fun c hc (e : o c = 7) => k3 c hc (by omega)), ⟨n, M, p1, p2.of_block (k3 pm p2.lt (by omega)), fun j j1 j2 => ?_⟩, fc, q⟩
  obtain ⟨p, ab, am, om, q1, q2⟩ := p3 j j1 j2
  exact ⟨p, ab, am, om, q1, q2.keep (fun c hc (e : o c = 20 + j) => k3 c hc (by omega))⟩
theorem Bal.re' {o o' : Nat → Nat} {w : World} {b f sv sm pm hm cn cm r k m hi : Nat} {T : Nat → Nat} (h : Bal o w b f sv sm pm hm cn cm r k m hi T) (he : ∀ b, 6 ≤ o b → o' b = o b) : Bal o' w b f sv sm pm hm cn cm r k m hi T := by
  obtain ⟨h1, h2, h3, h4, h5, h6, ⟨n, M, p1, p2, p3⟩, fc, h8⟩ := h
  refine ⟨(he b (by omega)).trans h1, (he pm (by omega)).trans h2, (he cn (by omega)).trans h3, (he cm (by omega)).trans h4, h5, h6.mono (fun c (hc : o c = 7) => (he c (by omega)).trans hc), ⟨n, M, p1, p2, fun j j1 j2 => ?_⟩, fc, h8⟩
  obtain ⟨p, ab, am, om, q1, q2⟩ := p3 j j1 j2
  exact ⟨p, ab, am, om, q1, q2.mono (fun c (hc : o c = 20 + j) => (he c (by omega)).trans hc)⟩
def FromPost (P0 P1 P2 : Prop) (X Y : (Nat → Nat) → Int → Nat → World → Prop) (B : (Nat → Nat) → World → Prop) (L : Nat) (o : Nat → Nat) (W : World) (e : Ending) (w' : World) : Prop :=
  ∃ (o' : Nat → Nat) (bk : Int) (ad : Nat), ad < 60 ∧ Ext (fun c => 1 ≤ c ∧ c ≤ 5) o o' W.heap.size ∧ Chg (fun b => 1 ≤ o b ∧ o b ≤ 9) W w' ∧ B o' w' ∧
    ((P0 ∧ e = .returned (.agg #[.int .i64 0, .int .u32 0, .string ⟨#[]⟩, .int .i64 16]) ∧ X o' bk ad w') ∨ (P1 ∧ e = .returned (.agg #[.int .i64 0, .int .u32 0, .string ⟨#[]⟩, .int .i64 17]) ∧ X o' bk ad w') ∨
     (P2 ∧ (∃ l' : List Nat, l'.length = L ∧ e = .returned (.agg #[.int .i64 2, .int .u32 (ad : Int), .string (bs l'), .int .i64 0])) ∧ Y o' bk ad w'))
set_option maxRecDepth 100000 in
set_option maxHeartbeats 6400000 in
theorem bfrom_c (P0 P1 P2 : Prop) (X Y : (Nat → Nat) → Int → Nat → World → Prop) (hXk : ∀ o' bk ad a b, X o' bk ad a → (∀ c, c < a.heap.size → o' c ≤ 4 → b.heap[c]? = a.heap[c]?) → X o' bk ad b) (hYk : ∀ o' bk ad a b, Y o' bk ad a → (∀ c, c < a.heap.size → o' c ≤ 4 → b.heap[c]? = a.heap[c]?) → Y o' bk ad b)
    (o : Nat → Nat) (l : List Nat) (b f sv sm pm hm cn cm r k hi : Nat) (T : Nat → Nat) (hhi : hi < 60000) (w : World) (hB : Bal o w b f sv sm pm hm cn cm r k 4 hi T)
    (H22 : Calls Tryz.prog 22 #[.pointer (some ⟨b, 0, none⟩), .string (bs l), .bool false] (w.alloc (.cells #[.int .i64 0, .int .u32 0, .string ⟨#[]⟩, .int .i64 0] 38)) (HandPost P0 P1 P2 X Y l.length (owner o w.heap.size 5) (w.alloc (.cells #[.int .i64 0, .int .u32 0, .string ⟨#[]⟩, .int .i64 0] 38)))) :
    Calls Tryz.prog 7 #[.pointer (some ⟨b, 0, none⟩), .string (bs l)] w (FromPost P0 P1 P2 X Y (fun o' w' => Bal o' w' b f sv sm pm hm cn cm r k 4 (hi + 1) T) l.length o w) := by
  have E1 := Lib.hid ((own_ext o w.heap.size 5).mono (D := fun c => 1 ≤ c ∧ c ≤ 5) (fun c e => by omega))
  obtain ⟨o1, ho1⟩ : ∃ O, O = owner o w.heap.size 5 := ⟨_, rfl⟩
  have HO1 : Hid (∀ b, w.heap.size ≤ b → o1 b = 5) := fun b hb => by rw [ho1]; exact own_back hb
  have HO2 : Hid (∀ b, b < w.heap.size → o1 b = o b) := fun b hb => by rw [ho1]; exact own_lt hb
  rw [← ho1] at E1 H22
  have b1 : GG w (w.alloc (.cells #[.int .i64 0, .int .u32 0, .string ⟨#[]⟩, .int .i64 0] 38)) := (GG.refl _).alloc _
  have hO := Has.new w #[.int .i64 0, .int .u32 0, .string ⟨#[]⟩, .int .i64 0] 38
  have hB1 := (hB.re (o' := o1) HO2.out).below b1
  have H22 := Lib.hid H22
  clear ho1 hB
  go_enter Tryz.func7, Tryz.ntmps7
  go_wp2_with fail
  obtain ⟨w1, hw⟩ : ∃ W, W = w.alloc (.cells #[.int .i64 0, .int .u32 0, .string ⟨#[]⟩, .int .i64 0] 38) := ⟨_, rfl⟩
  rw [← hw] at b1 hO hB1 H22 ⊢
  clear hw
  obtain ⟨b4, hb4⟩ : ∃ b, b = w.heap.size := ⟨_, rfl⟩
  have LO := Lib.hid hb4
  rw [← hb4] at hO ⊢
  clear hb4
  refine H22.out.mono ?_
  rintro e w2 ⟨o', bk, ad, had, hE, hC, hh⟩
  have bw4 : w.heap.size ≤ b4 := by have := LO.out; omega
  have k5 := HO1.out b4 bw4
  have hO2 : Has w2 b4 38 _ := hO.chg hC (fun e => by omega)
  have O4 : Hid (o' b4 = 5) := (hE.1 b4 hO.lt).trans k5
  have HB2 := Lib.hid ((hB1.keep (fun c hc q1 q2 => hC.block c hc (fun e => by omega))) : Bal o1 w2 b f sv sm pm hm cn cm r k 4 hi T)
  have EE := Lib.hid (E1.out.trans hE b1.size)
  have C2 : Chg (fun b => 1 ≤ o b ∧ o b ≤ 9) w w2 := (Chg.of_below b1).then hC (fun c hc e => by have := HO2.out c hc; omega)
  have HAD := Lib.hid had
  have s12 := hC.size
  have HE := Lib.hid hE
  clear H22 hO hC hE had LO k5 E1
  rcases hh with ⟨q1, rfl, q3⟩ | ⟨q1, rfl, q3⟩ | ⟨q1, ⟨l', hl', rfl⟩, q3⟩
  · have Q1 := Lib.hid q1
    have Q3 := Lib.hid q3
    clear q1 q3
    have hX3 := Has.new w2 #[.int .i64 0, .int .u32 0, .string ⟨#[]⟩, .int .i64 16] 38
    have hO3 := hO2.alloc (.cells #[.int .i64 0, .int .u32 0, .string ⟨#[]⟩, .int .i64 16] 38)
    have g3 : GG w2 (w2.alloc (.cells #[.int .i64 0, .int .u32 0, .string ⟨#[]⟩, .int .i64 16] 38)) := (GG.refl _).alloc _
    clear hO2
    go_wp2_with fail
    obtain ⟨w3, hw⟩ : ∃ W, W = w2.alloc (.cells #[.int .i64 0, .int .u32 0, .string ⟨#[]⟩, .int .i64 16] 38) := ⟨_, rfl⟩
    obtain ⟨b5, hb5⟩ : ∃ b, b = w2.heap.size := ⟨_, rfl⟩
    rw [← hw] at hX3 hO3 g3 ⊢
    rw [← hb5] at hX3 ⊢
    have LO5 := Lib.hid hb5
    clear hw hb5
    have HB3 := Lib.hid (HB2.out.below g3)
    have x15 : ∀ V : Gr w3, V.1.cell? ⟨b, 15, none⟩ = some (.pointer (some ⟨cn, 0, none⟩)) := fun V => ((V.has HB3.out.head).cell 15).trans rfl
    have y3 : ∀ V : Gr w3, V.1.cell? ⟨b5, 3, none⟩ = some (.int .i64 16) := fun V => ((V.has hX3).cell 3).trans rfl
    refine wp_region_grows_tail 6 (by kernel_rfl) (by kernel_rfl) ?_
    simp only [List.take_succ_cons, List.take_zero, List.drop_succ_cons, List.drop_zero]
    repeat (go_big_quiet_step (fail))
    refine wpQuiet_nil ?_
    rintro _ ⟨V, rfl⟩
    have g4 : GG w2 V.1 := g3.step V.2
    have hX4 := V.has hX3
    have hO4 := V.has hO3
    have HB4 := Lib.hid (HB3.out.below V.2)
    clear x15 y3 hX3 hO3 HB3 g3
    obtain ⟨w4, hw⟩ : ∃ W, W = V.1 := ⟨_, rfl⟩
    rw [← hw] at hX4 hO4 HB4 g4 ⊢
    clear hw V
    obtain ⟨fc, hct⟩ := HB4.out.cts
    have HC := Lib.hid (cadd_g cn cm hi fc 16 (by decide) (by omega) w4 hct)
    go_wp2_with fail
    refine HC.out.mono ?_
    clear HC hct
    rintro e w5 ⟨rfl, hct, hC5⟩
    have oc9 := HB4.out.oc
    have od9 := HB4.out.od
    have n9 : ∀ c, w.heap.size ≤ c → ¬ (c = cn ∨ c = cm) := fun c hc e => by
      have := HO1.out c hc
      rcases e with e | e <;> rw [e] at this <;> omega
    have hX5 : Has w5 b5 38 #[.int .i64 0, .int .u32 0, .string ⟨#[]⟩, .int .i64 16] := hX4.chg hC5 (n9 b5 (by have := LO5.out; have := C2.size; omega))
    have hO5 : Has w5 b4 38 _ := hO4.chg hC5 (n9 b4 bw4)
    have HB5 := HB4.out.count hC5 hct
    have lcn : cn < w1.heap.size := hB1.cts.elim fun _ h => h.head.lt
    have lcm : cm < w1.heap.size := hB1.cts.elim fun _ h => h.mlt
    have e9 : o' cn = 9 ∧ o' cm = 9 := ⟨(HE.out.1 cn lcn).trans oc9, (HE.out.1 cm lcm).trans od9⟩
    have X5 := hXk o' bk ad w2 w5 Q3.out (fun c hc h4 => (hC5.block c (Nat.lt_of_lt_of_le hc g4.size) (fun e => by rcases e with e | e <;> rw [e] at h4 <;> omega)).trans (Below.block g4 c hc))
    have C5 : Chg (fun b => 1 ≤ o b ∧ o b ≤ 9) w w5 := (C2.trans (Chg.of_below g4)).then hC5 (fun c hc e => by have := HO2.out c hc; rcases e with e | e <;> rw [e] at this ⊢ <;> omega)
    have HB5 := Lib.hid HB5
    have X5 := Lib.hid X5
    clear hX4 hO4 HB4 hC5 hct n9 oc9 od9 C2 Q3
    have s01 := b1.size
    have HB6 : Bal o' w5 b f sv sm pm hm cn cm r k 4 (hi + 1) T := HB5.out.re' (fun c hc => by
      have : c < w.heap.size := by
        rcases Nat.lt_or_ge c w.heap.size with q | q
        · exact q
        · have := HO1.out c q; omega
      exact HE.out.1 c (by omega))
    have HBF := Lib.hid (HB6.keep (w' := w5.setCells b4 0 #[.int .i64 0, .int .u32 0, .string ⟨#[]⟩, .int .i64 16].toList) (fun c _ h6 _ => heap_setMany (fun e => by have := O4.out; rw [e] at h6; omega) _ _))
    have XF := Lib.hid (hXk o' bk ad w5 (w5.setCells b4 0 #[.int .i64 0, .int .u32 0, .string ⟨#[]⟩, .int .i64 16].toList) X5.out (fun c _ h4 => heap_setMany (fun e => by have := O4.out; rw [e] at h4; omega) _ _))
    have hXF := hO5.setAll (ys := #[.int .i64 0, .int .u32 0, .string ⟨#[]⟩, .int .i64 16]) rfl
    have CF := Lib.hid (Chg.setManyIn bw4 #[.int .i64 0, .int .u32 0, .string ⟨#[]⟩, .int .i64 16].toList 0 C5)
    have HTH := Lib.hid (hO5.there (n := 4) (by decide))
    have p0 := (hX5.cell 0).trans rfl
    have p1 := (hX5.cell 1).trans rfl
    have p2 := (hX5.cell 2).trans rfl
    have p3 := (hX5.cell 3).trans rfl
    clear HB6 HB5 X5 C5 hO5 hX5
    go_wp2_with ((with_reducible refine is_put ?_); go_loud (refine wpList_store_mid rfl _ _ _ rfl b4 0 #[.int .i64 0, .int .u32 0, .string ⟨#[]⟩, .int .i64 16] rfl rfl HTH.out (by kernel_rfl) (by kernel_rfl) ?_; generalize w5.setCells b4 0 #[.int .i64 0, .int .u32 0, .string ⟨#[]⟩, .int .i64 16].toList = wF at hXF HBF XF CF ⊢))
    have u0 := (hXF.cell 0).trans rfl
    have u1 := (hXF.cell 1).trans rfl
    have u2 := (hXF.cell 2).trans rfl
    have u3 := (hXF.cell 3).trans rfl
    refine bodyPost_ret (v := .agg #[.int .i64 0, .int .u32 0, .string ⟨#[]⟩, .int .i64 16]) ?_ rfl ⟨o', bk, ad, HAD.out, EE.out, CF.out, HBF.out, .inl ⟨Q1.out, rfl, XF.out⟩⟩
    simp [results, Tryz.f7, go_sem, u0, u1, u2, u3]
  · have Q1 := Lib.hid q1
    have Q3 := Lib.hid q3
    clear q1 q3
    have hX3 := Has.new w2 #[.int .i64 0, .int .u32 0, .string ⟨#[]⟩, .int .i64 17] 38
    have hO3 := hO2.alloc (.cells #[.int .i64 0, .int .u32 0, .string ⟨#[]⟩, .int .i64 17] 38)
    have g3 : GG w2 (w2.alloc (.cells #[.int .i64 0, .int .u32 0, .string ⟨#[]⟩, .int .i64 17] 38)) := (GG.refl _).alloc _
    clear hO2
    go_wp2_with fail
    obtain ⟨w3, hw⟩ : ∃ W, W = w2.alloc (.cells #[.int .i64 0, .int .u32 0, .string ⟨#[]⟩, .int .i64 17] 38) := ⟨_, rfl⟩
    obtain ⟨b5, hb5⟩ : ∃ b, b = w2.heap.size := ⟨_, rfl⟩
    rw [← hw] at hX3 hO3 g3 ⊢
    rw [← hb5] at hX3 ⊢
    have LO5 := Lib.hid hb5
    clear hw hb5
    have HB3 := Lib.hid (HB2.out.below g3)
    have x15 : ∀ V : Gr w3, V.1.cell? ⟨b, 15, none⟩ = some (.pointer (some ⟨cn, 0, none⟩)) := fun V => ((V.has HB3.out.head).cell 15).trans rfl
    have y3 : ∀ V : Gr w3, V.1.cell? ⟨b5, 3, none⟩ = some (.int .i64 17) := fun V => ((V.has hX3).cell 3).trans rfl
    refine wp_region_grows_tail 6 (by kernel_rfl) (by kernel_rfl) ?_
    simp only [List.take_succ_cons, List.take_zero, List.drop_succ_cons, List.drop_zero]
    repeat (go_big_quiet_step (fail))
    refine wpQuiet_nil ?_
    rintro _ ⟨V, rfl⟩
    have g4 : GG w2 V.1 := g3.step V.2
    have hX4 := V.has hX3
    have hO4 := V.has hO3
    have HB4 := Lib.hid (HB3.out.below V.2)
    clear x15 y3 hX3 hO3 HB3 g3
    obtain ⟨w4, hw⟩ : ∃ W, W = V.1 := ⟨_, rfl⟩
    rw [← hw] at hX4 hO4 HB4 g4 ⊢
    clear hw V
    obtain ⟨fc, hct⟩ := HB4.out.cts
    have HC := Lib.hid (cadd_g cn cm hi fc 17 (by decide) (by omega) w4 hct)
    go_wp2_with fail
    refine HC.out.mono ?_
    clear HC hct
    rintro e w5 ⟨rfl, hct, hC5⟩
    have oc9 := HB4.out.oc
    have od9 := HB4.out.od
    have n9 : ∀ c, w.heap.size ≤ c → ¬ (c = cn ∨ c = cm) := fun c hc e => by
      have := HO1.out c hc
      rcases e with e | e <;> rw [e] at this <;> omega
    have hX5 : Has w5 b5 38 #[.int .i64 0, .int .u32 0, .string ⟨#[]⟩, .int .i64 17] := hX4.chg hC5 (n9 b5 (by have := LO5.out; have := C2.size; omega))
    have hO5 : Has w5 b4 38 _ := hO4.chg hC5 (n9 b4 bw4)
    have HB5 := HB4.out.count hC5 hct
    have lcn : cn < w1.heap.size := hB1.cts.elim fun _ h => h.head.lt
    have lcm : cm < w1.heap.size := hB1.cts.elim fun _ h => h.mlt
    have e9 : o' cn = 9 ∧ o' cm = 9 := ⟨(HE.out.1 cn lcn).trans oc9, (HE.out.1 cm lcm).trans od9⟩
    have X5 := hXk o' bk ad w2 w5 Q3.out (fun c hc h4 => (hC5.block c (Nat.lt_of_lt_of_le hc g4.size) (fun e => by rcases e with e | e <;> rw [e] at h4 <;> omega)).trans (Below.block g4 c hc))
    have C5 : Chg (fun b => 1 ≤ o b ∧ o b ≤ 9) w w5 := (C2.trans (Chg.of_below g4)).then hC5 (fun c hc e => by have := HO2.out c hc; rcases e with e | e <;> rw [e] at this ⊢ <;> omega)
    have HB5 := Lib.hid HB5
    have X5 := Lib.hid X5
    clear hX4 hO4 HB4 hC5 hct n9 oc9 od9 C2 Q3
    have s01 := b1.size
    have HB6 : Bal o' w5 b f sv sm pm hm cn cm r k 4 (hi + 1) T := HB5.out.re' (fun c hc => by
      have : c < w.heap.size := by
        rcases Nat.lt_or_ge c w.heap.size with q | q
        · exact q
        · have := HO1.out c q; omega
      exact HE.out.1 c (by omega))
    have HBF := Lib.hid (HB6.keep (w' := w5.setCells b4 0 #[.int .i64 0, .int .u32 0, .string ⟨#[]⟩, .int .i64 17].toList) (fun c _ h6 _ => heap_setMany (fun e => by have := O4.out; rw [e] at h6; omega) _ _))
    have XF := Lib.hid (hXk o' bk ad w5 (w5.setCells b4 0 #[.int .i64 0, .int .u32 0, .string ⟨#[]⟩, .int .i64 17].toList) X5.out (fun c _ h4 => heap_setMany (fun e => by have := O4.out; rw [e] at h4; omega) _ _))
    have hXF := hO5.setAll (ys := #[.int .i64 0, .int .u32 0, .string ⟨#[]⟩, .int .i64 17]) rfl
    have CF := Lib.hid (Chg.setManyIn bw4 #[.int .i64 0, .int .u32 0, .string ⟨#[]⟩, .int .i64 17].toList 0 C5)
    have HTH := Lib.hid (hO5.there (n := 4) (by decide))
    have p0 := (hX5.cell 0).trans rfl
    have p1 := (hX5.cell 1).trans rfl
    have p2 := (hX5.cell 2).trans rfl
    have p3 := (hX5.cell 3).trans rfl
    clear HB6 HB5 X5 C5 hO5 hX5
    go_wp2_with ((with_reducible refine is_put ?_); go_loud (refine wpList_store_mid rfl _ _ _ rfl b4 0 #[.int .i64 0, .int .u32 0, .string ⟨#[]⟩, .int .i64 17] rfl rfl HTH.out (by kernel_rfl) (by kernel_rfl) ?_; generalize w5.setCells b4 0 #[.int .i64 0, .int .u32 0, .string ⟨#[]⟩, .int .i64 17].toList = wF at hXF HBF XF CF ⊢))
    have u0 := (hXF.cell 0).trans rfl
    have u1 := (hXF.cell 1).trans rfl
    have u2 := (hXF.cell 2).trans rfl
    have u3 := (hXF.cell 3).trans rfl
    refine bodyPost_ret (v := .agg #[.int .i64 0, .int .u32 0, .string ⟨#[]⟩, .int .i64 17]) ?_ rfl ⟨o', bk, ad, HAD.out, EE.out, CF.out, HBF.out, .inr (.inl ⟨Q1.out, rfl, XF.out⟩)⟩
    simp [results, Tryz.f7, go_sem, u0, u1, u2, u3]
  · have Q1 := Lib.hid q1
    have Q3 := Lib.hid q3
    have HLL := Lib.hid hl'
    clear hl'
    clear q1 q3
    have hX3 := Has.new w2 #[.int .i64 2, .int .u32 (ad : Int), (.string (bs l')), .int .i64 0] 38
    have hO3 := hO2.alloc (.cells #[.int .i64 2, .int .u32 (ad : Int), (.string (bs l')), .int .i64 0] 38)
    have g3 : GG w2 (w2.alloc (.cells #[.int .i64 2, .int .u32 (ad : Int), (.string (bs l')), .int .i64 0] 38)) := (GG.refl _).alloc _
    clear hO2
    go_wp2_with fail
    obtain ⟨w3, hw⟩ : ∃ W, W = w2.alloc (.cells #[.int .i64 2, .int .u32 (ad : Int), (.string (bs l')), .int .i64 0] 38) := ⟨_, rfl⟩
    obtain ⟨b5, hb5⟩ : ∃ b, b = w2.heap.size := ⟨_, rfl⟩
    rw [← hw] at hX3 hO3 g3 ⊢
    rw [← hb5] at hX3 ⊢
    have LO5 := Lib.hid hb5
    clear hw hb5
    have HB3 := Lib.hid (HB2.out.below g3)
    have x15 : ∀ V : Gr w3, V.1.cell? ⟨b, 15, none⟩ = some (.pointer (some ⟨cn, 0, none⟩)) := fun V => ((V.has HB3.out.head).cell 15).trans rfl
    have y3 : ∀ V : Gr w3, V.1.cell? ⟨b5, 3, none⟩ = some (.int .i64 0) := fun V => ((V.has hX3).cell 3).trans rfl
    refine wp_region_grows_tail 6 (by kernel_rfl) (by kernel_rfl) ?_
    simp only [List.take_succ_cons, List.take_zero, List.drop_succ_cons, List.drop_zero]
    repeat (go_big_quiet_step (fail))
    refine wpQuiet_nil ?_
    rintro _ ⟨V, rfl⟩
    have g4 : GG w2 V.1 := g3.step V.2
    have hX4 := V.has hX3
    have hO4 := V.has hO3
    have HB4 := Lib.hid (HB3.out.below V.2)
    clear x15 y3 hX3 hO3 HB3 g3
    obtain ⟨w4, hw⟩ : ∃ W, W = V.1 := ⟨_, rfl⟩
    rw [← hw] at hX4 hO4 HB4 g4 ⊢
    clear hw V
    obtain ⟨fc, hct⟩ := HB4.out.cts
    have HC := Lib.hid (cadd_g cn cm hi fc 0 (by decide) (by omega) w4 hct)
    go_wp2_with fail
    refine HC.out.mono ?_
    clear HC hct
    rintro e w5 ⟨rfl, hct, hC5⟩
    have oc9 := HB4.out.oc
    have od9 := HB4.out.od
    have n9 : ∀ c, w.heap.size ≤ c → ¬ (c = cn ∨ c = cm) := fun c hc e => by
      have := HO1.out c hc
      rcases e with e | e <;> rw [e] at this <;> omega
    have hX5 : Has w5 b5 38 #[.int .i64 2, .int .u32 (ad : Int), (.string (bs l')), .int .i64 0] := hX4.chg hC5 (n9 b5 (by have := LO5.out; have := C2.size; omega))
    have hO5 : Has w5 b4 38 _ := hO4.chg hC5 (n9 b4 bw4)
    have HB5 := HB4.out.count hC5 hct
    have lcn : cn < w1.heap.size := hB1.cts.elim fun _ h => h.head.lt
    have lcm : cm < w1.heap.size := hB1.cts.elim fun _ h => h.mlt
    have e9 : o' cn = 9 ∧ o' cm = 9 := ⟨(HE.out.1 cn lcn).trans oc9, (HE.out.1 cm lcm).trans od9⟩
    have X5 := hYk o' bk ad w2 w5 Q3.out (fun c hc h4 => (hC5.block c (Nat.lt_of_lt_of_le hc g4.size) (fun e => by rcases e with e | e <;> rw [e] at h4 <;> omega)).trans (Below.block g4 c hc))
    have C5 : Chg (fun b => 1 ≤ o b ∧ o b ≤ 9) w w5 := (C2.trans (Chg.of_below g4)).then hC5 (fun c hc e => by have := HO2.out c hc; rcases e with e | e <;> rw [e] at this ⊢ <;> omega)
    have HB5 := Lib.hid HB5
    have X5 := Lib.hid X5
    clear hX4 hO4 HB4 hC5 hct n9 oc9 od9 C2 Q3
    have s01 := b1.size
    have HB6 : Bal o' w5 b f sv sm pm hm cn cm r k 4 (hi + 1) T := HB5.out.re' (fun c hc => by
      have : c < w.heap.size := by
        rcases Nat.lt_or_ge c w.heap.size with q | q
        · exact q
        · have := HO1.out c q; omega
      exact HE.out.1 c (by omega))
    have HBF := Lib.hid (HB6.keep (w' := w5.setCells b4 0 #[.int .i64 2, .int .u32 (ad : Int), (.string (bs l')), .int .i64 0].toList) (fun c _ h6 _ => heap_setMany (fun e => by have := O4.out; rw [e] at h6; omega) _ _))
    have XF := Lib.hid (hYk o' bk ad w5 (w5.setCells b4 0 #[.int .i64 2, .int .u32 (ad : Int), (.string (bs l')), .int .i64 0].toList) X5.out (fun c _ h4 => heap_setMany (fun e => by have := O4.out; rw [e] at h4; omega) _ _))
    have hXF := hO5.setAll (ys := #[.int .i64 2, .int .u32 (ad : Int), (.string (bs l')), .int .i64 0]) rfl
    have CF := Lib.hid (Chg.setManyIn bw4 #[.int .i64 2, .int .u32 (ad : Int), (.string (bs l')), .int .i64 0].toList 0 C5)
    have HTH := Lib.hid (hO5.there (n := 4) (by decide))
    have p0 := (hX5.cell 0).trans rfl
    have p1 := (hX5.cell 1).trans rfl
    have p2 := (hX5.cell 2).trans rfl
    have p3 := (hX5.cell 3).trans rfl
    clear HB6 HB5 X5 C5 hO5 hX5
    go_wp2_with ((with_reducible refine is_put ?_); go_loud (refine wpList_store_mid rfl _ _ _ rfl b4 0 #[.int .i64 2, .int .u32 (ad : Int), (.string (bs l')), .int .i64 0] rfl rfl HTH.out (by kernel_rfl) (by kernel_rfl) ?_; generalize w5.setCells b4 0 #[.int .i64 2, .int .u32 (ad : Int), (.string (bs l')), .int .i64 0].toList = wF at hXF HBF XF CF ⊢))
    have u0 := (hXF.cell 0).trans rfl
    have u1 := (hXF.cell 1).trans rfl
    have u2 := (hXF.cell 2).trans rfl
    have u3 := (hXF.cell 3).trans rfl
    refine bodyPost_ret (v := .agg #[.int .i64 2, .int .u32 (ad : Int), (.string (bs l')), .int .i64 0]) ?_ rfl ⟨o', bk, ad, HAD.out, EE.out, CF.out, HBF.out, .inr (.inr ⟨Q1.out, ⟨l', HLL.out, rfl⟩, XF.out⟩)⟩
    simp [results, Tryz.f7, go_sem, u0, u1, u2, u3]
end Go.Proofs.YtngdebpaheejlaaGreatDoor
