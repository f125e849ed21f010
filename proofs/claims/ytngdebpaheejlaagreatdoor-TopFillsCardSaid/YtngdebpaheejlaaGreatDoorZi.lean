/- A pool (chapter 13): leave, Drain. A pool (chapter 13): Choose. Maps keyed by structs, by the keys' values. The services (chapter 19): what stands in memory; New, Right, Get, Find. -/
import Derived.Test.YtngdebpaheejlaaGreatDoorPA
import Derived.Test.YtngdebpaheejlaaGreatDoorZe
import Derived.DeepKeys4
namespace Go.Proofs.YtngdebpaheejlaaGreatDoor
open Go.RowKit Go.Shelf
set_option linter.unusedSimpArgs false
set_option linter.unusedVariables false
attribute [local go_sem] Oper.semAt_some
theorem MapAt.drop {S : Nat → Prop} {w : World} {b N : Nat} {f : Nat → Option Value} (h : MapAt S w b N f) {T E : TypeId} (ht : Tryz.prog.underlying T = some (.map 3 E)) (x : Nat) (hx : x < 3) (f' : Nat → Option Value) (hf : ∀ y, y < 3 → f' y = if y = x then none else f y) (ty : TypeId) :
    ∃ w', (Builtin.delete_ #[T, 3] ty #[.map (some b), .int .i64 x]).run Tryz.prog w = .ok (.tuple #[]) w' ∧ MapAt S w' b N f' ∧ w.mapTurned w' b := by
  obtain ⟨s, n, M, h1, h2, h3⟩ := h
  obtain ⟨w', r1, r2, r3⟩ := h2.drop keyed3 ht (kl := .int .i64 x) (key3 x (by omega)) ty
  refine ⟨w', r1, ⟨s, _, _, ?_, r2, fun y hy => ?_⟩, r3⟩
  · split <;> omega
  · rw [hf y hy]
    by_cases e : y = x
    · subst e; rw [putM_same, if_pos rfl]
    · rw [putM_other _ _ (by simp; omega), if_neg e, h3 y hy]
theorem MapAt.upd {S : Nat → Prop} {w : World} {b N : Nat} {f : Nat → Option Value} (h : MapAt S w b N f) {T E : TypeId} (ht : Tryz.prog.underlying T = some (.map 3 E)) (x : Nat) (hx : x < 3) (val : Value) (f' : Nat → Option Value) (hf : ∀ y, y < 3 → f' y = if y = x then some val else f y) (hN : N < 1000) :
    ∃ w', (Instr.mapUpdate T (.map (some b)) (.int .i64 x) val).run Tryz.prog w = .ok () w' ∧ MapAt S w' b (N + 1) f' ∧ w.mapTurned w' b := by
  obtain ⟨s, n, M, h1, h2, h3⟩ := h
  obtain ⟨w', r1, r2, r3⟩ := h2.store keyed3 ht (by unfold maxLen; omega) (kl := .int .i64 x) (val := val) trivial (key3 x (by omega))
  refine ⟨w', r1, ⟨s, _, _, ?_, r2, fun y hy => ?_⟩, r3⟩
  · split <;> omega
  · rw [hf y hy]
    by_cases e : y = x
    · subst e; rw [putM_same, if_pos rfl]
    · rw [putM_other _ _ (by simp; omega), if_neg e, h3 y hy]
set_option maxRecDepth 100000 in
set_option maxHeartbeats 3200000 in
theorem pleave_t (S : Nat → Prop) (pb ab am om : Nat) (key : ByteArray) (w : World) (hS : ∀ b, S b → b < w.heap.size) (h : PoolS S w pb 2 key ab am om) :
    Calls Tryz.prog 40 #[.pointer (some ⟨pb, 0, none⟩), .agg #[.int .i64 2, .int .u32 52, .int .i64 8080, .int .i64 1, .int .i64 1]] w fun e w' => e = .returned (.tuple #[]) ∧
      Has w' pb 134 #[.string key, .int .i64 5, .pointer (some ⟨ab, 0, none⟩), .map (some am), .map (some om), .int .i64 1] ∧ Anc (fun b => (((S b ∧ b ≠ pb) ∧ b ≠ am) ∧ b ≠ om) ∨ w.heap.size ≤ b) w' ab 1 ∧ MapAt S w' am 2 (poolM 2) ∧ MapAt S w' om 2 (poolO 3) ∧ Chg S w w' := by
  have so := h.own
  have hne := h.ne
  have hH0 := h.head
  have hA0 := h.anc'
  have ha0 := h.all
  have ho0 := h.owner
  have hNS : ∀ b, w.heap.size ≤ b → ¬ S b := fun b hb hs => by have := hS b hs; omega
  have hH1 := hH0.alloc (.cells #[.int .i64 2, .int .u32 52, .int .i64 8080, .int .i64 1, .int .i64 1] 128)
  have hA1 := hA0.keepH (KeepM.alloc _ w (.cells #[.int .i64 2, .int .u32 52, .int .i64 8080, .int .i64 1, .int .i64 1] 128)).keep
  have ha1 := ha0.keep (KeepM.alloc _ w (.cells #[.int .i64 2, .int .u32 52, .int .i64 8080, .int .i64 1, .int .i64 1] 128))
  have ho1 := ho0.keep (KeepM.alloc _ w (.cells #[.int .i64 2, .int .u32 52, .int .i64 8080, .int .i64 1, .int .i64 1] 128))
  have hM1 := Has.new w #[.int .i64 2, .int .u32 52, .int .i64 8080, .int .i64 1, .int .i64 1] 128
  have hC1 := (Chg.refl S w).alloc (.cells #[.int .i64 2, .int .u32 52, .int .i64 8080, .int .i64 1, .int .i64 1] 128)
  have z1 : (w.alloc (.cells #[.int .i64 2, .int .u32 52, .int .i64 8080, .int .i64 1, .int .i64 1] 128)).heap.size = w.heap.size + 1 := by simp
  go_enter Tryz.func40, Tryz.ntmps40
  go_wp2_with fail
  obtain ⟨w1, hw⟩ : ∃ W, W = w.alloc (.cells #[.int .i64 2, .int .u32 52, .int .i64 8080, .int .i64 1, .int .i64 1] 128) := ⟨_, rfl⟩
  obtain ⟨bx, hbx⟩ : ∃ b, b = w.heap.size := ⟨_, rfl⟩
  rw [← hw] at hH1 hA1 ha1 ho1 hM1 hC1 z1 ⊢
  rw [← hbx] at hM1 z1 ⊢
  have HBX := Lib.hid hbx
  clear hw hbx h hH0 hA0 ha0 ho0
  obtain ⟨wD, rD, ho2, tD⟩ := (ho1.keep1 (w' := w1.drew) rfl).drop Tryz.underlying132 1 (by decide) (poolO 3) (three rfl rfl rfl) 0
  have rD : (Builtin.delete_ #[132, 3] 0 #[.map (some om), .int .i64 1]).run Tryz.prog w1.drew = .ok (.tuple #[]) wD := rD
  have K1 : Keep (fun _ => True) w1 w1.drew := fun _ _ _ _ h => h
  have K2 := K1.trans (Keep.turned tD)
  have KA : Hid (∀ W, Keep (fun _ => True) w1 W → W.cell? ⟨pb, 4, none⟩ = some (.map (some om)) ∧ W.cell? ⟨bx, 4, none⟩ = some (.int .i64 1)) := fun W k => ⟨((k _ _ _ trivial hH1).cell 4).trans rfl, ((k _ _ _ trivial hM1).cell 4).trans rfl⟩
  have P1 := Lib.hid K1
  have P2 := Lib.hid K2
  clear K1 K2
  go_region_held3 (fun W => W.cell? ⟨pb, 4, none⟩ = some (.map (some om)) ∧ W.cell? ⟨bx, 4, none⟩ = some (.int .i64 1)) (first | exact KA.out _ P1.out | exact KA.out _ P2.out) (fail)
  all_goals
    have hH2 := P2.out _ _ _ trivial hH1
    have hM2 := P2.out _ _ _ trivial hM1
    have hA2 := hA1.keepH (w' := wD) (fun b t xs _ h => P2.out b t xs trivial h)
    have ha2 := ha1.keep1 (w' := wD) (turned_block tD hne)
    have hC2 := (hC1.drew.trans (Chg.turned tD ho1.1))
    have z2 : wD.heap.size = bx + 1 := by rw [turned_size tD]; exact z1
    have hoD := ho2
    clear hH1 hM1 hA1 ha1 ho1 hC1 z1 KA P1 P2 rD tD ho2
    have c5 := hH2.cell 5
    simp [poolN] at c5
    go_wp2_with fail
    have KA : Hid (∀ W, Keep (fun b => b = pb ∨ b = bx) wD W → W.cell? ⟨pb, 2, none⟩ = some (.pointer (some ⟨ab, 0, none⟩)) ∧ W.cell? ⟨bx, 4, none⟩ = some (.int .i64 1)) := fun W k => ⟨((k _ _ _ (.inl rfl) hH2).cell 2).trans rfl, ((k _ _ _ (.inr rfl) hM2).cell 4).trans rfl⟩
    have nbx : ¬ S bx := hNS _ (by have := HBX.out; omega)
    have hA2' : Hid (Anc (fun b => ((S b ∧ b ≠ pb) ∧ b ≠ am) ∧ b ≠ om) wD.drew ab 2) := hA2.keepH (fun _ _ _ _ h => h)
    go_region_held3 (fun W => W.cell? ⟨pb, 2, none⟩ = some (.pointer (some ⟨ab, 0, none⟩)) ∧ W.cell? ⟨bx, 4, none⟩ = some (.int .i64 1))
      (first | exact KA.out _ (fun _ _ _ _ h => h) | exact KA.out _ (fun b t xs hs hb => Has.chg (w := wD.drew) hb hC3 (by rcases hs with rfl | rfl; exact fun h => h.1.1.2 rfl; exact fun h => nbx h.1.1.1)))
      (first | (go_at_call 73; refine (aremove_c _ ab _ hA2'.out).mono ?_; rintro e w3 ⟨rfl, hA3, hC3⟩))
    all_goals
      have hC3' : Chg (fun b => ((S b ∧ b ≠ pb) ∧ b ≠ am) ∧ b ≠ om) wD w3 := ⟨hC3.os, hC3.tape, hC3.output, hC3.size, hC3.block⟩
      have hH3 := hH2.chg hC3' (fun h => h.1.1.2 rfl)
      have ha3 := ha2.keep1 (hC3'.block am ha2.lt (fun h => h.1.2 rfl))
      have ho3 := hoD.keep1 (hC3'.block om hoD.lt (fun h => h.2 rfl))
      have hC4 := hC2.trans (hC3'.mono (fun b _ h => h.1.1.1))
      have c5' := hH3.cell 5
      have f5' := hH3.free 5
      simp [poolN] at c5'
      have HA3 := Lib.hid hA3
      have z2' := Lib.hid z2
      clear hA3 z2 c5 hC3
      go_wp2_with fail
      refine bodyPost_end (v := .tuple #[]) (by simp [results, Tryz.f40, go_sem]) rfl ⟨rfl, ?_, ?_, ha3.keep1 (Below.heap_setCell _ _ _ _ (ha3.ne hH3)), ho3.keep1 (Below.heap_setCell _ _ _ _ (ho3.ne hH3)), hC4.set so 5 _⟩
      · have := hH3.set 5 (.int .i64 1)
        simpa [poolN] using this
      · refine (HA3.out.keepH (w' := w3.setCell ⟨pb, 5, none⟩ (.int .i64 1)) (fun b t xs hs hb => hb.setOther 5 ?_ _)).mono (fun b h => ?_)
        · rintro rfl
          rcases hs with h | h
          · exact h.1.1.2 rfl
          · exact hNS _ (by have := HBX.out; have := z2'.out; have h' : wD.heap.size ≤ b := h; omega) so
        · rcases h with h | h
          · exact .inl h
          · exact .inr (by have := HBX.out; have := z2'.out; have h' : wD.heap.size ≤ b := h; omega)
set_option maxRecDepth 100000 in
set_option maxHeartbeats 3200000 in
theorem pdrain_t (S : Nat → Prop) (pb ab am om : Nat) (key : ByteArray) (w : World) (hS : ∀ b, S b → b < w.heap.size) (h : PoolS S w pb 2 key ab am om) :
    Calls Tryz.prog 21 #[.pointer (some ⟨pb, 0, none⟩), .int .i64 2] w fun e w' => e = .returned (.int .i64 0) ∧ PoolS (fun b => S b ∨ w.heap.size ≤ b) w' pb 3 key ab am om ∧ Chg S w w' := by
  have HLK : (Instr.lookup 131 (.map (some am)) (.int .i64 2) true).run Tryz.prog w = .ok (.tuple #[.agg #[.int .i64 2, .int .u32 52, .int .i64 8080, .int .i64 1, .int .i64 1], .bool true]) w := h.all.look128 2 (by decide) _ _ rfl rfl
  have HLV := Lib.hid (fun W hW => pleave_t S pb ab am om key W hW)
  have c3 := h.head.cell 3
  simp at c3
  have hP1 := h.keep (KeepM.alloc _ w (.cells #[.int .i64 2, .int .u32 52, .int .i64 8080, .int .i64 1, .int .i64 1] 128))
  have hM1 := Has.new w #[.int .i64 2, .int .u32 52, .int .i64 8080, .int .i64 1, .int .i64 1] 128
  have hC1 := (Chg.refl S w).alloc (.cells #[.int .i64 2, .int .u32 52, .int .i64 8080, .int .i64 1, .int .i64 1] 128)
  have hS1 : ∀ b, S b → b < (w.alloc (.cells #[.int .i64 2, .int .u32 52, .int .i64 8080, .int .i64 1, .int .i64 1] 128)).heap.size := fun b hb => by have := hS b hb; simp; omega
  have HS := Lib.hid hS
  clear h hS
  go_enter Tryz.func21, Tryz.ntmps21
  go_wp2_with fail
  obtain ⟨w1, hw⟩ : ∃ W, W = w.alloc (.cells #[.int .i64 2, .int .u32 52, .int .i64 8080, .int .i64 1, .int .i64 1] 128) := ⟨_, rfl⟩
  obtain ⟨bx, hbx⟩ : ∃ b, b = w.heap.size := ⟨_, rfl⟩
  have z1 : w1.heap.size = bx + 1 := by rw [hw, hbx]; simp
  try rw [← hw] at hP1 hM1 hC1 hS1 ⊢
  try rw [← hbx] at hM1 ⊢
  have HBX := Lib.hid hbx
  have Z1 := Lib.hid z1
  have hne := hP1.ne
  have so := hP1.own
  have nbx : ¬ S bx := fun hb => by have := HS.out bx hb; omega
  clear hw hbx z1 HLK c3
  refine (HLV.out w1 hS1 hP1).mono ?_
  rintro e w2 ⟨rfl, hH2, hA2, ha2, ho2, hC2⟩
  have hM2 := hM1.chg hC2 nbx
  have hC3 := hC1.trans hC2
  have z2 : bx + 1 ≤ w2.heap.size := by have := hC2.size; have := Z1.out; omega
  have m3 := hM2.cell 3
  have fm3 := hM2.free 3
  simp at m3
  clear hP1 hM1 hC1 HLV
  go_wp2_with fail
  have hM3 : Has (w2.setCell ⟨bx, 3, none⟩ (.int .i64 2)) bx 128 #[.int .i64 2, .int .u32 52, .int .i64 8080, .int .i64 2, .int .i64 1] := by have := hM2.set 3 (.int .i64 2); simpa using this
  have hH3 := hH2.setOther (c := bx) 3 (hH2.ne hM2 (by decide)) (.int .i64 2)
  have hA3 := hA2.keepH (w' := w2.setCell ⟨bx, 3, none⟩ (.int .i64 2)) (fun b t xs hs hb => hb.setOther 3 (fun e => by
    subst e
    rcases hs with h | h
    · exact nbx h.1.1.1
    · have := Z1.out; have h' : w1.heap.size ≤ b := h; omega) _)
  have ha3 := ha2.keep1 (Below.heap_setCell w2 ⟨bx, 3, none⟩ (.int .i64 2) _ (ha2.ne hM2))
  have ho3 := ho2.keep1 (Below.heap_setCell w2 ⟨bx, 3, none⟩ (.int .i64 2) _ (ho2.ne hM2))
  have hC4 := hC3.setIn (b := bx) (by have := HBX.out; omega) 3 (.int .i64 2)
  obtain ⟨w3, hw⟩ : ∃ W, W = w2.setCell ⟨bx, 3, none⟩ (.int .i64 2) := ⟨_, rfl⟩
  rw [← hw] at hM3 hH3 hA3 ha3 ho3 hC4 ⊢
  clear hw hM2 hH2 hA2 ha2 ho2 hC3 z2 m3 fm3 hC2
  obtain ⟨wU, rU, ha4, tU⟩ := (ha3.keep1 (w' := w3.drew) rfl).upd Tryz.underlying131 2 (by decide) (.agg #[.int .i64 2, .int .u32 52, .int .i64 8080, .int .i64 2, .int .i64 1]) (poolM 3) (three rfl rfl rfl) (by decide)
  have rU : (Instr.mapUpdate 131 (.map (some am)) (.int .i64 2) (.agg #[.int .i64 2, .int .u32 52, .int .i64 8080, .int .i64 2, .int .i64 1])).run Tryz.prog w3.drew = .ok () wU := rU
  have KA : Hid (∀ W, Keep (fun _ => True) w3 W → W.cell? ⟨pb, 3, none⟩ = some (.map (some am)) ∧ W.cell? ⟨bx, 0, none⟩ = some (.int .i64 2) ∧ W.cell? ⟨bx, 1, none⟩ = some (.int .u32 52) ∧ W.cell? ⟨bx, 2, none⟩ = some (.int .i64 8080) ∧ W.cell? ⟨bx, 3, none⟩ = some (.int .i64 2) ∧ W.cell? ⟨bx, 4, none⟩ = some (.int .i64 1)) := fun W k => by
    have q := k _ _ _ trivial hH3
    have m := k _ _ _ trivial hM3
    exact ⟨(q.cell 3).trans rfl, (m.cell 0).trans rfl, (m.cell 1).trans rfl, (m.cell 2).trans rfl, (m.cell 3).trans rfl, (m.cell 4).trans rfl⟩
  have K1 : Keep (fun _ => True) w3 w3.drew := fun _ _ _ _ h => h
  have P1 := Lib.hid K1
  have P2 := Lib.hid (K1.trans (Keep.turned tU))
  have FIN : Hid (PoolS (fun b => S b ∨ w.heap.size ≤ b) wU pb 3 key ab am om ∧ Chg S w wU) := by
    refine ⟨⟨.inl so, P2.out _ _ _ trivial hH3, (hA3.keepH (fun b t xs _ h => P2.out b t xs trivial h)).mono (fun b h => ?_), ha4.mono (fun b h => .inl h), ?_, hne⟩, hC4.drew.trans (Chg.turned tU ha3.1)⟩
    · rcases h with h | h
      · exact .inl h.1.1.1
      · exact .inr (by have := Z1.out; have := HBX.out; have h' : w1.heap.size ≤ b := h; omega)
    · obtain ⟨s, n, M, h1, h2, h3⟩ := ho3.keep1 (w' := wU) (turned_block tU hne.symm)
      exact ⟨.inl s, n, M, by omega, h2, h3⟩
  clear K1 tU ha4 hM3 hH3 hA3 ha3 ho3 hC4
  go_region_held3 (fun W => W.cell? ⟨pb, 3, none⟩ = some (.map (some am)) ∧ W.cell? ⟨bx, 0, none⟩ = some (.int .i64 2) ∧ W.cell? ⟨bx, 1, none⟩ = some (.int .u32 52) ∧ W.cell? ⟨bx, 2, none⟩ = some (.int .i64 8080) ∧ W.cell? ⟨bx, 3, none⟩ = some (.int .i64 2) ∧ W.cell? ⟨bx, 4, none⟩ = some (.int .i64 1)) (first | exact KA.out _ P1.out | exact KA.out _ P2.out) (fail)
  all_goals
    go_wp2_with fail
    go_ret
    exact ⟨rfl, FIN.out⟩
theorem pdrain_c (S : Nat → Prop) (pb ab am om : Nat) (key : ByteArray) (w : World) (h : PoolS S w pb 2 key ab am om) :
    Calls Tryz.prog 21 #[.pointer (some ⟨pb, 0, none⟩), .int .i64 2] w fun e w' => e = .returned (.int .i64 0) ∧ PoolS (fun b => S b ∨ w.heap.size ≤ b) w' pb 3 key ab am om ∧ Chg S w w' :=
  (pdrain_t _ pb ab am om key w (fun b h => h.2) h.cut).mono fun e w' ⟨he, hp, hc⟩ => ⟨he, hp.mono (fun b h => h.imp And.left id), hc.mono (fun b _ h => h.1)⟩
end Go.Proofs.YtngdebpaheejlaaGreatDoor
namespace Go.Proofs.YtngdebpaheejlaaGreatDoor
open Go.RowKit Go.Shelf
set_option linter.unusedSimpArgs false
set_option linter.unusedVariables false
set_option maxRecDepth 100000 in
set_option maxHeartbeats 3200000 in
theorem pchoose_c (S : Nat → Prop) (pb t ab am om : Nat) (ht : t = 2 ∨ t = 3) (kk : List Nat) (hkb : Byt kk) (hk16 : kk.length = 16) (p s d sp dp : Nat) (h1 : p < 256) (h2 : s < 4294967296) (h3 : d < 4294967296) (h4 : sp < 65536) (h5 : dp < 65536) (w : World) (h : PoolS S w pb t (bs kk) ab am om) :
    Calls Tryz.prog 85 #[.pointer (some ⟨pb, 0, none⟩), tupV p s d sp dp] w fun e w' => (∃ i a : Int, (i = 1 ∧ a = 51 ∨ (t = 2 ∧ i = 2 ∧ a = 52)) ∧ e = .returned (.tuple #[.agg #[.int .i64 i, .int .u32 a, .int .i64 8080], .bool true])) ∧ Below w.heap.size w w' := by
  have HK := Lib.hid (key_c p s d sp dp h1 h2 h3 h4 h5)
  have HH := Lib.hid (fun l hl hl13 => hash_c kk l hkb hl hk16 hl13)
  have hkl := keyL_len p s d sp dp
  have HKB := Lib.hid (keyL_byt p s d sp dp)
  obtain ⟨L, hL⟩ : ∃ L, keyL p s d sp dp 5 = L := ⟨_, rfl⟩
  rw [hL] at HK HKB hkl
  clear hL
  unfold tupV at *
  have hn : ¬ (poolN t : Int) = 0 := by rcases ht with rfl | rfl <;> decide
  have h0 := Lib.hid h
  have pl := h.head.lt
  clear h
  go_enter Tryz.func85, Tryz.ntmps85
  go_wp2_with fail
  refine (HK.out _).mono ?_
  rintro e w1 ⟨rfl, b1⟩
  have hR0 : Has ((w.alloc (.cells #[.int .i64 p, .int .u32 s, .int .u32 d, .int .i64 sp, .int .i64 dp] 97)).alloc (.cells #[.int .i64 0, .int .u32 0, .int .i64 0] 68)) (w.heap.size + 1) 68 #[.int .i64 0, .int .u32 0, .int .i64 0] := has_made (by simp)
  have hR1 := hR0.below b1
  have z1 : w.heap.size + 2 ≤ w1.heap.size := by have := b1.size; simp at this; omega
  have hP1 := ((h0.out.keep (KeepM.alloc _ w (.cells #[.int .i64 p, .int .u32 s, .int .u32 d, .int .i64 sp, .int .i64 dp] 97))).keep (KeepM.alloc _ _ (.cells #[.int .i64 0, .int .u32 0, .int .i64 0] 68))).keep (KeepM.below b1)
  have hb1 := (((Below.refl w.heap.size w).alloc (Nat.le_refl _) (.cells #[.int .i64 p, .int .u32 s, .int .u32 d, .int .i64 sp, .int .i64 dp] 97)).alloc (by simp) (.cells #[.int .i64 0, .int .u32 0, .int .i64 0] 68)).trans (b1.mono (by simp; omega))
  obtain ⟨rb, hrb⟩ : ∃ b, b = w.heap.size + 1 := ⟨_, rfl⟩
  rw [← hrb] at hR1 ⊢
  have HRB := Lib.hid hrb
  have Z1 := Lib.hid z1
  have HB1 := Lib.hid hb1
  clear b1 hR0 hrb z1 hb1
  have c5 := hP1.head.cell 5
  have c0 := hP1.head.cell 0
  simp at c5 c0
  go_wp2_with fail
  refine (HH.out L HKB.out hkl _).mono ?_
  rintro e w2 ⟨⟨x, rfl⟩, b2⟩
  have hR2 := hR1.below b2
  have hP2 := hP1.keep (KeepM.below b2)
  have HB2 := Lib.hid (HB1.out.trans (b2.mono HB1.out.size))
  have Z2 : Hid (w.heap.size + 2 ≤ w2.heap.size) := Nat.le_trans Z1.out b2.size
  clear hR1 hP1 HB1 Z1 b2 c5 c0
  go_wp2_with fail
  have hk12 : poolK t = 1 ∨ poolK t = 2 := by rcases ht with rfl | rfl <;> decide
  have HBK := Lib.hid (fun W hA => bucket_c S ab (poolK t) hk12 x W hA)
  have hz := bucketN_lt (poolK t) (by omega) x
  obtain ⟨z, hzz⟩ : ∃ z, bucketN (poolK t) x = z := ⟨_, rfl⟩
  rw [hzz] at hz HBK
  clear hzz
  obtain ⟨i, a, hia, ho, hm⟩ : ∃ i a : Int, (i = 1 ∧ a = 51 ∨ (t = 2 ∧ i = 2 ∧ a = 52)) ∧ poolO t z = some (.int .i64 i) ∧ ∃ n : Nat, i = n ∧ n < 3 ∧ ∃ st bk : Int, poolM t n = some (.agg #[.int .i64 i, .int .u32 a, .int .i64 8080, .int .i64 st, .int .i64 bk]) := by
    rcases ht with rfl | rfl
    · obtain rfl | rfl : z = 0 ∨ z = 1 := by simp [poolK] at hz; omega
      · exact ⟨1, 51, .inl ⟨rfl, rfl⟩, rfl, 1, rfl, by decide, _, _, rfl⟩
      · exact ⟨2, 52, .inr ⟨rfl, rfl, rfl⟩, rfl, 2, rfl, by decide, _, _, rfl⟩
    · obtain rfl : z = 0 := by simp [poolK] at hz; omega
      exact ⟨1, 51, .inl ⟨rfl, rfl⟩, rfl, 1, rfl, by decide, _, _, rfl⟩
  obtain ⟨n, rfl, hn3, st, bk, hm⟩ := hm
  have hz3 : z < 3 := by have : poolK t ≤ 2 := by rcases ht with rfl | rfl <;> decide
                         omega
  have KA : Hid (∀ W, Below w2.heap.size w2 W → W.cell? ⟨pb, 2, none⟩ = some (.pointer (some ⟨ab, 0, none⟩)) ∧ W.cell? ⟨pb, 3, none⟩ = some (.map (some am)) ∧ W.cell? ⟨pb, 4, none⟩ = some (.map (some om)) ∧ (Instr.lookup 132 (.map (some om)) (.int .i64 (z : Int)) false).run Tryz.prog W = .ok (.int .i64 (n : Int)) W ∧ (Instr.lookup 131 (.map (some am)) (.int .i64 (n : Int)) true).run Tryz.prog W = .ok (.tuple #[.agg #[.int .i64 (n : Int), .int .u32 a, .int .i64 8080, .int .i64 st, .int .i64 bk], .bool true]) W) := fun W hW => by
    have q := hP2.keep (KeepM.below hW)
    exact ⟨(q.head.cell 2).trans rfl, (q.head.cell 3).trans rfl, (q.head.cell 4).trans rfl, q.owner.look132 z hz3 _ (by rw [ho]; rfl), q.all.look128 n hn3 _ _ (by rw [hm]; rfl) (by rw [hm]; rfl)⟩
  have HA2 : Hid (∀ W, Below w2.heap.size w2 W → Anc S W ab (poolK t)) := fun W hW => (hP2.keep (KeepM.below hW)).anc
  clear hP2 HKB HK HH hkl
  have A0 : Below w2.heap.size w2 w2.drew := (Below.refl _ _).drew
  have A1 : ∀ o, Below w2.heap.size w2 (w2.drew.alloc o) := fun o => A0.alloc (Nat.le_refl _) o
  have A2 : ∀ W3, Below w2.drew.heap.size w2.drew W3 → Below w2.heap.size w2 W3 := fun W3 h => A0.trans h
  have A3 : ∀ W3 o, Below w2.drew.heap.size w2.drew W3 → Below w2.heap.size w2 (W3.alloc o) := fun W3 o h => (A2 W3 h).alloc h.size o
  have A4 : ∀ W3 o, Below (w2.drew.alloc o).heap.size (w2.drew.alloc o) W3 → Below w2.heap.size w2 W3 := fun W3 o h => (A1 o).trans (h.mono (by simp))
  go_region_held3 (fun W => W.cell? ⟨pb, 2, none⟩ = some (.pointer (some ⟨ab, 0, none⟩)) ∧ W.cell? ⟨pb, 3, none⟩ = some (.map (some am)) ∧ W.cell? ⟨pb, 4, none⟩ = some (.map (some om)) ∧ (Instr.lookup 132 (.map (some om)) (.int .i64 (z : Int)) false).run Tryz.prog W = .ok (.int .i64 (n : Int)) W ∧ (Instr.lookup 131 (.map (some am)) (.int .i64 (n : Int)) true).run Tryz.prog W = .ok (.tuple #[.agg #[.int .i64 (n : Int), .int .u32 a, .int .i64 8080, .int .i64 st, .int .i64 bk], .bool true]) W)
    (first | exact KA.out _ A0 | exact KA.out _ (A1 _) | exact KA.out _ (A2 _ hb3) | exact KA.out _ (A3 _ _ hb3) | exact KA.out _ (A4 _ _ hb3) | (refine KA.out _ ?_; exact (((((A4 _ _ hb3).setCell (Nat.le_refl _) _).setCell (Nat.le_refl _) _).setCell (Nat.le_refl _) _).setCell (Nat.le_refl _) _).setCell (Nat.le_refl _) _))
    (first | (go_at_call 136; refine (HBK.out _ (HA2.out _ A0)).mono ?_; rintro e w3 ⟨rfl, hb3⟩) | (go_at_call 136; refine (HBK.out _ (HA2.out _ (A1 (.cells #[.int .i64 0, .int .u32 0, .int .i64 0, .int .i64 0, .int .i64 0] 128)))).mono ?_; rintro e w3 ⟨rfl, hb3⟩; have hN := (show Has (w2.drew.alloc (.cells #[.int .i64 0, .int .u32 0, .int .i64 0, .int .i64 0, .int .i64 0] 128)) w2.heap.size 128 #[.int .i64 0, .int .u32 0, .int .i64 0, .int .i64 0, .int .i64 0] from has_made rfl).below hb3; have n0 := hN.cell 0; have fn0 := hN.free 0; have n1 := hN.cell 1; have fn1 := hN.free 1; have n2 := hN.cell 2; have fn2 := hN.free 2; have n3 := hN.cell 3; have fn3 := hN.free 3; have n4 := hN.cell 4; have fn4 := hN.free 4; simp at n0 n1 n2 n3 n4))
  all_goals
    first
      | (have hM4 := Has.new w3 #[.int .i64 (n : Int), .int .u32 a, .int .i64 8080, .int .i64 st, .int .i64 bk] 128
         have hB4 := A3 _ (.cells #[.int .i64 (n : Int), .int .u32 a, .int .i64 8080, .int .i64 st, .int .i64 bk] 128) hb3
         obtain ⟨w4, hw⟩ : ∃ W, W = w3.alloc (.cells #[.int .i64 (n : Int), .int .u32 a, .int .i64 8080, .int .i64 st, .int .i64 bk] 128) := ⟨_, rfl⟩
         obtain ⟨mb, hmb⟩ : ∃ b, b = w3.heap.size := ⟨_, rfl⟩
         rw [← hw] at hM4 hB4 ⊢
         rw [← hmb] at hM4 ⊢
         clear hw hmb)
      | (have hM4 := (((((hN).set 0 (.int .i64 (n : Int))).set 1 (.int .u32 a)).set 2 (.int .i64 8080)).set 3 (.int .i64 st)).set 4 (.int .i64 bk)
         have hB4 := ((((((A4 _ _ hb3)).setCell (p := ⟨w2.heap.size, 0, none⟩) (Nat.le_refl _) (.int .i64 (n : Int))).setCell (p := ⟨w2.heap.size, 1, none⟩) (Nat.le_refl _) (.int .u32 a)).setCell (p := ⟨w2.heap.size, 2, none⟩) (Nat.le_refl _) (.int .i64 8080)).setCell (p := ⟨w2.heap.size, 3, none⟩) (Nat.le_refl _) (.int .i64 st)).setCell (p := ⟨w2.heap.size, 4, none⟩) (Nat.le_refl _) (.int .i64 bk)
         simp only [List.setIfInBounds_toArray, List.set] at hM4
         obtain ⟨w4, hw⟩ : ∃ W, W = (((((w3).setCell ⟨w2.heap.size, 0, none⟩ (.int .i64 (n : Int))).setCell ⟨w2.heap.size, 1, none⟩ (.int .u32 a)).setCell ⟨w2.heap.size, 2, none⟩ (.int .i64 8080)).setCell ⟨w2.heap.size, 3, none⟩ (.int .i64 st)).setCell ⟨w2.heap.size, 4, none⟩ (.int .i64 bk) := ⟨_, rfl⟩
         obtain ⟨mb, hmb⟩ : ∃ b, b = w2.heap.size := ⟨_, rfl⟩
         rw [← hw] at hM4 hB4 ⊢
         rw [← hmb] at hM4 ⊢
         clear hw hmb n0 n1 n2 n3 n4 fn0 fn1 fn2 fn3 fn4 hN)
    have hR4 := hR2.below hB4
    have hne := hR4.ne hM4 (by decide)
    have m0 := hM4.cell 0
    have m1 := hM4.cell 1
    have m2 := hM4.cell 2
    have r0 := hR4.cell 0
    have r1 := hR4.cell 1
    have r2 := hR4.cell 2
    have g0 := hR4.free 0
    have g1 := hR4.free 1
    have g2 := hR4.free 2
    simp at m0 m1 m2 r0 r1 r2
    have HR4 := Lib.hid hR4
    have HB4 := Lib.hid hB4
    clear hR4 hB4 hM4 A0 A1 A2 A3 A4 hb3 HBK HA2 KA
    go_wp2_with fail
    have hR5 := ((HR4.out.set 0 (.int .i64 (n : Int))).set 1 (.int .u32 a)).set 2 (.int .i64 8080)
    simp only [List.setIfInBounds_toArray, List.set] at hR5
    have hrw : w.heap.size ≤ rb := by have := HRB.out; omega
    have hB5 := (((HB2.out.trans (HB4.out.mono HB2.out.size)).setCell (p := ⟨rb, 0, none⟩) hrw (.int .i64 (n : Int))).setCell (p := ⟨rb, 1, none⟩) hrw (.int .u32 a)).setCell (p := ⟨rb, 2, none⟩) hrw (.int .i64 8080)
    obtain ⟨w5, hw5⟩ : ∃ W, W = ((w4.setCell ⟨rb, 0, none⟩ (.int .i64 (n : Int))).setCell ⟨rb, 1, none⟩ (.int .u32 a)).setCell ⟨rb, 2, none⟩ (.int .i64 8080) := ⟨_, rfl⟩
    rw [← hw5] at hR5 hB5 ⊢
    have c0 := hR5.cell 0
    have c1 := hR5.cell 1
    have c2 := hR5.cell 2
    simp at c0 c1 c2
    refine bodyPost_ret (v := .tuple #[.agg #[.int .i64 (n : Int), .int .u32 a, .int .i64 8080], .bool true]) ?_ rfl ⟨⟨_, _, hia, rfl⟩, hB5⟩
    simp [results, Tryz.f85, go_sem, c0, c1, c2]
end Go.Proofs.YtngdebpaheejlaaGreatDoor
namespace Go.Proofs.YtngdebpaheejlaaGreatDoor
open Go.RowKit Go.Shelf
set_option linter.unusedSimpArgs false
set_option linter.unusedVariables false
/-- Block b is a map of n entries, one of S; at a key's value there is what g says. -/
def KMap (S : Nat → Prop) (w : World) (K : TypeId) (b n : Nat) (g : Value → Option Value) : Prop := S b ∧ ∃ M, GMap Tryz.prog w K b n M ∧ ∀ v l, keyOf Tryz.prog K v = some l → M l = g v
section
variable {S T : Nat → Prop} {w w' : World} {K E TT : TypeId} {b n : Nat} {g g' : Value → Option Value}
theorem KMap.keep1 (h : KMap S w K b n g) (e : w'.heap[b]? = w.heap[b]?) : KMap S w' K b n g := by
  obtain ⟨s, M, h1, h2⟩ := h
  exact ⟨s, M, h1.of_block e, h2⟩
theorem KMap.lt (h : KMap S w K b n g) : b < w.heap.size := by
  obtain ⟨s, M, h1, h2⟩ := h
  exact h1.lt
theorem KMap.keep (h : KMap S w K b n g) (hk : KeepM S w w') : KMap S w' K b n g := h.keep1 (hk b h.lt h.1)
theorem KMap.mono (h : KMap S w K b n g) (hS : ∀ b, S b → T b) : KMap T w K b n g := ⟨hS _ h.1, h.2⟩
theorem KMap.ne (h : KMap S w K b n g) {c : Nat} {t : TypeId} {xs : Array Value} (hc : Has w c t xs) : b ≠ c := by
  obtain ⟨s, M, h1, h2⟩ := h
  exact h1.neHas hc
theorem KMap.made (S : Nat → Prop) (w : World) (K : TypeId) (h : S w.heap.size) : KMap S (w.alloc (.map #[] 0)) K w.heap.size 0 (fun _ => none) := ⟨h, _, GMap.made Tryz.prog w K, fun _ _ _ => rfl⟩
theorem KMap.congr (h : KMap S w K b n g) (e : ∀ v l, keyOf Tryz.prog K v = some l → g' v = g v) : KMap S w K b n g' := by
  obtain ⟨s, M, h1, h2⟩ := h
  exact ⟨s, M, h1, fun v l hv => (h2 v l hv).trans (e v l hv).symm⟩
theorem KMap.look (h : KMap S w K b n g) (Kd : Maps.Keyed Tryz.prog K) (ht : Tryz.prog.underlying TT = some (.map K E)) {z : Value} (hz : ∀ w, (zeroValue E).run Tryz.prog w = .ok z w) (key : Value) (hkey : (keyOf Tryz.prog K key).isSome = true) (v : Value) (hv : (g key).getD z = v) :
    (Instr.lookup TT (.map (some b)) key false).run Tryz.prog w = .ok v w := by
  obtain ⟨s, M, h1, h2⟩ := h
  obtain ⟨l, hl⟩ := Option.isSome_iff_exists.1 hkey
  have := h1.look Kd ht hz hl
  rw [h2 key l hl, hv] at this
  exact this
theorem KMap.look_ok (h : KMap S w K b n g) (Kd : Maps.Keyed Tryz.prog K) (ht : Tryz.prog.underlying TT = some (.map K E)) {z : Value} (hz : ∀ w, (zeroValue E).run Tryz.prog w = .ok z w) (key : Value) (hkey : (keyOf Tryz.prog K key).isSome = true) (v : Value) (q : Bool) (hv : (g key).getD z = v) (hq : (g key).isSome = q) :
    (Instr.lookup TT (.map (some b)) key true).run Tryz.prog w = .ok (.tuple #[v, .bool q]) w := by
  obtain ⟨s, M, h1, h2⟩ := h
  obtain ⟨l, hl⟩ := Option.isSome_iff_exists.1 hkey
  have := h1.look_ok Kd ht hz hl
  rw [h2 key l hl, hv, hq] at this
  exact this
theorem KMap.len (h : KMap S w K b n g) (ht : Tryz.prog.underlying TT = some (.map K E)) (ty : TypeId) : (Builtin.len_ #[TT] ty #[.map (some b)]).run Tryz.prog w = .ok (.int .i64 n) w := by
  obtain ⟨s, M, h1, h2⟩ := h
  exact h1.len ht ty
theorem putM_key (Kd : Maps.Keyed Tryz.prog K) {M : Lit → Option Value} (h2 : ∀ v l, keyOf Tryz.prog K v = some l → M l = g v) {key : Value} {l : Lit} (hl : keyOf Tryz.prog K key = some l) (val : Option Value) (h1 : g' key = val) (h3 : ∀ v, v ≠ key → g' v = g v) : ∀ v k, keyOf Tryz.prog K v = some k → putM M l val k = g' v := fun v k hk => by
  by_cases e : k = l
  · subst e
    obtain rfl := Kd.inj hk hl
    rw [putM_same, h1]
  · rw [putM_other _ _ e, h2 v k hk, h3 v (fun h => e (by subst h; rw [hl] at hk; exact (Option.some.inj hk).symm))]
/-- A new entry laid in two steps. -/
theorem KMap.entry (h : KMap S w K b n g) (Kd : Maps.Keyed Tryz.prog K) (ht : Tryz.prog.underlying TT = some (.map K E)) {z : Value} (hz : ∀ w, (zeroValue E).run Tryz.prog w = .ok z w) (key : Value) (hkey : (keyOf Tryz.prog K key).isSome = true) (hno : g key = none) (hn : n < 1000) (val : Value) (h1 : g' key = some val) (h3 : ∀ v, v ≠ key → g' v = g v) :
    ∃ w1 st, (Instr.mapEntry TT (.map (some b)) key).run Tryz.prog w = .ok (.tuple #[z, .int .i64 st]) w1 ∧ w.mapTurned w1 b ∧
      ∀ W1 : World, W1.heap[b]? = w1.heap[b]? → ∃ W2, (Instr.entryStore TT (.map (some b)) (.int .i64 st) val).run Tryz.prog W1 = .ok () W2 ∧ KMap S W2 K b (n + 1) g' ∧ W1.mapTurned W2 b := by
  obtain ⟨s, M, r1, r2⟩ := h
  obtain ⟨l, hl⟩ := Option.isSome_iff_exists.1 hkey
  obtain ⟨w1, st, q1, q2, q3⟩ := r1.entry Kd ht hz (by unfold maxLen; omega) (Kd.key hl) hl ((r2 key l hl).trans hno) val
  refine ⟨w1, st, q1, q2, fun W1 e => ?_⟩
  obtain ⟨W2, p1, p2, p3⟩ := q3 W1 e
  exact ⟨W2, p1, ⟨s, _, p2, putM_key Kd r2 hl _ h1 h3⟩, p3⟩
/-- An entry set in one step. -/
theorem KMap.upd (h : KMap S w K b n g) (Kd : Maps.Keyed Tryz.prog K) (ht : Tryz.prog.underlying TT = some (.map K E)) (key : Value) (hkey : (keyOf Tryz.prog K key).isSome = true) (hn : n < 1000) (val : Value) (h1 : g' key = some val) (h3 : ∀ v, v ≠ key → g' v = g v) :
    ∃ w', (Instr.mapUpdate TT (.map (some b)) key val).run Tryz.prog w = .ok () w' ∧ KMap S w' K b (if (g key).isSome then n else n + 1) g' ∧ w.mapTurned w' b := by
  obtain ⟨s, M, r1, r2⟩ := h
  obtain ⟨l, hl⟩ := Option.isSome_iff_exists.1 hkey
  obtain ⟨w', q1, q2, q3⟩ := r1.store Kd ht (by unfold maxLen; omega) (Kd.key hl) hl (val := val)
  rw [r2 key l hl] at q2
  exact ⟨w', q1, ⟨s, _, q2, putM_key Kd r2 hl _ h1 h3⟩, q3⟩
theorem KMap.cut (h : KMap S w K b n g) : KMap (fun b => S b ∧ b < w.heap.size) w K b n g := ⟨⟨h.1, h.lt⟩, h.2⟩
end
theorem keyed193 : Maps.Keyed Tryz.prog 193 := Maps.Keyed.of_law (deep_law_laid (by kernel_rfl) (m := 3) (by decide) (of_decide_eq_true (by kernel_rfl)) (by kernel_rfl) (by kernel_rfl))
theorem keyed97 : Maps.Keyed Tryz.prog 97 := Maps.Keyed.of_law (deep_law_laid (by kernel_rfl) (m := 3) (by decide) (of_decide_eq_true (by kernel_rfl)) (by kernel_rfl) (by kernel_rfl))
end Go.Proofs.YtngdebpaheejlaaGreatDoor
namespace Go.Proofs.YtngdebpaheejlaaGreatDoor
open Go.RowKit Go.Shelf
set_option linter.unusedSimpArgs false
set_option linter.unusedVariables false
/-- The fields of the four services; of 0: none's. -/
def svcC : Nat → Nat → Value
  | 1, 0 => .int .i64 6
  | 1, 1 => .int .u32 100
  | 1, 2 => .int .i64 80
  | 1, 3 => .bool false
  | 1, 4 => .int .u32 200
  | 2, 0 => .int .i64 17
  | 2, 1 => .int .u32 100
  | 2, 2 => .int .i64 53
  | 2, 3 => .bool false
  | 2, 4 => .int .u32 200
  | 3, 0 => .int .i64 6
  | 3, 1 => .int .u32 101
  | 3, 2 => .int .i64 80
  | 3, 3 => .bool true
  | 3, 4 => .int .u32 0
  | 4, 0 => .int .i64 17
  | 4, 1 => .int .u32 102
  | 4, 2 => .int .i64 9
  | 4, 3 => .bool false
  | 4, 4 => .int .u32 201
  | _, 0 => .int .i64 0
  | _, 1 => .int .u32 0
  | _, 2 => .int .i64 0
  | _, 3 => .bool false
  | _, _ => .int .u32 0
def svcV (i : Nat) : Value := .agg #[svcC i 0, svcC i 1, svcC i 2, svcC i 3, svcC i 4]
def svcKey (i : Nat) : Value := .agg #[svcC i 0, svcC i 1, svcC i 2]
structure TblS (S : Nat → Prop) (w : World) (tb mb m : Nat) : Prop where
  own : S tb
  rows : ∃ cells, Has w tb 177 cells ∧ cells.size = 326 ∧ cells[325]? = some (.map (some mb)) ∧ ∀ id j, id ≤ 64 → j < 5 → cells[id * 5 + j]? = some (svcC (if id ≤ m then id else 0) j)
  ids : ∃ n g, KMap S w 193 mb n g ∧ n ≤ m ∧ ∀ i, 1 ≤ i → i ≤ 4 → g (svcKey i) = if i ≤ m then some (.int .i64 (i : Nat)) else none
theorem TblS.keep {S : Nat → Prop} {w w' : World} {tb mb m : Nat} (h : TblS S w tb mb m) (hk : KeepM S w w') : TblS S w' tb mb m := by
  obtain ⟨h1, ⟨cells, r1, r2⟩, ⟨n, g, k1, k2⟩⟩ := h
  exact ⟨h1, ⟨cells, (hk _ r1.lt h1).trans r1, r2⟩, ⟨n, g, k1.keep hk, k2⟩⟩
theorem TblS.mono {S T : Nat → Prop} {w : World} {tb mb m : Nat} (h : TblS S w tb mb m) (hS : ∀ b, S b → T b) : TblS T w tb mb m := by
  obtain ⟨h1, h2, ⟨n, g, k1, k2⟩⟩ := h
  exact ⟨hS _ h1, h2, ⟨n, g, k1.mono hS, k2⟩⟩
theorem TblS.cut {S : Nat → Prop} {w : World} {tb mb m : Nat} (h : TblS S w tb mb m) : TblS (fun b => S b ∧ b < w.heap.size) w tb mb m := by
  obtain ⟨h1, ⟨cells, r1, r2⟩, ⟨n, g, k1, k2⟩⟩ := h
  exact ⟨⟨h1, r1.lt⟩, ⟨cells, r1, r2⟩, ⟨n, g, k1.cut, k2⟩⟩
theorem zero177 : Tryz.zeroCells177.toList = (List.replicate 65 [svcC 0 0, svcC 0 1, svcC 0 2, svcC 0 3, svcC 0 4]).flatten ++ [.map none] := by kernel_rfl
theorem flat_get {α : Type} (L T : List α) (hL : L.length = 5) : ∀ n id j, id < n → j < 5 → ((List.replicate n L).flatten ++ T)[id * 5 + j]? = L[j]?
  | 0, id, j, h, _ => by omega
  | n + 1, id, j, h, hj => by
    rw [List.replicate_succ, List.flatten_cons, List.append_assoc]
    by_cases e : id = 0
    · subst e
      rw [List.getElem?_append_left (by omega)]
      simp
    · obtain ⟨k, rfl⟩ : ∃ k, id = k + 1 := ⟨id - 1, by omega⟩
      rw [List.getElem?_append_right (by omega), hL, show (k + 1) * 5 + j - 5 = k * 5 + j by omega]
      exact flat_get L T hL n k j (by omega) hj
theorem zero177_get (id j : Nat) (h : id ≤ 64) (hj : j < 5) : Tryz.zeroCells177[id * 5 + j]? = some (svcC 0 j) := by
  rw [← Array.getElem?_toList, zero177, flat_get _ _ rfl 65 id j (by omega) hj]
  obtain rfl | rfl | rfl | rfl | rfl : j = 0 ∨ j = 1 ∨ j = 2 ∨ j = 3 ∨ j = 4 := by omega
  all_goals rfl
theorem zero177_size : Tryz.zeroCells177.size = 326 := by kernel_rfl
set_option maxRecDepth 100000 in
set_option maxHeartbeats 1600000 in
theorem snew_c (w : World) : Calls Tryz.prog 30 #[] w fun e w' => ∃ tb mb, e = .returned (.pointer (some ⟨tb, 0, none⟩)) ∧ TblS (fun b => w.heap.size ≤ b) w' tb mb 0 ∧ Below w.heap.size w w' := by
  have hmm := @run_makeMap Tryz.prog
  go_enter Tryz.func30, Tryz.ntmps30
  go_wp2_with fail
  go_ret
  have hb := ((Below.refl w.heap.size w).alloc (Nat.le_refl _) (.map #[] 0)).alloc (by simp) (.cells (Tryz.zeroCells177.setIfInBounds 325 (.map (some w.heap.size))) 177)
  refine ⟨w.heap.size + 1, w.heap.size, rfl, ⟨by omega, ⟨_, has_made (by simp), by simp [zero177_size], by simp [zero177_size], fun id j hi hj => ?_⟩, 0, _, (KMap.made _ w 193 (Nat.le_refl _)).keep1 (Below.heap_alloc _ _ _ (by simp)), Nat.le_refl _, fun i h1 h4 => by rw [if_neg (by omega)]⟩, hb⟩
  rw [Array.getElem?_setIfInBounds_ne (by omega), zero177_get id j hi hj]
  congr 1
  split
  · obtain rfl : id = 0 := by omega
    rfl
  · rfl
set_option maxRecDepth 100000 in
theorem sright1_c (w : World) : Calls Tryz.prog 64 #[.agg #[.int .i64 6, .int .u32 100, .int .i64 80, .bool false, .int .u32 200]] w fun e w' => e = .returned (.bool true) ∧ Below w.heap.size w w' := by
  go_enter Tryz.func64, Tryz.ntmps64
  go_wp2_with fail
  go_ret
  exact ⟨rfl, (Below.refl _ _).alloc (Nat.le_refl _) _⟩
set_option maxRecDepth 100000 in
theorem sright2_c (w : World) : Calls Tryz.prog 64 #[.agg #[.int .i64 17, .int .u32 100, .int .i64 53, .bool false, .int .u32 200]] w fun e w' => e = .returned (.bool true) ∧ Below w.heap.size w w' := by
  go_enter Tryz.func64, Tryz.ntmps64
  go_wp2_with fail
  go_ret
  exact ⟨rfl, (Below.refl _ _).alloc (Nat.le_refl _) _⟩
set_option maxRecDepth 100000 in
theorem sright3_c (w : World) : Calls Tryz.prog 64 #[.agg #[.int .i64 6, .int .u32 101, .int .i64 80, .bool true, .int .u32 0]] w fun e w' => e = .returned (.bool true) ∧ Below w.heap.size w w' := by
  go_enter Tryz.func64, Tryz.ntmps64
  go_wp2_with fail
  go_ret
  exact ⟨rfl, (Below.refl _ _).alloc (Nat.le_refl _) _⟩
set_option maxRecDepth 100000 in
theorem sright4_c (w : World) : Calls Tryz.prog 64 #[.agg #[.int .i64 17, .int .u32 102, .int .i64 9, .bool false, .int .u32 201]] w fun e w' => e = .returned (.bool true) ∧ Below w.heap.size w w' := by
  go_enter Tryz.func64, Tryz.ntmps64
  go_wp2_with fail
  go_ret
  exact ⟨rfl, (Below.refl _ _).alloc (Nat.le_refl _) _⟩
theorem zero63 (w : World) : (zeroValue 63).run Tryz.prog w = .ok (.agg #[.int .i64 0, .int .u32 0, .int .i64 0, .bool false, .int .u32 0]) w := by kernel_rfl
set_option maxRecDepth 100000 in
set_option maxHeartbeats 1600000 in
theorem sget_no (S : Nat → Prop) (tb mb m id : Nat) (h1 : m < id) (h2 : id ≤ 64) (w : World) (h : TblS S w tb mb m) :
    Calls Tryz.prog 86 #[.pointer (some ⟨tb, 0, none⟩), .int .i64 id] w fun e w' => e = .returned (.tuple #[.agg #[.int .i64 0, .int .u32 0, .int .i64 0, .bool false, .int .u32 0], .bool false]) ∧ Below w.heap.size w w' := by
  obtain ⟨so, ⟨cells, hT, hs, hm, hc⟩, _⟩ := h
  have tl := hT.lt
  have l0 : w.cell? ⟨tb, id * 5, none⟩ = some (.int .i64 0) := (hT.cell (id * 5)).trans ((hc id 0 h2 (by decide)).trans (by rw [if_neg (by omega)]; rfl))
  have hi1 : ¬ (id : Int) < 1 := by omega
  have hi2 : ¬ (64 : Int) < (id : Int) := by omega
  go_enter Tryz.func86, Tryz.ntmps86
  go_wp2_with fail
  refine bodyPost_ret (v := .tuple #[.agg #[.int .i64 0, .int .u32 0, .int .i64 0, .bool false, .int .u32 0], .bool false]) ?_ rfl ⟨rfl, (Below.refl _ _).alloc (Nat.le_refl _) _⟩
  simp [results, Tryz.f86, go_sem]
set_option maxRecDepth 100000 in
set_option maxHeartbeats 1600000 in
theorem sget1_c (S : Nat → Prop) (tb mb m : Nat) (h1 : 1 ≤ m) (w : World) (h : TblS S w tb mb m) :
    Calls Tryz.prog 86 #[.pointer (some ⟨tb, 0, none⟩), .int .i64 1] w fun e w' => e = .returned (.tuple #[.agg #[.int .i64 6, .int .u32 100, .int .i64 80, .bool false, .int .u32 200], .bool true]) ∧ Below w.heap.size w w' := by
  obtain ⟨so, ⟨cells, hT, hs, hm, hc⟩, _⟩ := h
  have tl := hT.lt
  have l0 : w.cell? ⟨tb, 5, none⟩ = some (.int .i64 6) := (hT.cell 5).trans ((hc 1 0 (by decide) (by decide)).trans (by rw [if_pos h1]; rfl))
  have l1 : w.cell? ⟨tb, 6, none⟩ = some (.int .u32 100) := (hT.cell 6).trans ((hc 1 1 (by decide) (by decide)).trans (by rw [if_pos h1]; rfl))
  have l2 : w.cell? ⟨tb, 7, none⟩ = some (.int .i64 80) := (hT.cell 7).trans ((hc 1 2 (by decide) (by decide)).trans (by rw [if_pos h1]; rfl))
  have l3 : w.cell? ⟨tb, 8, none⟩ = some (.bool false) := (hT.cell 8).trans ((hc 1 3 (by decide) (by decide)).trans (by rw [if_pos h1]; rfl))
  have l4 : w.cell? ⟨tb, 9, none⟩ = some (.int .u32 200) := (hT.cell 9).trans ((hc 1 4 (by decide) (by decide)).trans (by rw [if_pos h1]; rfl))
  go_enter Tryz.func86, Tryz.ntmps86
  go_wp2_with fail
  refine bodyPost_ret (v := .tuple #[.agg #[.int .i64 6, .int .u32 100, .int .i64 80, .bool false, .int .u32 200], .bool true]) ?_ rfl ⟨rfl, ?_⟩
  · simp [results, Tryz.f86, go_sem]
  · exact (Below.refl _ _).alloc (Nat.le_refl _) _
theorem keyOf1 : (keyOf Tryz.prog 193 (svcKey 1)).isSome = true := by kernel_rfl
set_option maxRecDepth 100000 in
theorem sfind1_c (S : Nat → Prop) (tb mb m : Nat) (h1 : 1 ≤ m) (w : World) (h : TblS S w tb mb m) :
    Calls Tryz.prog 84 #[.pointer (some ⟨tb, 0, none⟩), .int .i64 6, .int .u32 100, .int .i64 80] w fun e w' => e = .returned (.tuple #[.int .i64 1, .bool true]) ∧ w = w' := by
  obtain ⟨so, ⟨cells, hT, hs, hm, hc⟩, ⟨n, g, hk, hn, hg⟩⟩ := h
  have lm : w.cell? ⟨tb, 325, none⟩ = some (.map (some mb)) := (hT.cell 325).trans hm
  have HL : (Instr.lookup 174 (.map (some mb)) (.agg #[.int .i64 6, .int .u32 100, .int .i64 80]) true).run Tryz.prog w = .ok (.tuple #[.int .i64 1, .bool true]) w := hk.look_ok keyed193 Tryz.underlying174 zero3w (svcKey 1) keyOf1 _ _ (by rw [hg 1 (by decide) (by decide), if_pos h1]; rfl) (by rw [hg 1 (by decide) (by decide), if_pos h1]; rfl)
  clear hk hT
  go_enter Tryz.func84, Tryz.ntmps84
  go_wp2_with fail
  go_ret2
  exact ⟨rfl, rfl⟩
set_option maxRecDepth 100000 in
set_option maxHeartbeats 1600000 in
theorem sget2_c (S : Nat → Prop) (tb mb m : Nat) (h1 : 2 ≤ m) (w : World) (h : TblS S w tb mb m) :
    Calls Tryz.prog 86 #[.pointer (some ⟨tb, 0, none⟩), .int .i64 2] w fun e w' => e = .returned (.tuple #[.agg #[.int .i64 17, .int .u32 100, .int .i64 53, .bool false, .int .u32 200], .bool true]) ∧ Below w.heap.size w w' := by
  obtain ⟨so, ⟨cells, hT, hs, hm, hc⟩, _⟩ := h
  have tl := hT.lt
  have l0 : w.cell? ⟨tb, 10, none⟩ = some (.int .i64 17) := (hT.cell 10).trans ((hc 2 0 (by decide) (by decide)).trans (by rw [if_pos h1]; rfl))
  have l1 : w.cell? ⟨tb, 11, none⟩ = some (.int .u32 100) := (hT.cell 11).trans ((hc 2 1 (by decide) (by decide)).trans (by rw [if_pos h1]; rfl))
  have l2 : w.cell? ⟨tb, 12, none⟩ = some (.int .i64 53) := (hT.cell 12).trans ((hc 2 2 (by decide) (by decide)).trans (by rw [if_pos h1]; rfl))
  have l3 : w.cell? ⟨tb, 13, none⟩ = some (.bool false) := (hT.cell 13).trans ((hc 2 3 (by decide) (by decide)).trans (by rw [if_pos h1]; rfl))
  have l4 : w.cell? ⟨tb, 14, none⟩ = some (.int .u32 200) := (hT.cell 14).trans ((hc 2 4 (by decide) (by decide)).trans (by rw [if_pos h1]; rfl))
  go_enter Tryz.func86, Tryz.ntmps86
  go_wp2_with fail
  refine bodyPost_ret (v := .tuple #[.agg #[.int .i64 17, .int .u32 100, .int .i64 53, .bool false, .int .u32 200], .bool true]) ?_ rfl ⟨rfl, ?_⟩
  · simp [results, Tryz.f86, go_sem]
  · exact (Below.refl _ _).alloc (Nat.le_refl _) _
theorem keyOf2 : (keyOf Tryz.prog 193 (svcKey 2)).isSome = true := by kernel_rfl
set_option maxRecDepth 100000 in
theorem sfind2_c (S : Nat → Prop) (tb mb m : Nat) (h1 : 2 ≤ m) (w : World) (h : TblS S w tb mb m) :
    Calls Tryz.prog 84 #[.pointer (some ⟨tb, 0, none⟩), .int .i64 17, .int .u32 100, .int .i64 53] w fun e w' => e = .returned (.tuple #[.int .i64 2, .bool true]) ∧ w = w' := by
  obtain ⟨so, ⟨cells, hT, hs, hm, hc⟩, ⟨n, g, hk, hn, hg⟩⟩ := h
  have lm : w.cell? ⟨tb, 325, none⟩ = some (.map (some mb)) := (hT.cell 325).trans hm
  have HL : (Instr.lookup 174 (.map (some mb)) (.agg #[.int .i64 17, .int .u32 100, .int .i64 53]) true).run Tryz.prog w = .ok (.tuple #[.int .i64 2, .bool true]) w := hk.look_ok keyed193 Tryz.underlying174 zero3w (svcKey 2) keyOf2 _ _ (by rw [hg 2 (by decide) (by decide), if_pos h1]; rfl) (by rw [hg 2 (by decide) (by decide), if_pos h1]; rfl)
  clear hk hT
  go_enter Tryz.func84, Tryz.ntmps84
  go_wp2_with fail
  go_ret2
  exact ⟨rfl, rfl⟩
set_option maxRecDepth 100000 in
set_option maxHeartbeats 1600000 in
theorem sget3_c (S : Nat → Prop) (tb mb m : Nat) (h1 : 3 ≤ m) (w : World) (h : TblS S w tb mb m) :
    Calls Tryz.prog 86 #[.pointer (some ⟨tb, 0, none⟩), .int .i64 3] w fun e w' => e = .returned (.tuple #[.agg #[.int .i64 6, .int .u32 101, .int .i64 80, .bool true, .int .u32 0], .bool true]) ∧ Below w.heap.size w w' := by
  obtain ⟨so, ⟨cells, hT, hs, hm, hc⟩, _⟩ := h
  have tl := hT.lt
  have l0 : w.cell? ⟨tb, 15, none⟩ = some (.int .i64 6) := (hT.cell 15).trans ((hc 3 0 (by decide) (by decide)).trans (by rw [if_pos h1]; rfl))
  have l1 : w.cell? ⟨tb, 16, none⟩ = some (.int .u32 101) := (hT.cell 16).trans ((hc 3 1 (by decide) (by decide)).trans (by rw [if_pos h1]; rfl))
  have l2 : w.cell? ⟨tb, 17, none⟩ = some (.int .i64 80) := (hT.cell 17).trans ((hc 3 2 (by decide) (by decide)).trans (by rw [if_pos h1]; rfl))
  have l3 : w.cell? ⟨tb, 18, none⟩ = some (.bool true) := (hT.cell 18).trans ((hc 3 3 (by decide) (by decide)).trans (by rw [if_pos h1]; rfl))
  have l4 : w.cell? ⟨tb, 19, none⟩ = some (.int .u32 0) := (hT.cell 19).trans ((hc 3 4 (by decide) (by decide)).trans (by rw [if_pos h1]; rfl))
  go_enter Tryz.func86, Tryz.ntmps86
  go_wp2_with fail
  refine bodyPost_ret (v := .tuple #[.agg #[.int .i64 6, .int .u32 101, .int .i64 80, .bool true, .int .u32 0], .bool true]) ?_ rfl ⟨rfl, ?_⟩
  · simp [results, Tryz.f86, go_sem]
  · exact (Below.refl _ _).alloc (Nat.le_refl _) _
theorem keyOf3 : (keyOf Tryz.prog 193 (svcKey 3)).isSome = true := by kernel_rfl
set_option maxRecDepth 100000 in
theorem sfind3_c (S : Nat → Prop) (tb mb m : Nat) (h1 : 3 ≤ m) (w : World) (h : TblS S w tb mb m) :
    Calls Tryz.prog 84 #[.pointer (some ⟨tb, 0, none⟩), .int .i64 6, .int .u32 101, .int .i64 80] w fun e w' => e = .returned (.tuple #[.int .i64 3, .bool true]) ∧ w = w' := by
  obtain ⟨so, ⟨cells, hT, hs, hm, hc⟩, ⟨n, g, hk, hn, hg⟩⟩ := h
  have lm : w.cell? ⟨tb, 325, none⟩ = some (.map (some mb)) := (hT.cell 325).trans hm
  have HL : (Instr.lookup 174 (.map (some mb)) (.agg #[.int .i64 6, .int .u32 101, .int .i64 80]) true).run Tryz.prog w = .ok (.tuple #[.int .i64 3, .bool true]) w := hk.look_ok keyed193 Tryz.underlying174 zero3w (svcKey 3) keyOf3 _ _ (by rw [hg 3 (by decide) (by decide), if_pos h1]; rfl) (by rw [hg 3 (by decide) (by decide), if_pos h1]; rfl)
  clear hk hT
  go_enter Tryz.func84, Tryz.ntmps84
  go_wp2_with fail
  go_ret2
  exact ⟨rfl, rfl⟩
set_option maxRecDepth 100000 in
set_option maxHeartbeats 1600000 in
theorem sget4_c (S : Nat → Prop) (tb mb m : Nat) (h1 : 4 ≤ m) (w : World) (h : TblS S w tb mb m) :
    Calls Tryz.prog 86 #[.pointer (some ⟨tb, 0, none⟩), .int .i64 4] w fun e w' => e = .returned (.tuple #[.agg #[.int .i64 17, .int .u32 102, .int .i64 9, .bool false, .int .u32 201], .bool true]) ∧ Below w.heap.size w w' := by
  obtain ⟨so, ⟨cells, hT, hs, hm, hc⟩, _⟩ := h
  have tl := hT.lt
  have l0 : w.cell? ⟨tb, 20, none⟩ = some (.int .i64 17) := (hT.cell 20).trans ((hc 4 0 (by decide) (by decide)).trans (by rw [if_pos h1]; rfl))
  have l1 : w.cell? ⟨tb, 21, none⟩ = some (.int .u32 102) := (hT.cell 21).trans ((hc 4 1 (by decide) (by decide)).trans (by rw [if_pos h1]; rfl))
  have l2 : w.cell? ⟨tb, 22, none⟩ = some (.int .i64 9) := (hT.cell 22).trans ((hc 4 2 (by decide) (by decide)).trans (by rw [if_pos h1]; rfl))
  have l3 : w.cell? ⟨tb, 23, none⟩ = some (.bool false) := (hT.cell 23).trans ((hc 4 3 (by decide) (by decide)).trans (by rw [if_pos h1]; rfl))
  have l4 : w.cell? ⟨tb, 24, none⟩ = some (.int .u32 201) := (hT.cell 24).trans ((hc 4 4 (by decide) (by decide)).trans (by rw [if_pos h1]; rfl))
  go_enter Tryz.func86, Tryz.ntmps86
  go_wp2_with fail
  refine bodyPost_ret (v := .tuple #[.agg #[.int .i64 17, .int .u32 102, .int .i64 9, .bool false, .int .u32 201], .bool true]) ?_ rfl ⟨rfl, ?_⟩
  · simp [results, Tryz.f86, go_sem]
  · exact (Below.refl _ _).alloc (Nat.le_refl _) _
theorem keyOf4 : (keyOf Tryz.prog 193 (svcKey 4)).isSome = true := by kernel_rfl
set_option maxRecDepth 100000 in
theorem sfind4_c (S : Nat → Prop) (tb mb m : Nat) (h1 : 4 ≤ m) (w : World) (h : TblS S w tb mb m) :
    Calls Tryz.prog 84 #[.pointer (some ⟨tb, 0, none⟩), .int .i64 17, .int .u32 102, .int .i64 9] w fun e w' => e = .returned (.tuple #[.int .i64 4, .bool true]) ∧ w = w' := by
  obtain ⟨so, ⟨cells, hT, hs, hm, hc⟩, ⟨n, g, hk, hn, hg⟩⟩ := h
  have lm : w.cell? ⟨tb, 325, none⟩ = some (.map (some mb)) := (hT.cell 325).trans hm
  have HL : (Instr.lookup 174 (.map (some mb)) (.agg #[.int .i64 17, .int .u32 102, .int .i64 9]) true).run Tryz.prog w = .ok (.tuple #[.int .i64 4, .bool true]) w := hk.look_ok keyed193 Tryz.underlying174 zero3w (svcKey 4) keyOf4 _ _ (by rw [hg 4 (by decide) (by decide), if_pos h1]; rfl) (by rw [hg 4 (by decide) (by decide), if_pos h1]; rfl)
  clear hk hT
  go_enter Tryz.func84, Tryz.ntmps84
  go_wp2_with fail
  go_ret2
  exact ⟨rfl, rfl⟩
end Go.Proofs.YtngdebpaheejlaaGreatDoor
