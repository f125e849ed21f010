/- Counts (chapter 22): New, Add. Printed by genCN.py out of chapter 22's own texts. Times of states (chapter 18): all, Of, Right; the document's Fits. Printed by genFS.py out of chapter 18's own texts. Steps of states (chapter 18): how a session and a connection begin. -/
import Derived.Test.YtngdebpaheejlaaGreatDoorPA
import Derived.Deep.WholeRow
namespace Go.Proofs.YtngdebpaheejlaaGreatDoor
open Go.RowKit
set_option linter.unusedSimpArgs false
set_option linter.unusedVariables false
def rwords : List ByteArray := [⟨#[111, 107]⟩, ⟨#[97, 114, 103, 117, 109, 101, 110, 116]⟩, ⟨#[115, 104, 111, 114, 116]⟩, ⟨#[118, 101, 114, 115, 105, 111, 110]⟩, ⟨#[104, 101, 97, 100, 101, 114]⟩, ⟨#[108, 101, 110, 103, 116, 104]⟩, ⟨#[111, 112, 116, 105, 111, 110]⟩, ⟨#[115, 117, 109]⟩, ⟨#[102, 114, 97, 103, 109, 101, 110, 116]⟩, ⟨#[112, 114, 111, 116, 111, 99, 111, 108]⟩, ⟨#[116, 121, 112, 101]⟩, ⟨#[116, 116, 108]⟩, ⟨#[115, 101, 114, 118, 105, 99, 101]⟩, ⟨#[98, 97, 99, 107, 101, 110, 100]⟩, ⟨#[102, 108, 111, 119]⟩, ⟨#[115, 116, 97, 116, 101]⟩, ⟨#[102, 117, 108, 108]⟩, ⟨#[112, 111, 114, 116, 115]⟩, ⟨#[108, 111, 110, 103]⟩, ⟨#[110, 111, 110, 101]⟩, ⟨#[101, 120, 105, 115, 116, 115]⟩, ⟨#[102, 111, 114, 109]⟩]
def rwordsV : Array Value := #[.string ⟨#[111, 107]⟩, .string ⟨#[97, 114, 103, 117, 109, 101, 110, 116]⟩, .string ⟨#[115, 104, 111, 114, 116]⟩, .string ⟨#[118, 101, 114, 115, 105, 111, 110]⟩, .string ⟨#[104, 101, 97, 100, 101, 114]⟩, .string ⟨#[108, 101, 110, 103, 116, 104]⟩, .string ⟨#[111, 112, 116, 105, 111, 110]⟩, .string ⟨#[115, 117, 109]⟩, .string ⟨#[102, 114, 97, 103, 109, 101, 110, 116]⟩, .string ⟨#[112, 114, 111, 116, 111, 99, 111, 108]⟩, .string ⟨#[116, 121, 112, 101]⟩, .string ⟨#[116, 116, 108]⟩, .string ⟨#[115, 101, 114, 118, 105, 99, 101]⟩, .string ⟨#[98, 97, 99, 107, 101, 110, 100]⟩, .string ⟨#[102, 108, 111, 119]⟩, .string ⟨#[115, 116, 97, 116, 101]⟩, .string ⟨#[102, 117, 108, 108]⟩, .string ⟨#[112, 111, 114, 116, 115]⟩, .string ⟨#[108, 111, 110, 103]⟩, .string ⟨#[110, 111, 110, 101]⟩, .string ⟨#[101, 120, 105, 115, 116, 115]⟩, .string ⟨#[102, 111, 114, 109]⟩]
theorem rwords_len : rwords.length = 22 := rfl
theorem rall22 : ∀ k : Fin 22, rwordsV[k.val]? = some (.string (rwords.getD k.val ⟨#[]⟩)) := by
  intro ⟨k, h⟩
  match k, h with
  | 0, _ => rfl
  | 1, _ => rfl
  | 2, _ => rfl
  | 3, _ => rfl
  | 4, _ => rfl
  | 5, _ => rfl
  | 6, _ => rfl
  | 7, _ => rfl
  | 8, _ => rfl
  | 9, _ => rfl
  | 10, _ => rfl
  | 11, _ => rfl
  | 12, _ => rfl
  | 13, _ => rfl
  | 14, _ => rfl
  | 15, _ => rfl
  | 16, _ => rfl
  | 17, _ => rfl
  | 18, _ => rfl
  | 19, _ => rfl
  | 20, _ => rfl
  | 21, _ => rfl
  | n + 22, h => exact absurd h (by omega)
theorem rwordsV_get (k : Nat) (h : k < 22) : rwordsV[k]? = some (.string (rwords.getD k ⟨#[]⟩)) := by
  have := rall22 ⟨k, h⟩
  exact this
section
variable {P : Program} {ops : Array Oper} {rest : List Oper} {a : Act} {w : World} {Q : Exit → Act → World → Prop} {d : Option Tmp} {t ty : TypeId} {x v : Operand} {pos : String} {after : Array Edge} {g : Option (Nat × Bool)}
/-- Fits where the goal's next operation is a store. -/
theorem is_store (h : wpList P ops Q (⟨d, .store t x v, ty, pos, after, g⟩ :: rest) a w) : wpList P ops Q (⟨d, .store t x v, ty, pos, after, g⟩ :: rest) a w := h
end
section
variable {P : Program} {ops : Array Oper} {rest : List Oper} {o : Oper} {a : Act} {w : World} {Q : Exit → Act → World → Prop}
theorem wpList_store_new (hgd : o.guard = none) (ty : TypeId) (x y : Operand) (ho : o.op = .store ty x y) (w0 : World) (cells old : Array Value) (t : TypeId) (hw : w = w0.alloc (.cells old t))
    (hx : a.eval x = .pointer (some ⟨w0.heap.size, 0, none⟩)) (hy : a.eval y = .agg cells) (hi : (P.info? ty).map (·.size) = some cells.size)
    (hold : old.size = cells.size) (h1 : cells.all (·.oneCell') = true)
    (h : wpList P ops Q rest (a.put o.dst undef) (w0.alloc (.cells cells t))) : wpList P ops Q (o :: rest) a w := by
  subst hw
  refine wpList_store_row hgd ty x y ho w0.heap.size cells hx hy t old (heap_alloc_last w0 _) hi hold h1 ?_
  rw [World.setRow_alloc_new]
  exact h
end
theorem info230 : (Tryz.prog.info? 230).map (·.size) = some rwordsV.size := by kernel_rfl
set_option maxRecDepth 100000 in
set_option maxHeartbeats 800000 in
theorem rnm_c (w : World) : Calls Tryz.prog 92 #[] w fun e w' => e = .returned (.agg rwordsV) ∧ w' = w.alloc (.cells rwordsV 230) := by
  go_enter Tryz.func92, Tryz.ntmps92
  go_wp2_with (with_reducible refine is_store ?_; go_loud (refine wpList_store_new rfl _ _ _ rfl w rwordsV _ _ rfl rfl rfl info230 rfl (by kernel_rfl) ?_))
  exact bodyPost_ret (results_cell_row rfl _ _ w.heap.size 230 rwordsV (0, 0) _ rfl (heap_alloc_last w _) Tryz.underlying230 rfl info230) rfl ⟨rfl, rfl⟩
theorem rnm_b (w : World) : Calls Tryz.prog 92 #[] w fun e w' => e = .returned (.agg rwordsV) ∧ Below w.heap.size w w' :=
  (rnm_c w).mono fun e w' ⟨h, hw⟩ => ⟨h, by subst hw; exact (Below.refl _ _).alloc (Nat.le_refl _) _⟩
def nameS (e : Int) : ByteArray := if 0 ≤ e ∧ e < 22 then rwords.getD e.toNat ⟨#[]⟩ else ⟨#[]⟩
def nameB (e : Int) : Bool := decide (0 ≤ e) && decide (e < 22)
set_option maxRecDepth 100000 in
set_option maxHeartbeats 800000 in
theorem cname_c (e0 : Int) (w : World) : Calls Tryz.prog 49 #[.int .i64 e0] w fun e w' => e = .returned (.tuple #[.string (nameS e0), .bool (nameB e0)]) ∧ Below w.heap.size w w' := by
  by_cases h0 : e0 < 0
  · have e1 : nameS e0 = ⟨#[]⟩ := by unfold nameS; rw [if_neg (by omega)]
    have e2 : nameB e0 = false := by unfold nameB; simp; omega
    rw [e1, e2]
    go_enter Tryz.func49, Tryz.ntmps49
    go_wp2
    go_ret2
    exact ⟨rfl, Below.refl _ _⟩
  by_cases h9 : 22 ≤ e0
  · have e1 : nameS e0 = ⟨#[]⟩ := by unfold nameS; rw [if_neg (by omega)]
    have e2 : nameB e0 = false := by unfold nameB; simp; omega
    rw [e1, e2]
    go_enter Tryz.func49, Tryz.ntmps49
    go_wp2
    go_ret2
    exact ⟨rfl, Below.refl _ _⟩
  obtain ⟨k, rfl⟩ : ∃ k : Nat, e0 = (k : Int) := ⟨e0.toNat, by omega⟩
  have hk : k < 22 := by omega
  have e1 : nameS k = rwords.getD k ⟨#[]⟩ := by unfold nameS; rw [if_pos (by omega)]; rfl
  have e2 : nameB k = true := by unfold nameB; simp; omega
  rw [e1, e2]
  have hg := rwordsV_get k hk
  generalize rwords.getD k ⟨#[]⟩ = x at hg
  have hs : rwordsV.size = 22 := rfl
  have hki : (k : Int) < 22 := by omega
  go_enter Tryz.func49, Tryz.ntmps49
  go_wp2_with fail
  refine (rnm_b w).mono ?_
  rintro e w1 ⟨rfl, hb⟩
  go_wp2_with (with_reducible refine is_store ?_; go_loud (refine wpList_store_new rfl _ _ _ rfl w1 rwordsV _ _ rfl rfl rfl info230 rfl (by kernel_rfl) ?_))
  go_ret2
  have hg2 := hg
  simp [Array.getElem?_eq_getElem (show k < rwordsV.size from hk)] at hg2
  exact ⟨by simp [hg2], hb.alloc hb.size _⟩
theorem keyed26 : Maps.Keyed Tryz.prog 26 := Maps.int_keyed Tryz.underlying26
theorem zero3_ (w : World) : (zeroValue 3).run Tryz.prog w = .ok (.int .i64 0) w := by kernel_rfl
/-- Counts: block cb holds map mb; reason k was counted f k times. -/
structure Ct (w : World) (cb mb hi : Nat) (f : Nat → Nat) : Prop where
  head : Has w cb 153 #[.map (some mb)]
  map : ∃ nm M, nm ≤ hi ∧ GMap Tryz.prog w 26 mb nm M ∧ (∀ k : Nat, k < 22 → (M (.int .i64 k)).getD (.int .i64 0) = .int .i64 (f k)) ∧ ∀ kl v, M kl = some v → ∃ k : Nat, k < 22 ∧ kl = .int .i64 k
  small : ∀ k, f k ≤ hi
  ne : cb ≠ mb
theorem Ct.of_blocks {w w' : World} {cb mb hi : Nat} {f : Nat → Nat} (h : Ct w cb mb hi f) (e1 : w'.heap[cb]? = w.heap[cb]?) (e2 : w'.heap[mb]? = w.heap[mb]?) : Ct w' cb mb hi f := by
  obtain ⟨h1, ⟨nm, M, h2, g, h3⟩, h4, h5⟩ := h
  exact ⟨e1.trans h1, ⟨nm, M, h2, g.of_block e2, h3⟩, h4, h5⟩
theorem Ct.mlt {w : World} {cb mb hi : Nat} {f : Nat → Nat} (h : Ct w cb mb hi f) : mb < w.heap.size := by
  obtain ⟨h1, ⟨nm, M, h2, g, h3⟩, h4, h5⟩ := h
  exact g.lt
theorem Ct.below {w w' : World} {cb mb hi : Nat} {f : Nat → Nat} (h : Ct w cb mb hi f) (hb : Below w.heap.size w w') : Ct w' cb mb hi f :=
  h.of_blocks (hb.block cb h.head.lt) (hb.block mb h.mlt)
theorem wf_nat (x : Nat) (hx : x < 65536) : (Lit.int .i64 (x : Int)).wf = true := by
  have hmin : IntKind.i64.min = -9223372036854775808 := rfl
  have hmax : IntKind.i64.max = 9223372036854775807 := rfl
  simp only [Lit.wf, Bool.and_eq_true, decide_eq_true_eq]
  omega
theorem Ct.look {w : World} {cb mb hi : Nat} {f : Nat → Nat} (h : Ct w cb mb hi f) (k : Nat) (hk : k < 22) (v : Nat) (hv : f k = v) : (Instr.lookup 151 (.map (some mb)) (.int .i64 k) false).run Tryz.prog w = .ok (.int .i64 v) w := by
  obtain ⟨nm, M, _, g, hM, _⟩ := h.map
  have := g.look keyed26 Tryz.underlying151 zero3w (key := .int .i64 k) (kl := .int .i64 k) (Maps.keyOf_int_mk Tryz.underlying26 (wf_nat k (by omega)))
  rw [hM k hk, hv] at this
  exact this
def inc (f : Nat → Nat) (k : Nat) : Nat → Nat := fun x => if x = k then f k + 1 else f x
theorem Ct.add {w : World} {cb mb hi : Nat} {f : Nat → Nat} (h : Ct w cb mb hi f) (hh : hi < 65536) (k : Nat) (hk : k < 22) (v : Int) (hv : v = (f k : Int) + 1) :
    ∃ w', (Instr.mapUpdate 151 (.map (some mb)) (.int .i64 k) (.int .i64 v)).run Tryz.prog w = .ok () w' ∧ Ct w' cb mb (hi + 1) (inc f k) ∧ w.mapTurned w' mb := by
  obtain ⟨h1, ⟨nm, M, hn, g, hM, hK⟩, h4, h5⟩ := h
  subst hv
  obtain ⟨w', hrun, g', ht⟩ := g.store keyed26 Tryz.underlying151 (by unfold maxLen; omega) (key := .int .i64 k) (kl := .int .i64 k) (val := .int .i64 ((f k : Int) + 1)) trivial (Maps.keyOf_int_mk Tryz.underlying26 (wf_nat k (by omega)))
  refine ⟨w', hrun, ⟨(turned_block ht h5).trans h1, ⟨_, _, ?_, g', fun y hy => ?_, fun kl u hu => ?_⟩, fun y => ?_, h5⟩, ht⟩
  · split <;> omega
  · by_cases e : y = k
    · subst e; rw [putM_same]; simp [inc]
    · rw [putM_other _ _ (by simp; omega), hM y hy]; simp [inc, e]
  · by_cases e : kl = .int .i64 k
    · exact ⟨k, hk, e⟩
    · rw [putM_other _ _ e] at hu; exact hK kl u hu
  · unfold inc; have := h4 k; have := h4 y; split <;> omega
theorem cnew_c (w : World) : Calls Tryz.prog 31 #[] w fun e w' => e = .returned (.pointer (some ⟨w.heap.size + 1, 0, none⟩)) ∧ Ct w' (w.heap.size + 1) w.heap.size 0 (fun _ => 0) ∧ Below w.heap.size w w' := by
  have hmm := @run_makeMap Tryz.prog
  go_enter Tryz.func31, Tryz.ntmps31
  go_wp2
  go_ret
  refine ⟨by simp, ⟨by simpa using Has.new (w.alloc (.map #[] 0)) #[.map (some w.heap.size)] 153, ⟨0, _, Nat.le_refl _, (GMap.made Tryz.prog w 26).of_block (Below.heap_alloc _ _ _ (by simp)), fun k _ => rfl, fun kl v h => by cases h⟩, fun _ => Nat.le_refl _, by omega⟩, ?_⟩
  exact ((Below.refl _ _).alloc (Nat.le_refl _) _).alloc (by simp) _
theorem cadd_c (cb mb hi : Nat) (f : Nat → Nat) (k : Nat) (hk : k < 22) (hh : hi < 65535) (w : World) (h : Ct w cb mb hi f) : Calls Tryz.prog 23 #[.pointer (some ⟨cb, 0, none⟩), .int .i64 k] w fun e w' => e = .returned (.bool true) ∧ Ct w' cb mb (hi + 1) (inc f k) ∧ ∀ B, B ≤ cb → B ≤ mb → Below B w w' := by
  have hl := h.head.lt
  have hm := h.mlt
  have HB : Hid (nameB k = true) := by show nameB k = true; unfold nameB; simp; omega
  have H := Lib.hid h
  have hsm := h.small k
  clear h
  go_enter Tryz.func23, Tryz.ntmps23
  go_wp2_with fail
  refine (cname_c k w).mono ?_
  rintro e w1 ⟨rfl, hb⟩
  rw [HB.out]
  have H1 := H.out.below hb
  have c0 := H1.head.cell 0
  have lk := H1.look k hk _ rfl
  obtain ⟨w2, hs, C2, ht⟩ := H1.add (by omega) k hk _ rfl
  generalize f k = v at lk hs hsm
  have hC := Lib.hid C2
  clear C2 H1
  go_wp2
  go_ret
  exact ⟨rfl, hC.out, fun B b1 b2 => (hb.mono (by omega)).trans (turned_below ht b2)⟩
end Go.Proofs.YtngdebpaheejlaaGreatDoor
namespace Go.Proofs.YtngdebpaheejlaaGreatDoor
open Go.RowKit
set_option linter.unusedSimpArgs false
set_option linter.unusedVariables false
/-- What all holds. -/
def allN (o p c wt u : Int) (k : Int) : Option Int :=
  if k = 1 ∨ k = 2 then some o else if k = 3 then some p else if k = 4 ∨ k = 5 ∨ k = 6 then some c else if k = 7 then some wt else if k = 8 then some u else none
def allM (o p c wt u : Int) : Lit → Option Value
  | .int .i64 k => (allN o p c wt u k).map (Value.int .i64)
  | _ => none
noncomputable def ins (M : Lit → Option Value) (k v : Int) : Lit → Option Value := putM M (.int .i64 k) (some (.int .i64 v))
theorem all_eq (o p c wt u : Int) (k : Lit) : ins (ins (ins (ins (ins (ins (ins (ins (fun _ => none) 1 o) 2 o) 3 p) 4 c) 5 c) 6 c) 7 wt) 8 u k = allM o p c wt u k := by
  unfold ins putM allM
  cases k with
  | int q x =>
    simp only [Lit.int.injEq]
    cases q <;> simp
    unfold allN
    by_cases h8 : x = 8
    · simp [h8]
    by_cases h7 : x = 7
    · simp [h7]
    by_cases h6 : x = 6
    · simp [h6]
    by_cases h5 : x = 5
    · simp [h5]
    by_cases h4 : x = 4
    · simp [h4]
    by_cases h3 : x = 3
    · simp [h3]
    by_cases h2 : x = 2
    · simp [h2]
    by_cases h1 : x = 1
    · simp [h1]
    simp [h1, h2, h3, h4, h5, h6, h7, h8]
  | _ => simp
structure MB (w0 w : World) (n : Nat) (M : Lit → Option Value) (xs : Array Value) : Prop where
  box : Has w w0.heap.size 46 xs
  map : GMap Tryz.prog w 3 (w0.heap.size + 1) n M
  bel : Below w0.heap.size w0 w
theorem MB.step {w0 w w' : World} {n n' : Nat} {M : Lit → Option Value} {k v : Int} {xs : Array Value} (h : MB w0 w n M xs) (hg : GMap Tryz.prog w' 3 (w0.heap.size + 1) n' (putM M (.int .i64 k) (some (.int .i64 v)))) (ht : w.mapTurned w' (w0.heap.size + 1)) (hz : M (.int .i64 k) = none) (hn' : (if (M (.int .i64 k)).isSome then n else n + 1) = n') : MB w0 w' (n + 1) (ins M k v) xs := by
  rw [hz] at hn'
  simp at hn'
  subst hn'
  exact ⟨(turned_block ht (by omega)).trans h.box, hg, h.bel.trans (turned_below ht (by omega))⟩
theorem MB.cell {w0 w : World} {n : Nat} {M : Lit → Option Value} {xs : Array Value} (h : MB w0 w n M xs) (o : Nat) : w.cell? ⟨w0.heap.size, o, none⟩ = xs[o]? := h.box.cell o
theorem MB.free {w0 w : World} {n : Nat} {M : Lit → Option Value} {xs : Array Value} (h : MB w0 w n M xs) (o : Nat) : w.frozen? ⟨w0.heap.size, o, none⟩ = false := h.box.free o
set_option maxHeartbeats 1600000 in
theorem all_c (o p c wt u : Int) (w : World) : Calls Tryz.prog 102 #[.agg #[.int .i64 o, .int .i64 p, .int .i64 c, .int .i64 wt, .int .i64 u]] w fun e w' => e = .returned (.map (some (w.heap.size + 1))) ∧ GMap Tryz.prog w' 3 (w.heap.size + 1) 8 (allM o p c wt u) ∧ Below w.heap.size w w' := by
  have hmm := @run_makeMap Tryz.prog
  go_enter Tryz.func102, Tryz.ntmps102
  have S : MB w ((w.alloc (Obj.cells #[.int .i64 o, .int .i64 p, .int .i64 c, .int .i64 wt, .int .i64 u] 46)).alloc (Obj.map #[] 0)) 0 (fun _ => none) #[.int .i64 o, .int .i64 p, .int .i64 c, .int .i64 wt, .int .i64 u] :=
    ⟨(Has.new _ _ _).alloc _, by simpa using GMap.made Tryz.prog (w.alloc (Obj.cells #[.int .i64 o, .int .i64 p, .int .i64 c, .int .i64 wt, .int .i64 u] 46)) 3, ((Below.refl _ _).alloc (Nat.le_refl _) _).alloc (by simp) _⟩
  go_wp2_with ((with_reducible refine is_insert ?_); go_loud (refine wpList_gm_insert _ rfl _ _ _ _ rfl keyed3 Tryz.underlying132 rfl S.map (by decide) _ _ (.int .i64 _) trivial rfl rfl (Maps.keyOf_int_mk Tryz.underlying3 (by decide)) ?_; rintro w' hG hT; have S' := S.step hG hT (by simp [ins, putM]) rfl; have hc := S'.cell; have hf := S'.free; clear S hG hT; have S := S'; clear S'))
  have hG := S.map.congr (all_eq o p c wt u)
  have hB := S.bel
  clear S hc hf
  go_wp2
  go_ret
  exact ⟨rfl, hG, hB⟩
def allD (o p c wt u s : Int) : Int := (allN o p c wt u s).getD 0
def allS (s : Int) : Bool := (decide (1 ≤ s) && decide (s ≤ 8))
theorem allS_eq (o p c wt u s : Int) : (allN o p c wt u s).isSome = allS s := by
  unfold allN allS
  by_cases h1 : 1 ≤ s
  · by_cases h2 : s ≤ 8
    · rcases (by omega : s = 1 ∨ s = 2 ∨ s = 3 ∨ s = 4 ∨ s = 5 ∨ s = 6 ∨ s = 7 ∨ s = 8) with h | h | h | h | h | h | h | h <;> subst h <;> rfl
    · simp [h2, show ¬ (s = 1 ∨ s = 2) by omega, show ¬ s = 3 by omega, show ¬ (s = 4 ∨ s = 5 ∨ s = 6) by omega, show ¬ s = 7 by omega, show ¬ s = 8 by omega]
  · simp [h1, show ¬ (s = 1 ∨ s = 2) by omega, show ¬ s = 3 by omega, show ¬ (s = 4 ∨ s = 5 ∨ s = 6) by omega, show ¬ s = 7 by omega, show ¬ s = 8 by omega]
theorem allM_at (o p c wt u s : Int) : (allM o p c wt u (.int .i64 s)).getD (.int .i64 0) = .int .i64 (allD o p c wt u s) := by
  unfold allD
  rw [show allM o p c wt u (.int .i64 s) = (allN o p c wt u s).map (Value.int .i64) from rfl]
  cases allN o p c wt u s <;> rfl
theorem allM_in (o p c wt u s : Int) : (allM o p c wt u (.int .i64 s)).isSome = allS s := by
  rw [← allS_eq o p c wt u s]
  rw [show allM o p c wt u (.int .i64 s) = (allN o p c wt u s).map (Value.int .i64) from rfl]
  cases allN o p c wt u s <;> rfl
set_option maxHeartbeats 800000 in
theorem of_c (o p c wt u s : Int) (hs : (Lit.int .i64 s).wf = true) (w : World) : Calls Tryz.prog 179 #[.agg #[.int .i64 o, .int .i64 p, .int .i64 c, .int .i64 wt, .int .i64 u], .int .i64 s] w fun e w' => e = .returned (.tuple #[.int .i64 (allD o p c wt u s), .bool (allS s)]) ∧ Below w.heap.size w w' := by
  go_enter Tryz.func179, Tryz.ntmps179
  go_wp2_with fail
  refine (all_c o p c wt u _).mono ?_
  rintro e w1 ⟨rfl, G, hb⟩
  have hb1 : Below w.heap.size w w1 := ((Below.refl _ _).alloc (Nat.le_refl _) _).trans (hb.mono (by simp))
  clear hb
  rw [show (w.alloc (Obj.cells #[.int .i64 o, .int .i64 p, .int .i64 c, .int .i64 wt, .int .i64 u] 46)).heap.size = w.heap.size + 1 from by simp] at G
  go_wp2_with (at_lookup; go_loud (refine wpList_gm_look_ok _ rfl _ _ _ rfl keyed3 Tryz.underlying132 zero3w rfl G _ (.int .i64 _) rfl (Maps.keyOf_int_mk Tryz.underlying3 hs) _ (allM_at _ _ _ _ _ _) _ (allM_in _ _ _ _ _ _) ?_))
  go_ret2
  exact ⟨rfl, hb1⟩
def mayB (n : Int) : Bool := decide (1 ≤ n) && decide (n ≤ 1073741824)
theorem may_c (n : Int) (w : World) : Calls Tryz.prog 104 #[.int .i64 n] w fun e w' => e = .returned (.bool (mayB n)) ∧ w = w' := by
  unfold mayB
  by_cases h1 : 1 ≤ n
  · by_cases h2 : n ≤ 1073741824
    all_goals (go_enter Tryz.func104, Tryz.ntmps104; go_wp2; go_ret; refine ⟨?_, rfl⟩; simp [h1, h2]; try omega)
  · go_enter Tryz.func104, Tryz.ntmps104; go_wp2; go_ret; refine ⟨?_, rfl⟩; simp [h1]; try omega
def fitsB (o p c wt u : Int) : Bool := mayB o && (mayB p && (mayB c && (mayB wt && mayB u)))
set_option maxHeartbeats 800000 in
theorem fits_b (o p c wt u : Int) (b1 b2 b3 b4 b5 : Bool) (h1 : mayB o = b1) (h2 : mayB p = b2) (h3 : mayB c = b3) (h4 : mayB wt = b4) (h5 : mayB u = b5) (w : World) : Calls Tryz.prog 62 #[.agg #[.int .i64 o, .int .i64 p, .int .i64 c, .int .i64 wt, .int .i64 u]] w fun e w' => e = .returned (.bool (b1 && (b2 && (b3 && (b4 && b5))))) ∧ Below w.heap.size w w' := by
  have hb1 : Below w.heap.size w (w.alloc (Obj.cells #[.int .i64 o, .int .i64 p, .int .i64 c, .int .i64 wt, .int .i64 u] 55)) := (Below.refl _ _).alloc (Nat.le_refl _) _
  cases b1
  · go_enter Tryz.func62, Tryz.ntmps62
    go_wp2_with (go_at_call 104; refine (may_c _ _).mono ?_; rintro e w' ⟨rfl, rfl⟩; simp only [h1])
    go_ret; exact ⟨rfl, hb1⟩
  cases b2
  · go_enter Tryz.func62, Tryz.ntmps62
    go_wp2_with (go_at_call 104; refine (may_c _ _).mono ?_; rintro e w' ⟨rfl, rfl⟩; simp only [h1, h2])
    go_ret; exact ⟨rfl, hb1⟩
  cases b3
  · go_enter Tryz.func62, Tryz.ntmps62
    go_wp2_with (go_at_call 104; refine (may_c _ _).mono ?_; rintro e w' ⟨rfl, rfl⟩; simp only [h1, h2, h3])
    go_ret; exact ⟨rfl, hb1⟩
  cases b4
  · go_enter Tryz.func62, Tryz.ntmps62
    go_wp2_with (go_at_call 104; refine (may_c _ _).mono ?_; rintro e w' ⟨rfl, rfl⟩; simp only [h1, h2, h3, h4])
    go_ret; exact ⟨rfl, hb1⟩
  cases b5
  · go_enter Tryz.func62, Tryz.ntmps62
    go_wp2_with (go_at_call 104; refine (may_c _ _).mono ?_; rintro e w' ⟨rfl, rfl⟩; simp only [h1, h2, h3, h4, h5])
    go_ret; exact ⟨rfl, hb1⟩
  · go_enter Tryz.func62, Tryz.ntmps62
    go_wp2_with (go_at_call 104; refine (may_c _ _).mono ?_; rintro e w' ⟨rfl, rfl⟩; simp only [h1, h2, h3, h4, h5])
    go_ret; exact ⟨rfl, hb1⟩
theorem fits_c (o p c wt u : Int) (w : World) : Calls Tryz.prog 62 #[.agg #[.int .i64 o, .int .i64 p, .int .i64 c, .int .i64 wt, .int .i64 u]] w fun e w' => e = .returned (.bool (fitsB o p c wt u)) ∧ Below w.heap.size w w' :=
  fits_b o p c wt u _ _ _ _ _ rfl rfl rfl rfl rfl w
theorem threeI (c : Int) : c < 1 ∨ (¬ c < 1 ∧ 1073741824 < c) ∨ (¬ c < 1 ∧ ¬ 1073741824 < c) := by omega
theorem allM_val {o p c wt u : Int} (kl : Lit) (v : Value) (h : allM o p c wt u kl = some v) : ∃ x, v = Value.int .i64 x := by
  unfold allM at h
  split at h
  · rw [Option.map_eq_some_iff] at h
    obtain ⟨y, _, rfl⟩ := h
    exact ⟨y, rfl⟩
  · simp at h
theorem allM_inv {o p c wt u x v : Int} (h : allM o p c wt u (.int .i64 x) = some (.int .i64 v)) : allN o p c wt u x = some v := by
  rw [show allM o p c wt u (.int .i64 x) = (allN o p c wt u x).map (Value.int .i64) from rfl, Option.map_eq_some_iff] at h
  obtain ⟨y, h1, h2⟩ := h
  cases h2
  exact h1
theorem allN_fits {o p c wt u : Int} (h : ∀ k v, allN o p c wt u k = some v → mayB v = true) : fitsB o p c wt u = true := by
  unfold fitsB
  rw [h 1 o rfl, h 3 p rfl, h 4 c rfl, h 7 wt rfl, h 8 u rfl]
  rfl
theorem allN_not {o p c wt u : Int} {k v : Int} (h : allN o p c wt u k = some v) (hv : mayB v = false) : fitsB o p c wt u = false := by
  unfold fitsB
  unfold allN at h
  split at h
  · simp at h; subst h; simp [hv]
  split at h
  · simp at h; subst h; simp [hv]
  split at h
  · simp at h; subst h; simp [hv]
  split at h
  · simp at h; subst h; simp [hv]
  split at h
  · simp at h; subst h; simp [hv]
  · simp at h
set_option maxHeartbeats 800000 in
theorem tright_c (o p c wt u : Int) (w : World) : Calls Tryz.prog 58 #[.agg #[.int .i64 o, .int .i64 p, .int .i64 c, .int .i64 wt, .int .i64 u]] w fun e w' => e = .returned (.bool (fitsB o p c wt u)) ∧ Below w.heap.size w w' := by
  go_enter Tryz.func58, Tryz.ntmps58
  go_wp2_with fail
  refine (all_c o p c wt u _).mono ?_
  rintro e w1 ⟨rfl, G, hb⟩
  have hb1 : Below w.heap.size w w1 := ((Below.refl _ _).alloc (Nat.le_refl _) _).trans (hb.mono (by simp))
  clear hb
  rw [show (w.alloc (Obj.cells #[.int .i64 o, .int .i64 p, .int .i64 c, .int .i64 wt, .int .i64 u] 46)).heap.size = w.heap.size + 1 from by simp] at G
  go_wp2_with (at_range; go_loud (refine wpList_gm_range _ rfl _ _ rfl keyed3 Tryz.underlying132 rfl G ?_; intro w2 R hb2 hs2))
  have hb3 : Below w.heap.size w w2 := hb1.trans (hb2.mono hb1.size)
  clear hb2 G
  go_frame
  go_loopw [] (fun wr => ∃ left cnt, GRange Tryz.prog wr 3 (w.heap.size + 1 + 1) w1.heap.size (allM o p c wt u) left cnt ∧ Below w.heap.size w wr ∧ (∀ kl, left kl = true → (allM o p c wt u kl).isSome = true) ∧ ∀ k v, allN o p c wt u k = some v → left (.int .i64 k) = false → mayB v = true) (fun wr => wr.rangeLeft (w.heap.size + 1 + 1) w1.heap.size)
  case atStart => exact ⟨_, _, R, hb3, fun _ h => h, fun k v h h' => by rw [allM_in, ← allS_eq o p c wt u k, h] at h'; simp at h'⟩
  case round =>
    obtain ⟨left, cnt, R2, hb4, hL, hV⟩ := hrel
    go_wp2_with (at_next; go_loud (refine wpList_gm_next (α := Int) (β := Int) _ rfl _ rfl keyed3 (Value.int .i64) (Value.int .i64) (fun key kl hk => by obtain ⟨x, h, _⟩ := Maps.keyOf_int_inv Tryz.underlying3 hk; exact ⟨x, h⟩) rfl R2 R2.lt allM_val hL (fun hdone => ?_) (fun x cv kl w3 cnt' hk hlk hM R3 hlt hbB hs3 hen => (threeI cv).elim (fun h1 => ?_) (fun h => h.elim (fun ⟨h1, h2⟩ => ?_) (fun ⟨h1, h2⟩ => ?_)))))
    · go_ret
      rw [allN_fits fun k v h => hV k v h (hdone _)]
      exact ⟨rfl, hb4⟩
    · obtain ⟨_, e1, rfl, _⟩ := Maps.keyOf_int_inv Tryz.underlying3 hk
      cases e1
      go_ret
      rw [allN_not (allM_inv hM) (v := cv) (by simp [mayB]; omega)]
      exact ⟨rfl, hb4.trans (hbB _ hb1.size)⟩
    · obtain ⟨_, e1, rfl, _⟩ := Maps.keyOf_int_inv Tryz.underlying3 hk
      cases e1
      go_ret
      rw [allN_not (allM_inv hM) (v := cv) (by simp [mayB]; omega)]
      exact ⟨rfl, hb4.trans (hbB _ hb1.size)⟩
    · obtain ⟨_, e1, rfl, _⟩ := Maps.keyOf_int_inv Tryz.underlying3 hk
      cases e1
      go_roundw
      case rel =>
        refine ⟨_, _, R3, hb4.trans (hbB _ hb1.size), fun kl h => hL kl (by simp at h; exact h.1), fun k v hv h => ?_⟩
        by_cases e : k = x
        · subst e
          have := allM_inv hM
          rw [hv] at this
          simp at this
          subst this
          simp [mayB]; omega
        · refine hV k v hv ?_
          simpa [Lit.sameKey, e] using h
      case measure => rw [R3.left_eq, R2.left_eq]; exact hlt
end Go.Proofs.YtngdebpaheejlaaGreatDoor
namespace Go.Proofs.YtngdebpaheejlaaGreatDoor
open Go.RowKit
set_option linter.unusedSimpArgs false
set_option linter.unusedVariables false
theorem udp_c (w : World) : Calls Tryz.prog 176 #[.int .i64 0, .bool false] w fun e w' => e = .returned (.tuple #[.int .i64 8, .bool true]) ∧ w = w' := by
  go_enter Tryz.func176, Tryz.ntmps176
  go_wp2
  go_ret2
  exact ⟨rfl, rfl⟩
theorem fhas_c (bx : Nat) (f : Int) (b : Bool) (hb : decide (bits BinOp.and IntKind.i64 2 f ≠ 0) = b) (w : World) (h : Has w bx 3 #[.int .i64 2]) : Calls Tryz.prog 197 #[.int .i64 f, .pointer (some ⟨bx, 0, none⟩)] w fun e w' => e = .returned (.bool b) ∧ w = w' := by
  have c0 := h.cell 0
  simp at c0
  go_enter Tryz.func197, Tryz.ntmps197
  go_wp2
  go_ret
  refine ⟨?_, rfl⟩
  rw [← hb]
  simp
  rfl
theorem opening_c (w : World) : Calls Tryz.prog 198 #[.int .i64 0, .agg #[.bool false, .bool true, .bool false, .bool false]] w fun e w' => e = .returned (.tuple #[.int .i64 1, .bool true]) ∧ Below w.heap.size w w' := by
  go_enter Tryz.func198, Tryz.ntmps198
  go_wp2_with fail
  go_quiet (fail)
  go_wp2_with fail
  go_ret2
  exact ⟨rfl, Below.drN ((Below.refl _ _).alloc (Nat.le_refl _) _) _⟩
set_option maxRecDepth 100000 in
set_option maxHeartbeats 1600000 in
theorem step_c (w : World) : Calls Tryz.prog 174 #[.int .i64 0, .bool false, .int .i64 2] w fun e w' => e = .returned (.tuple #[.int .i64 1, .bool true]) ∧ Below w.heap.size w w' := by
  have h0 := Has.new w #[.int .i64 2] 3
  have H2 := Lib.hid (fhas_c w.heap.size 2 true (by decide) _ h0)
  have H16 := Lib.hid (fhas_c w.heap.size 16 false (by decide) _ h0)
  have H1 := Lib.hid (fhas_c w.heap.size 1 false (by decide) _ h0)
  have H4 := Lib.hid (fun W (h : Has W w.heap.size 3 #[.int .i64 2]) => fhas_c w.heap.size 4 false (by decide) W h)
  have HO := Lib.hid opening_c
  go_enter Tryz.func174, Tryz.ntmps174
  go_wp2_with fail
  refine H2.out.mono ?_
  rintro e w1 ⟨rfl, rfl⟩
  go_wp2_with fail
  refine H16.out.mono ?_
  rintro e w1 ⟨rfl, rfl⟩
  go_wp2_with fail
  refine H1.out.mono ?_
  rintro e w1 ⟨rfl, rfl⟩
  go_wp2_with fail
  refine (H4.out _ (h0.alloc _)).mono ?_
  rintro e w1 ⟨rfl, rfl⟩
  go_wp2_with fail
  refine (HO.out _).mono ?_
  rintro e w1 ⟨rfl, hb⟩
  go_wp2_with fail
  go_ret2
  exact ⟨rfl, (((Below.refl w.heap.size w).alloc (Nat.le_refl _) _).alloc (by simp) _).trans (hb.mono (by simp; omega))⟩
end Go.Proofs.YtngdebpaheejlaaGreatDoor
