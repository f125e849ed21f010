/- The document's ports: the walk of part. -/
import Derived.Test.YthkadlmdjgdliaaDoorRA
import Derived.Laws.StructEq
namespace Go.Proofs.YthkadlmdjgdliaaDoor
open Go.RowKit
set_option linter.unusedSimpArgs false
set_option linter.unusedVariables false
open V2 (Only)

theorem eq40 (a b c d a' b' c' d' : Int) (w : World) : (Op.equalIn 10000 40 (.agg #[.int .i64 a, .int .u32 b, .int .u32 c, .int .i64 d]) (.agg #[.int .i64 a', .int .u32 b', .int .u32 c', .int .i64 d'])).run Tryd.prog w = .ok (decide ((a, b, c, d) = (a', b', c', d'))) w := by
  have u3 := Tryd.underlying3
  have u22 := Tryd.underlying22
  have a3 := Tryd.isAgg3
  have z3 := Tryd.sizeOf3
  have a22 := Tryd.isAgg22
  have z22 := Tryd.sizeOf22
  have hS : Tryd.prog.underlying 40 = some (.struct (Tryd.prog.fieldsOf 40)) := by kernel_rfl
  have hp : Tryd.prog.stoodInHeld 40 = false := by kernel_rfl
  rw [show (10000 : Nat) = 9999 + 1 from rfl, run_equalIn_agg w 9999 40 _ _ hS hp]
  simp only [Program.fieldsOf, Tryd.underlying40]
  go_simp
  by_cases h1 : a = a' <;> by_cases h2 : b = b' <;> by_cases h3 : c = c' <;> by_cases h4 : d = d' <;> simp [h1, h2, h3, h4]
theorem eqg40 : Tryd.prog.eqGuardType Tryd.prog.depth 40 = false := by kernel_rfl

theorem own_cell {w : World} {v : Value} {m : Nat} {xs : List Value} (h : w.ownsRow 0 70 1 v m xs) {j : Nat} (hj : j < m) : ∃ g cap, v = .slice (some ⟨g, 0, none⟩) m cap ∧ w.cell? ⟨g, j, none⟩ = xs[j]? := by
  rcases h with ⟨h0, ⟨rfl, h1⟩ | ⟨g, cap, cur, rfl, h1, h2, h3, h4, h5, h6⟩⟩
  · omega
  · refine ⟨g, cap, rfl, ?_⟩
    rw [← h6, List.getElem?_take, if_pos (by omega)]
    unfold World.cell?
    simp [h2]
theorem info73 : (Tryd.prog.info? 3).map (fun i => (i.zero, i.size, i.bytes)) = some (some (.int .i64 0), 1, 8) := by kernel_rfl
theorem info70 : (Tryd.prog.info? 70).map (fun i => (i.zero, i.size, i.bytes)) = some (some (.pointer none), 1, 8) := by kernel_rfl
theorem own_form {w : World} {v : Value} {m : Nat} {xs : List Value} (h : w.ownsRow 0 70 1 v m xs) : ∃ b c, v = .slice b m c := by
  rcases h with ⟨h0, ⟨rfl, h1⟩ | ⟨g, cap, cur, rfl, _⟩⟩
  · subst h1; exact ⟨_, _, rfl⟩
  · exact ⟨_, _, rfl⟩
section
variable {w0 : Base} {w w' : World} {rb low n rest : Nat} {L : List K4} {B : K4 → RB} {S : K4 → PA}
theorem RSys.row (h : RSys w0 w rb low n rest L B S) {j : Nat} {k : K4} (hk : L[j]? = some k) : ∃ g cap, w.cell? ⟨rb, 3, none⟩ = some (.slice (some ⟨g, 0, none⟩) L.length cap) ∧ w.cell? ⟨g, j, none⟩ = some (.pointer (some ⟨(B k).xb, 0, none⟩)) := by
  obtain ⟨v, h1, h2, h3⟩ := h.head
  obtain ⟨hj, _⟩ := List.getElem?_eq_some_iff.1 hk
  obtain ⟨g, cap, rfl, hc⟩ := own_cell h2 hj
  refine ⟨g, cap, by have := h1.cell 3; simpa using this, ?_⟩
  rw [hc]; unfold ptrs; simp [hk]
theorem RSys.sl (h : RSys w0 w rb low n rest L B S) : ∃ b c, w.cell? ⟨rb, 3, none⟩ = some (.slice b L.length c) := by
  obtain ⟨v, h1, h2, h3⟩ := h.head
  obtain ⟨b, c, rfl⟩ := own_form h2
  exact ⟨b, c, by have := h1.cell 3; simpa using this⟩
theorem RSys.pcells (h : RSys w0 w rb low n rest L B S) {k : K4} (hk : k ∈ L) : w.cell? ⟨(B k).xb, 0, none⟩ = some (.int .i64 k.1) ∧ w.cell? ⟨(B k).xb, 1, none⟩ = some (.int .u32 k.2.1) ∧ w.cell? ⟨(B k).xb, 2, none⟩ = some (.int .u32 k.2.2.1) ∧ w.cell? ⟨(B k).xb, 3, none⟩ = some (.int .i64 k.2.2.2) := by
  have H := (h.part k hk).1.head
  exact ⟨H.cell 0, H.cell 1, H.cell 2, H.cell 3⟩
theorem BA {w w' : World} (h : Below w.heap.size w w') (o : Obj) : Below w.heap.size w (w'.alloc o) := h.alloc h.size o
theorem BT {w w' w2 : World} (h : Below w.heap.size w w') (k : Below w'.heap.size w' w2) : Below w.heap.size w w2 := h.trans (k.mono h.size)
theorem Below.drN {B : Nat} {w w' : World} (h : Below B w w') (m : Nat) : Below B w (w'.drewN m) := ⟨h.os, h.tape, h.output, h.size, h.block⟩
theorem Rc.grow {w w' : World} {cb ub n at1 : Nat} {U : Nat → Bool} (h : Rc w cb ub n at1 U) (hb : Below w.heap.size w w') : Rc w' cb ub n at1 U := h.of_blocks (hb.block _ h.head.lt) (hb.block _ h.used.lt)
theorem rnew_x (n : Nat) (h1 : 1 ≤ n) (h2 : n ≤ 65536) (w : World) : Calls Tryd.prog 28 #[.int .i64 n] w fun e w' => ∃ cb ub, e = .returned (.pointer (some ⟨cb, 0, none⟩)) ∧ Rc w' cb ub n 0 (fun _ => false) ∧ Below w.heap.size w w' ∧ w.heap.size ≤ cb ∧ w.heap.size ≤ ub := by
  refine (rnew_c n h1 h2 w).mono ?_
  rintro e w' ⟨rfl, hc, hb⟩
  exact ⟨_, _, rfl, hc, hb, by omega, Nat.le_refl _⟩
theorem rpart_made {w wx : World} {xb cb ub sb nb n lo hi : Nat} {k : K4} (hh : Has wx xb 75 #[.int .i64 k.1, .int .u32 k.2.1, .int .u32 k.2.2.1, .int .i64 k.2.2.2, .pointer (some ⟨cb, 0, none⟩), .slice (some ⟨sb, 0, none⟩) n n, .slice (some ⟨nb, 0, none⟩) n n]) (hc : Rc wx cb ub n 0 (fun _ => false)) (h1 : Has wx sb 3 (intsA n fun _ => 0)) (h2 : Has wx nb 3 (intsA n fun _ => 0))
    (g1 : lo ≤ xb ∧ xb < hi) (g2 : lo ≤ cb ∧ cb < hi) (g3 : lo ≤ ub ∧ ub < hi) (g4 : lo ≤ sb ∧ sb < hi) (g5 : lo ≤ nb ∧ nb < hi) (ne : xb ≠ cb ∧ xb ≠ ub ∧ xb ≠ sb ∧ xb ≠ nb ∧ cb ≠ sb ∧ cb ≠ nb ∧ ub ≠ sb ∧ ub ≠ nb ∧ sb ≠ nb) : RPart wx ⟨xb, cb, ub, sb, nb, lo, hi⟩ k n PA.new :=
  ⟨hh, hc, ⟨_, h1, fun i _ => rfl⟩, ⟨_, h2, fun i _ u hu => by cases hu⟩, fun x h => (by cases h), g1, g2, g3, g4, g5, ne⟩
theorem has_at {w : World} {xs : Array Value} {t : TypeId} {b : Nat} (hb : b = w.heap.size) : Has (w.alloc (.cells xs t)) b t xs := by subst hb; exact Has.new _ _ _
theorem made_box {wr W : World} {cb ub sb nb n x : Nat} {k : K4} (hc : Rc W cb ub n 0 (fun _ => false)) (h1 : Has W sb 3 (intsA n fun _ => 0)) (h2 : Has W nb 3 (intsA n fun _ => 0)) (hb : Below wr.heap.size wr W) (hx : x = W.heap.size)
    (g2 : wr.heap.size ≤ cb) (g3 : wr.heap.size ≤ ub) (g4 : wr.heap.size ≤ sb) (g5 : wr.heap.size ≤ nb) (ne : cb ≠ sb ∧ cb ≠ nb ∧ ub ≠ sb ∧ ub ≠ nb ∧ sb ≠ nb) :
    ∃ p : RB, (Value.pointer (some ⟨x, 0, none⟩)) = .pointer (some ⟨p.xb, 0, none⟩) ∧ Hid (RPart (W.alloc (.cells #[.int .i64 k.1, .int .u32 k.2.1, .int .u32 k.2.2.1, .int .i64 k.2.2.2, .pointer (some ⟨cb, 0, none⟩), .slice (some ⟨sb, 0, none⟩) n n, .slice (some ⟨nb, 0, none⟩) n n] 75)) p k n PA.new ∧ Below wr.heap.size wr (W.alloc (.cells #[.int .i64 k.1, .int .u32 k.2.1, .int .u32 k.2.2.1, .int .i64 k.2.2.2, .pointer (some ⟨cb, 0, none⟩), .slice (some ⟨sb, 0, none⟩) n n, .slice (some ⟨nb, 0, none⟩) n n] 75)) ∧ wr.heap.size ≤ p.lo ∧ p.hi ≤ (W.alloc (.cells #[.int .i64 k.1, .int .u32 k.2.1, .int .u32 k.2.2.1, .int .i64 k.2.2.2, .pointer (some ⟨cb, 0, none⟩), .slice (some ⟨sb, 0, none⟩) n n, .slice (some ⟨nb, 0, none⟩) n n] 75)).heap.size) := by
  subst hx
  have a1 := hc.head.lt
  have a2 := hc.used.lt
  have a3 := h1.lt
  have a4 := h2.lt
  have sz := hb.size
  refine ⟨⟨W.heap.size, cb, ub, sb, nb, wr.heap.size, W.heap.size + 1⟩, rfl, rpart_made (w := W) (Has.new _ _ _) (hc.grow (BA (Below.refl _ _) _)) (h1.alloc _) (h2.alloc _) ?_ ?_ ?_ ?_ ?_ ?_, BA hb _, Nat.le_refl _, by simp⟩ <;> omega
/-- A part is made, and its pointer appended. -/
theorem RSys.add {wr wc w1 : World} (h : RSys w0 wr rb low n rest L B S) {k : K4} (hk : k ∉ L) {p : RB} (P : RPart wc p k n PA.new) (hb : Below wr.heap.size wr wc) (hlo : wr.heap.size ≤ p.lo) (hhi : p.hi ≤ wc.heap.size) {v : Value} (hv : wr.cell? ⟨rb, 3, none⟩ = some v) {o : Obj} (G : (wc.alloc o).grownBy w1 v.ownBlock) {g cap m : Nat} (hm : m = L.length) (hown : w1.ownsRow 0 70 1 (.slice (some ⟨g, 0, none⟩) (m + 1) cap) (m + 1) (ptrs L B ++ [.pointer (some ⟨p.xb, 0, none⟩)])) (hat : v.ownBlock = some g ∨ g = (wc.alloc o).heap.size) :
    RSys w0 (w1.setCell ⟨rb, 3, none⟩ (.slice (some ⟨g, 0, none⟩) (m + 1) cap)) rb low n rest (L ++ [k]) (updK B k p) S := by
  subst hm
  obtain ⟨v', h1, h2, h3⟩ := h.head
  have e := h1.cell 3
  rw [hv] at e
  simp at e
  subst e
  have hrb := h1.lt
  have sz1 := hb.size
  have sz2 := G.size
  simp at sz2 hat
  have hsz := h.bel.size
  have E1 : ∀ b, b < wc.heap.size → v.ownBlock ≠ some b → w1.heap[b]? = wc.heap[b]? := fun b hb1 hb2 => (G.block b (by simp; omega) (fun q => hb2 q.symm)).trans (Below.heap_alloc _ _ _ hb1)
  have E2 : ∀ b, b < wc.heap.size → v.ownBlock ≠ some b → b ≠ rb → (w1.setCell ⟨rb, 3, none⟩ (.slice (some ⟨g, 0, none⟩) (L.length + 1) cap)).heap[b]? = wc.heap[b]? := fun b hb1 hb2 hb3 => (Below.heap_setCell w1 ⟨rb, 3, none⟩ _ b hb3).trans (E1 b hb1 hb2)
  have E3 : ∀ b, b < wr.heap.size → v.ownBlock ≠ some b → b ≠ rb → (w1.setCell ⟨rb, 3, none⟩ (.slice (some ⟨g, 0, none⟩) (L.length + 1) cap)).heap[b]? = wr.heap[b]? := fun b hb1 hb2 hb3 => (E2 b (by omega) hb2 hb3).trans (hb.block b hb1)
  have V1 : ∀ b, v.ownBlock = some b → b < wr.heap.size := fun b hb => own_lt h2 hb
  have hgr : g ≠ rb := by
    rcases hat with q | q
    · exact (h3 g q).2.1
    · omega
  have Q : ∀ b, w0.Z b → (w1.setCell ⟨rb, 3, none⟩ (.slice (some ⟨g, 0, none⟩) (L.length + 1) cap)).heap[b]? = wr.heap[b]? := fun b hz => E3 b (Nat.lt_of_lt_of_le (h.zlt b hz) hsz) (fun q => (h3 b q).1 hz) (fun q => h.b1 (q ▸ hz))
  refine ⟨⟨.slice (some ⟨g, 0, none⟩) (L.length + 1) cap, ?_, ?_, fun b hb => ?_⟩, fun k' hk' => ?_, fun k' hn => h.new k' (fun q => hn (List.mem_append_left _ q)), fun k1 h1' k2 h2' hne => ?_, ⟨G.os.trans (hb.os.trans h.bel.os), G.tape.trans (hb.tape.trans h.bel.tape), G.output.trans (hb.output.trans h.bel.output), by simp; omega, fun b hz => (Q b hz).trans (h.bel.block b hz)⟩, h.zlt, h.b1, h.lo1, h.lo2, h.hi1, h.hi2⟩
  · have : Has w1 rb 69 #[.int .i64 low, .int .i64 n, .int .i64 rest, v] := (E1 rb (by omega) (fun q => (h3 rb q).2.1 rfl)).trans (h1.below hb)
    simpa using this.set 3 (.slice (some ⟨g, 0, none⟩) (L.length + 1) cap)
  · have e : ptrs (L ++ [k]) (updK B k p) = ptrs L B ++ [.pointer (some ⟨p.xb, 0, none⟩)] := by
      unfold ptrs
      rw [List.map_append]
      congr 1
      · apply List.map_congr_left
        intro x hx
        rw [updK_other _ _ (fun q : x = k => hk (by rw [← q]; exact hx))]
      · simp [updK_same]
    rw [e, List.length_append, List.length_singleton]
    exact own_block hown (fun b hb => by cases hb; exact Below.heap_setCell w1 ⟨rb, 3, none⟩ _ g hgr)
  · cases hb
    refine ⟨fun (hz : w0.Z g) => ?_, hgr, fun k' hk' => ?_⟩
    · rcases hat with q | q
      · exact (h3 g q).1 hz
      · have := h.zlt g hz; omega
    · show ¬ ((updK B k p k').lo ≤ g ∧ g < (updK B k p k').hi)
      by_cases e : k' = k
      · subst e
        rw [updK_same]
        rcases hat with q | q
        · have := V1 g q; omega
        · omega
      · rw [updK_other _ _ e]
        have hk2 : k' ∈ L := by
          rcases List.mem_append.1 hk' with q | q
          · exact q
          · exact absurd (List.mem_singleton.1 q) e
        rcases hat with q | q
        · exact (h3 g q).2.2 k' hk2
        · have := (h.part k' hk2).2.2.1; omega
  · by_cases e : k' = k
    · subst e
      rw [updK_same, h.new k' hk]
      exact ⟨P.of_blocks (fun b hb b1 b2 => E2 b hb (fun q => by have := V1 b q; omega) (by omega)), fun b b1 b2 hz => by have := h.zlt b hz; omega, by simp; omega, by omega⟩
    · rw [updK_other _ _ e]
      have hk2 : k' ∈ L := by
        rcases List.mem_append.1 hk' with q | q
        · exact q
        · exact absurd (List.mem_singleton.1 q) e
      obtain ⟨r1, r2, r3, r4⟩ := h.part k' hk2
      exact ⟨r1.of_blocks (fun b hb b1 b2 => E3 b hb (fun q => (h3 b q).2.2 k' hk2 ⟨b1, b2⟩) (by omega)), r2, by simp; omega, r4⟩
  · have A : ∀ k', k' ∈ L ++ [k] → k' ≠ k → k' ∈ L := fun k' hk' e => by
      rcases List.mem_append.1 hk' with q | q
      · exact q
      · exact absurd (List.mem_singleton.1 q) e
    by_cases e1 : k1 = k
    · subst e1
      have e2 : k2 ≠ k1 := fun q => hne q.symm
      rw [updK_same, updK_other _ _ e2]
      have := (h.part k2 (A k2 h2' e2)).2.2.1
      omega
    · rw [updK_other _ _ e1]
      by_cases e2 : k2 = k
      · subst e2
        rw [updK_same]
        have := (h.part k1 (A k1 h1' e1)).2.2.1
        omega
      · rw [updK_other _ _ e2]
        exact h.disj k1 (A k1 h1' e1) k2 (A k2 h2' e2) hne
set_option maxRecDepth 100000 in
set_option maxHeartbeats 1600000 in
theorem rpart_c (k0 k1 k2 k3 : Int) (h : RSys w0 w rb low n rest L B S) (hL : L.length < 60000) :
    Calls Tryd.prog 22 #[.pointer (some ⟨rb, 0, none⟩), kv k0 k1 k2 k3] w fun e w' => ∃ p L' B', e = .returned (.pointer (some ⟨p, 0, none⟩)) ∧ (B' (k0, k1, k2, k3)).xb = p ∧ (k0, k1, k2, k3) ∈ L' ∧ RSys w0 w' rb low n rest L' B' S ∧ L'.length ≤ L.length + 1 := by
  have H2 := Lib.hid (h.grow ((Below.refl _ _).alloc (Nat.le_refl _) (.cells #[.int .i64 k0, .int .u32 k1, .int .u32 k2, .int .i64 k3] 40)))
  have HB := Lib.hid (Has.new w #[.int .i64 k0, .int .u32 k1, .int .u32 k2, .int .i64 k3] 40)
  have hsz := h.bel.size
  unfold kv at *
  clear h
  have EG := eqg40
  go_enter Tryd.func22, Tryd.ntmps22
  go_wp2_with fail
  go_loopw [5] (fun i wr => ∃ j : Nat, j ≤ L.length ∧ i = .int .i64 j ∧ Hid ((∀ l q, l < j → L[l]? = some q → q ≠ (k0, k1, k2, k3)) ∧ RSys w0 wr rb low n rest L B S ∧ Has wr w.heap.size 40 #[.int .i64 k0, .int .u32 k1, .int .u32 k2, .int .i64 k3] ∧ w.heap.size < wr.heap.size)) (fun i _ => L.length - (intOf i).toNat)
  case atStart => exact ⟨0, by omega, rfl, fun l q hl => by omega, H2.out, HB.out, by simp⟩
  case round =>
    obtain ⟨j, hj, rfl, HR⟩ := hrel
    obtain ⟨sb, sc, c3⟩ := HR.out.2.1.sl
    obtain ⟨b0, b1, b2, b3⟩ : wr.cell? ⟨w.heap.size, 0, none⟩ = some (.int .i64 k0) ∧ wr.cell? ⟨w.heap.size, 1, none⟩ = some (.int .u32 k1) ∧ wr.cell? ⟨w.heap.size, 2, none⟩ = some (.int .u32 k2) ∧ wr.cell? ⟨w.heap.size, 3, none⟩ = some (.int .i64 k3) := ⟨HR.out.2.2.1.cell 0, HR.out.2.2.1.cell 1, HR.out.2.2.1.cell 2, HR.out.2.2.1.cell 3⟩
    by_cases hlt : j < L.length
    · clear c3
      obtain ⟨q, hq⟩ : ∃ q, L[j]? = some q := ⟨_, List.getElem?_eq_getElem hlt⟩
      have hqm : q ∈ L := List.mem_of_getElem? hq
      obtain ⟨g, cap, c3, cr⟩ := HR.out.2.1.row hq
      obtain ⟨d0, d1, d2, d3⟩ := HR.out.2.1.pcells hqm
      obtain ⟨q0, q1, q2, q3⟩ := q
      obtain ⟨xb, hxb⟩ : ∃ xb, (B (q0, q1, q2, q3)).xb = xb := ⟨_, rfl⟩
      rw [hxb] at cr d0 d1 d2 d3
      simp only at d0 d1 d2 d3
      have HQ := Lib.hid (And.intro hq (And.intro hqm hxb))
      clear hq hqm hxb
      by_cases hqk : (q0, q1, q2, q3) = (k0, k1, k2, k3)
      · have E40 : ∀ w : World, (Op.equalIn 10000 40 (.agg #[.int .i64 q0, .int .u32 q1, .int .u32 q2, .int .i64 q3]) (.agg #[.int .i64 k0, .int .u32 k1, .int .u32 k2, .int .i64 k3])).run Tryd.prog w = .ok true w := fun w => by rw [eq40]; simp only [hqk, decide_true]
        have HK := Lib.hid hqk
        clear hqk
        go_wp2_with fail
        go_quiet (fail)
        go_wp2_with fail
        go_ret
        refine ⟨xb, L, B, rfl, ?_, ?_, HR.out.2.1.grow (Below.drN (Below.refl _ _) _), by omega⟩
        · rw [← HK.out]; exact HQ.out.2.2
        · rw [← HK.out]; exact HQ.out.2.1
      · have E40 : ∀ w : World, (Op.equalIn 10000 40 (.agg #[.int .i64 q0, .int .u32 q1, .int .u32 q2, .int .i64 q3]) (.agg #[.int .i64 k0, .int .u32 k1, .int .u32 k2, .int .i64 k3])).run Tryd.prog w = .ok false w := fun w => by rw [eq40]; simp only [hqk, decide_false]
        have HK := Lib.hid hqk
        clear hqk
        go_wp2_with fail
        go_quiet (fail)
        go_wp2_with fail
        go_roundw
        case rel =>
          refine ⟨j + 1, by omega, by go_num, fun l q hl hq => ?_, HR.out.2.1.grow (Below.drN (Below.refl _ _) _), HR.out.2.2.1.below (Below.drN (Below.refl _ _) _), HR.out.2.2.2⟩
          by_cases e : l = j
          · subst e
            rw [HQ.out.1] at hq
            cases hq
            exact HK.out
          · exact HR.out.1 l q (by omega) hq
        case measure => simp [intOf]; omega
    · have hnk : Hid ((k0, k1, k2, k3) ∉ L) := fun hm => by
        obtain ⟨l, hl⟩ := List.getElem?_of_mem hm
        exact HR.out.1 l _ (by have := (List.getElem?_eq_some_iff.1 hl).1; omega) hl rfl
      have HS := Lib.hid HR.out.2.1
      have hn1 := HS.out.lo1
      have hn2 := HS.out.hi1
      have hn3 := HS.out.lo2
      have hmk := fun w : World => run_make_row' (P := Tryd.prog) 73 3 (.int .i64 0) 8 Tryd.underlying73 info73 rfl .i64 .i64 n (by omega) (by omega) w
      rw [made_ints] at hmk
      have BW : Hid (Below wr.heap.size wr wr.drew) := (Below.refl _ _).drew
      have KA : Hid (∀ W : World, Below wr.heap.size wr W → W.cell? ⟨rb, 1, none⟩ = some (.int .i64 n) ∧ W.cell? ⟨w.heap.size, 0, none⟩ = some (.int .i64 k0) ∧ W.cell? ⟨w.heap.size, 1, none⟩ = some (.int .u32 k1) ∧ W.cell? ⟨w.heap.size, 2, none⟩ = some (.int .u32 k2) ∧ W.cell? ⟨w.heap.size, 3, none⟩ = some (.int .i64 k3)) := fun W hb => by
        obtain ⟨v, h1, _⟩ := HR.out.2.1.head
        have a1 := (h1.below hb).cell 1
        have a2 := HR.out.2.2.1.below hb
        exact ⟨a1, a2.cell 0, a2.cell 1, a2.cell 2, a2.cell 3⟩
      clear b0 b1 b2 b3
      go_wp2_with fail
      go_cut [6] from 35 to 53 (fun s6 wx => ∃ p : RB, s6 = .pointer (some ⟨p.xb, 0, none⟩) ∧ Hid (RPart wx p (k0, k1, k2, k3) n PA.new ∧ Below wr.heap.size wr wx ∧ wr.heap.size ≤ p.lo ∧ p.hi ≤ wx.heap.size))
      case first =>
        go_wp2_with fail
        go_region_held3 (fun W => W.cell? ⟨rb, 1, none⟩ = some (.int .i64 n) ∧ W.cell? ⟨w.heap.size, 0, none⟩ = some (.int .i64 k0) ∧ W.cell? ⟨w.heap.size, 1, none⟩ = some (.int .u32 k1) ∧ W.cell? ⟨w.heap.size, 2, none⟩ = some (.int .u32 k2) ∧ W.cell? ⟨w.heap.size, 3, none⟩ = some (.int .i64 k3))
          (first | exact KA.out _ BW.out | exact KA.out _ (BA BW.out _) | exact KA.out _ (BA (BA BW.out _) _) | exact KA.out _ (BT BW.out hb1) | exact KA.out _ (BA (BT BW.out hb1) _) | exact KA.out _ (BA (BA (BT BW.out hb1) _) _) | exact KA.out _ (BT (BA BW.out _) hb1) | exact KA.out _ (BA (BT (BA BW.out _) hb1) _) | exact KA.out _ (BT (BA (BA BW.out _) _) hb1) | exact KA.out _ (BA (BA (BA (BT BW.out hb1) _) _) _) | exact KA.out _ (BA (BA (BT (BA BW.out _) hb1) _) _) | exact KA.out _ (BA (BT (BA (BA BW.out _) _) hb1) _))
          (first | (go_at_call 28; refine (rnew_x n (by omega) (by omega) _).mono ?_; rintro e w1 ⟨cb, ub, rfl, C1, hb1, l1, l2⟩))
        all_goals
          have x1 := hb1.size
          have x2 := C1.head.lt
          have x3 := C1.used.lt
          simp at x1 l1 l2
          go_wp2_with fail
          go_meet
          case rel =>
            refine made_box (ub := ub) (k := (k0, k1, k2, k3)) ?_ ?_ ?_ ?_ ?_ ?_ ?_ ?_ ?_ ?_
            · first | exact C1 | exact C1.grow (BA (Below.refl _ _) _) | exact C1.grow (BA (BA (Below.refl _ _) _) _)
            · first | exact has_at rfl | (refine has_at ?_; simp; done) | exact Has.alloc (has_at rfl) _ | (refine Has.alloc (has_at ?_) _; simp; done) | exact Has.below (Has.drew (has_at rfl)) hb1 | (refine Has.below (Has.drew (has_at ?_)) hb1; simp; done) | exact Has.alloc (Has.below (Has.drew (has_at rfl)) hb1) _ | (refine Has.alloc (Has.below (Has.drew (has_at ?_)) hb1) _; simp; done) | exact Has.below (Has.drew (Has.alloc (has_at rfl) _)) hb1 | (refine Has.below (Has.drew (Has.alloc (has_at ?_) _)) hb1; simp; done)
            · first | exact has_at rfl | (refine has_at ?_; simp; done) | exact Has.alloc (has_at rfl) _ | (refine Has.alloc (has_at ?_) _; simp; done) | exact Has.below (Has.drew (has_at rfl)) hb1 | (refine Has.below (Has.drew (has_at ?_)) hb1; simp; done) | exact Has.alloc (Has.below (Has.drew (has_at rfl)) hb1) _ | (refine Has.alloc (Has.below (Has.drew (has_at ?_)) hb1) _; simp; done) | exact Has.below (Has.drew (Has.alloc (has_at rfl) _)) hb1 | (refine Has.below (Has.drew (Has.alloc (has_at ?_) _)) hb1; simp; done)
            · first | exact BA (BA (BT BW.out hb1) _) _ | exact BA (BT (BA BW.out _) hb1) _ | exact BT (BA (BA BW.out _) _) hb1
            · simp
            all_goals (first | omega | (simp; omega))
      case rest =>
        obtain ⟨p, rfl, HP⟩ := hcut
        obtain ⟨v, h1, h2, h3⟩ := HS.out.head
        have e := h1.cell 3
        rw [c3] at e
        simp at e
        subst e
        have hbw := HP.out.2.1
        have c3w : wc.cell? ⟨rb, 3, none⟩ = some (.slice sb L.length sc) := (hbw.cell (p := ⟨rb, 3, none⟩) h1.lt).trans c3
        have own : wc.ownsRow 0 70 1 (.slice sb L.length sc) L.length (ptrs L B) := own_block h2 (fun b q => hbw.block b (own_lt h2 q))
        have HF : Hid (∀ W : World, (wc.alloc (.cells #[.pointer (some ⟨p.xb, 0, none⟩)] 70)).grownBy W (Value.slice sb L.length sc).ownBlock → (∃ x, W.cell? ⟨rb, 3, none⟩ = some x) ∧ W.frozen? ⟨rb, 3, none⟩ = false) := fun W G => by
          have hr := h1.lt
          have hr2 := hbw.size
          have a : Has W rb 69 _ := (G.block rb (by simp; omega) (fun q => (h3 rb q.symm).2.1 rfl)).trans ((h1.below hbw).alloc _)
          exact ⟨⟨_, a.cell 3⟩, a.free 3⟩
        have c3b := Lib.hid c3
        clear c3 h1 h2 h3 hmk KA BW
        obtain ⟨i0, hi0, hz0, hs0, hb0⟩ := info_parts info70
        obtain ⟨len, hlen⟩ : ∃ len, len = L.length := ⟨_, rfl⟩
        rw [← hlen] at own c3w HF
        have hlb : len < 60000 := by omega
        have HL := Lib.hid hlen
        clear hlen hbw
        go_wp2_with (at_builtin; go_loud (refine wpList_append_lies _ rfl _ _ 67 rfl 0 70 i0 _ 1 8 Tryd.underlying67 hi0 hz0 hs0 hb0 rfl (by decide) _ _ _ rfl (own.alloc _) ⟨wc.heap.size, 0, none⟩ 1 1 [.pointer (some ⟨p.xb, 0, none⟩)] rfl rfl (cell_one_new _ _ _) (by simp [Value.oneCell']) (by omega) (by unfold maxLen; omega) (by omega) (by simp) (wc.heap.size + 1) (by simp) ?_); intro g cap w1 hown G hat hlt2; have HX := HF.out w1 G; obtain ⟨x3, f3⟩ := HX; obtain ⟨x3, f4⟩ := x3)
        go_ret
        refine ⟨p.xb, L ++ [(k0, k1, k2, k3)], updK B (k0, k1, k2, k3) p, rfl, by rw [updK_same], List.mem_append_right _ (List.mem_singleton.2 rfl), ?_, by simp⟩
        have G' : (wc.alloc (.cells #[.pointer (some ⟨p.xb, 0, none⟩)] 70)).grownBy w1 (Value.slice sb len sc).ownBlock := G
        have hat' : (Value.slice sb len sc).ownBlock = some g ∨ g = (wc.alloc (.cells #[.pointer (some ⟨p.xb, 0, none⟩)] 70)).heap.size := hat.elim (fun q => .inl q) (fun q => .inr (by simpa using q))
        rw [HL.out] at G' hat'
        exact HS.out.add hnk.out HP.out.1 HP.out.2.1 HP.out.2.2.1 HP.out.2.2.2 c3b.out G' HL.out hown hat'
end
end Go.Proofs.YthkadlmdjgdliaaDoor
