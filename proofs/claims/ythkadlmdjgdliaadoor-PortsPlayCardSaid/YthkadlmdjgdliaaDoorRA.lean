/- The document's ports in memory: a part, all parts; the walks of New and clock. -/
import Derived.Test.YthkadlmdjgdliaaDoorR
import Derived.Test.YthkadlmdjgdliaaDoorM
import Derived.Deep.AppendLies
namespace Go.Proofs.YthkadlmdjgdliaaDoor
open Go.RowKit
set_option linter.unusedSimpArgs false
set_option linter.unusedVariables false
open V2 (Only)

def intsA (n : Nat) (f : Nat → Int) : Array Value := ((List.range n).map fun i => Value.int .i64 (f i)).toArray
theorem intsA_get (n : Nat) (f : Nat → Int) (i : Nat) (h : i < n) : (intsA n f)[i]? = some (.int .i64 (f i)) := by
  simp [intsA, h]
def setF (f : Nat → Int) (i : Nat) (v : Int) : Nat → Int := fun j => if j = i then v else f j
theorem intsA_set (n : Nat) (f : Nat → Int) (i : Nat) (v : Int) : (intsA n f).setIfInBounds i (.int .i64 v) = intsA n (setF f i v) := by
  apply Array.ext'
  apply List.ext_getElem?
  intro j
  simp only [intsA, setF, Array.toList_setIfInBounds, List.getElem?_set, List.getElem?_map, List.length_map, List.length_range, List.getElem?_range']
  by_cases h : i = j
  · subst h
    by_cases h2 : i < n
    · simp [h2]
    · simp [h2]
  · by_cases h2 : j < n
    · simp [h, h2, Ne.symm h]
    · simp [h, h2]
theorem made_ints (nw : Nat) : madeCells #[.int .i64 0] nw = intsA nw (fun _ => 0) := by
  apply Array.ext'
  apply List.ext_getElem?
  intro j
  simp only [madeCells, intsA, Array.toList_map, Array.toList_range, List.getElem?_map]
  by_cases h : j < nw <;> simp [h, Nat.mod_one]

/-- A number's state, as the document writes it. -/
def code (A : PA) (x : Nat) : Int := if A.L x then 1 else if (A.G x).isSome then 2 else 0
abbrev K4 := Int × Int × Int × Int
structure RB where
  xb : Nat
  cb : Nat
  ub : Nat
  sb : Nat
  nb : Nat
  lo : Nat
  hi : Nat
structure RPart (w : World) (p : RB) (k : K4) (n : Nat) (A : PA) : Prop where
  head : Has w p.xb 75 #[.int .i64 k.1, .int .u32 k.2.1, .int .u32 k.2.2.1, .int .i64 k.2.2.2, .pointer (some ⟨p.cb, 0, none⟩), .slice (some ⟨p.sb, 0, none⟩) n n, .slice (some ⟨p.nb, 0, none⟩) n n]
  cur : Rc w p.cb p.ub n A.at1 A.U
  st : ∃ f, Has w p.sb 3 (intsA n f) ∧ ∀ i, i < n → f i = code A i
  un : ∃ g, Has w p.nb 3 (intsA n g) ∧ ∀ i, i < n → ∀ u, A.G i = some u → g i = u
  apart : ∀ x, A.L x = true → A.G x = none
  i1 : p.lo ≤ p.xb ∧ p.xb < p.hi
  i2 : p.lo ≤ p.cb ∧ p.cb < p.hi
  i3 : p.lo ≤ p.ub ∧ p.ub < p.hi
  i4 : p.lo ≤ p.sb ∧ p.sb < p.hi
  i5 : p.lo ≤ p.nb ∧ p.nb < p.hi
  ne : p.xb ≠ p.cb ∧ p.xb ≠ p.ub ∧ p.xb ≠ p.sb ∧ p.xb ≠ p.nb ∧ p.cb ≠ p.sb ∧ p.cb ≠ p.nb ∧ p.ub ≠ p.sb ∧ p.ub ≠ p.nb ∧ p.sb ≠ p.nb
theorem RPart.of_blocks {w w' : World} {p : RB} {k : K4} {n : Nat} {A : PA} (h : RPart w p k n A) (e : ∀ b, b < w.heap.size → p.lo ≤ b → b < p.hi → w'.heap[b]? = w.heap[b]?) : RPart w' p k n A := by
  obtain ⟨f, l1, l2⟩ := h.st
  obtain ⟨g, g1, g2⟩ := h.un
  exact ⟨(e _ h.head.lt h.i1.1 h.i1.2).trans h.head, h.cur.of_blocks (e _ h.cur.head.lt h.i2.1 h.i2.2) (e _ h.cur.used.lt h.i3.1 h.i3.2), ⟨f, (e _ l1.lt h.i4.1 h.i4.2).trans l1, l2⟩, ⟨g, (e _ g1.lt h.i5.1 h.i5.2).trans g1, g2⟩, h.apart, h.i1, h.i2, h.i3, h.i4, h.i5, h.ne⟩
open Classical in
noncomputable def updK {α : Type} (f : K4 → α) (k : K4) (v : α) : K4 → α := fun x => if x = k then v else f x
theorem updK_same {α : Type} (f : K4 → α) (k : K4) (v : α) : updK f k v k = v := by simp [updK]
theorem updK_other {α : Type} (f : K4 → α) {k x : K4} (v : α) (h : x ≠ k) : updK f k v x = f x := by simp [updK, h]

def ptrs (L : List K4) (B : K4 → RB) : List Value := L.map fun k => .pointer (some ⟨(B k).xb, 0, none⟩)
structure RSys (w0 : Base) (w : World) (rb low n rest : Nat) (L : List K4) (B : K4 → RB) (S : K4 → PA) : Prop where
  head : ∃ v, Has w rb 69 #[.int .i64 low, .int .i64 n, .int .i64 rest, v] ∧ w.ownsRow 0 70 1 v L.length (ptrs L B) ∧ ∀ b, v.ownBlock = some b → ¬ w0.Z b ∧ b ≠ rb ∧ ∀ k ∈ L, ¬ ((B k).lo ≤ b ∧ b < (B k).hi)
  part : ∀ k ∈ L, RPart w (B k) k n (S k) ∧ (∀ b, (B k).lo ≤ b → b < (B k).hi → ¬ w0.Z b) ∧ (B k).hi ≤ w.heap.size ∧ (rb < (B k).lo ∨ (B k).hi ≤ rb)
  new : ∀ k, k ∉ L → S k = PA.new
  disj : ∀ k ∈ L, ∀ k' ∈ L, k ≠ k' → (B k).hi ≤ (B k').lo ∨ (B k').hi ≤ (B k).lo
  bel : Keeps w0 w
  zlt : ∀ b, w0.Z b → b < w0.w.heap.size
  b1 : ¬ w0.Z rb
  lo1 : 1 ≤ n
  lo2 : 1 ≤ low
  hi1 : low + n ≤ 65536
  hi2 : rest ≤ 1099511627776
theorem own_block {w w' : World} {v : Value} {m : Nat} {xs : List Value} (h : w.ownsRow 0 70 1 v m xs) (e : ∀ b, v.ownBlock = some b → w'.heap[b]? = w.heap[b]?) : w'.ownsRow 0 70 1 v m xs := by
  rcases h with ⟨h0, h | ⟨g, cap, cur, rfl, h1, h2, h3⟩⟩
  · exact ⟨h0, .inl h⟩
  · exact ⟨h0, .inr ⟨g, cap, cur, rfl, h1, (e g rfl).trans h2, h3⟩⟩
theorem own_lt {w : World} {v : Value} {m : Nat} {xs : List Value} (h : w.ownsRow 0 70 1 v m xs) {b : Nat} (hb : v.ownBlock = some b) : b < w.heap.size := by
  rcases h with ⟨h0, ⟨rfl, _⟩ | ⟨g, cap, cur, rfl, h1, h2, h3⟩⟩
  · cases hb
  · cases hb
    rcases Nat.lt_or_ge g w.heap.size with h' | h'
    · exact h'
    · rw [Array.getElem?_eq_none h'] at h2; cases h2
section
variable {w0 : Base} {w w' : World} {rb low n rest : Nat} {L : List K4} {B : K4 → RB} {S : K4 → PA}
theorem RSys.lt (h : RSys w0 w rb low n rest L B S) : rb < w.heap.size := by obtain ⟨v, h, _⟩ := h.head; exact h.lt
/-- What is not the ports' own may turn. -/
theorem RSys.foreign (h : RSys w0 w rb low n rest L B S) {w1 : Base} (hw : w1.w = w') (e : ∀ b, b < w.heap.size → ¬ w0.Z b → w'.heap[b]? = w.heap[b]?) (hs : w.heap.size ≤ w'.heap.size) (hz : ∀ b, w1.Z b → b < w'.heap.size) (hz2 : ∀ b, b < w.heap.size → w1.Z b → w0.Z b) : RSys w1 w' rb low n rest L B S := by
  have hk : Keeps w1 w' := by subst hw; exact Keeps.refl _
  obtain ⟨v, h1, h2, h3⟩ := h.head
  refine ⟨⟨v, (e rb h1.lt h.b1).trans h1, own_block h2 (fun b hb => e b (own_lt h2 hb) (h3 b hb).1), fun b hb => ⟨fun q => (h3 b hb).1 (hz2 b (own_lt h2 hb) q), (h3 b hb).2⟩⟩, fun k hk => ?_, h.new, h.disj, hk, fun b hb => by rw [hw]; exact hz b hb, fun q => h.b1 (hz2 rb h1.lt q), h.lo1, h.lo2, h.hi1, h.hi2⟩
  obtain ⟨q1, q2, q3, q4⟩ := h.part k hk
  exact ⟨q1.of_blocks (fun b hb b1 b2 => e b hb (q2 b b1 b2)), fun b b1 b2 q => q2 b b1 b2 (hz2 b (by omega) q), Nat.le_trans q3 hs, q4⟩
theorem RSys.grow (h : RSys w0 w rb low n rest L B S) (hb : Below w.heap.size w w') : RSys w0 w' rb low n rest L B S := by
  obtain ⟨v, h1, h2, h3⟩ := h.head
  have Q : ∀ b, w0.Z b → w'.heap[b]? = w.heap[b]? := fun b hz => hb.block b (Nat.lt_of_lt_of_le (h.zlt b hz) h.bel.size)
  refine ⟨⟨v, h1.below hb, own_block h2 (fun b q => hb.block b (own_lt h2 q)), h3⟩, fun k hk => ?_, h.new, h.disj, h.bel.trans (hb.mono (Nat.zero_le _)) Q, h.zlt, h.b1, h.lo1, h.lo2, h.hi1, h.hi2⟩
  obtain ⟨q1, q2, q3, q4⟩ := h.part k hk
  exact ⟨q1.of_blocks (fun b hb' _ _ => hb.block b hb'), q2, Nat.le_trans q3 hb.size, q4⟩
/-- One part is turned. -/
theorem RSys.turn (h : RSys w0 w rb low n rest L B S) {k : K4} (hk : k ∈ L) (c : Chg (fun b => (B k).lo ≤ b ∧ b < (B k).hi) w w') {A : PA} (hA : RPart w' (B k) k n A) : RSys w0 w' rb low n rest L B (updK S k A) := by
  obtain ⟨q1, q2, q3, q4⟩ := h.part k hk
  obtain ⟨v, h1, h2, h3⟩ := h.head
  have hlt := h1.lt
  have Q : ∀ b, w0.Z b → w'.heap[b]? = w.heap[b]? := fun b hz => c.block b (Nat.lt_of_lt_of_le (h.zlt b hz) h.bel.size) (fun ⟨a1, a2⟩ => q2 b a1 a2 hz)
  refine ⟨⟨v, (c.block rb hlt (by omega)).trans h1, own_block h2 (fun b hb => c.block b (own_lt h2 hb) ((h3 b hb).2.2 k hk)), h3⟩, fun k' hk' => ?_, fun k' hn => ?_, h.disj, h.bel.trans (c.below (fun b _ => Nat.zero_le b) (Nat.zero_le _)) Q, h.zlt, h.b1, h.lo1, h.lo2, h.hi1, h.hi2⟩
  · by_cases e : k' = k
    · subst e
      rw [updK_same]
      exact ⟨hA, q2, Nat.le_trans q3 c.size, q4⟩
    · rw [updK_other _ _ e]
      obtain ⟨r1, r2, r3, r4⟩ := h.part k' hk'
      have hd := h.disj k' hk' k hk e
      exact ⟨r1.of_blocks (fun b hb hb1 hb2 => c.block b hb (by omega)), r2, Nat.le_trans r3 c.size, r4⟩
  · have e : k' ≠ k := fun e => hn (e ▸ hk)
    rw [updK_other _ _ e]; exact h.new k' hn
end
theorem rclock_c (x : Int) (w : World) : Calls Tryd.prog 23 #[.int .i64 x] w fun e w' => e = .returned (.int .i64 (clk x)) ∧ w = w' := by
  unfold clk
  by_cases h1 : x < 0
  · go_enter Tryd.func23, Tryd.ntmps23
    go_wp2
    go_ret
    simp [h1]
  · by_cases h2 : 1099511627776 < x
    · go_enter Tryd.func23, Tryd.ntmps23
      go_wp2
      go_ret
      simp [h1, h2]
    · go_enter Tryd.func23, Tryd.ntmps23
      go_wp2
      go_ret
      have : max x 0 = x := by omega
      simp [h1, h2]
      try omega
end Go.Proofs.YthkadlmdjgdliaaDoor
