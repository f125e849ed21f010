/- The anchor (chapter 12) of five buckets: what stands in memory; New. -/
import Derived.Test.YtngdebpaheejlaaGreatDoorZg
import Derived.Test.YtngdebpaheejlaaGreatDoorZc
import Derived.Handy
namespace Go.Proofs.YtngdebpaheejlaaGreatDoor
open Go.RowKit Go.Shelf
set_option linter.unusedSimpArgs false
set_option linter.unusedVariables false
attribute [local go_sem] Oper.semAt_some
/-- A slice that the code appended to: its row, its block one of S. -/
def Row (S : Nat → Prop) (w : World) (t : TypeId) (size : Nat) (v : Value) (n : Nat) (xs : List Value) : Prop := w.ownsRow 0 t size v n xs ∧ ∀ b, v.ownBlock = some b → S b
theorem Row.keep {S : Nat → Prop} {w w' : World} {t : TypeId} {size n : Nat} {v : Value} {xs : List Value} (h : Row S w t size v n xs) (hk : ∀ b, b < w.heap.size → S b → w'.heap[b]? = w.heap[b]?) : Row S w' t size v n xs := by
  obtain ⟨⟨h1, h2⟩, h3⟩ := h
  refine ⟨⟨h1, ?_⟩, h3⟩
  rcases h2 with h2 | ⟨g, cap, cur, rfl, q0, q1, q2⟩
  · exact .inl h2
  · have lt : g < w.heap.size := (Array.getElem?_eq_some_iff.1 q1).1
    exact .inr ⟨g, cap, cur, rfl, q0, (hk g lt (h3 g rfl)).trans q1, q2⟩
/-- The rows of cells among the blocks of S are kept. -/
def Keep (S : Nat → Prop) (w w' : World) : Prop := ∀ b t xs, S b → Has w b t xs → Has w' b t xs
theorem Row.keepH {S : Nat → Prop} {w w' : World} {t : TypeId} {size n : Nat} {v : Value} {xs : List Value} (h : Row S w t size v n xs) (hk : Keep S w w') : Row S w' t size v n xs := by
  obtain ⟨⟨h1, h2⟩, h3⟩ := h
  refine ⟨⟨h1, ?_⟩, h3⟩
  rcases h2 with h2 | ⟨g, cap, cur, rfl, q0, q1, q2⟩
  · exact .inl h2
  · exact .inr ⟨g, cap, cur, rfl, q0, hk g t cur (h3 g rfl) q1, q2⟩
theorem Keep.putObj {S : Nat → Prop} (w : World) (l : Nat) (o o' : Obj) (h : w.heap[l]? = some o) (ho : o.isCells = false) : Keep S w (w.putObj l o') := fun b t xs _ hb => by
  have hne : b ≠ l := by
    rintro rfl
    unfold Has at hb
    rw [hb] at h
    cases h
    cases ho
  exact (World.putObj_heap_other (by first | exact hne | exact hne.symm)).trans hb
theorem Keep.grown {S : Nat → Prop} {w w' : World} {row : Option Nat} {k : Nat} (h : w.grownBy w' row) (hr : ∀ r, row = some r → k ≤ r ∧ ∃ o : Obj, w.heap[r]? = some o ∧ o.isCells = false) : Keep S w w' := fun b t xs _ hb => by
  refine (h.block b hb.lt (fun e => ?_)).trans hb
  obtain ⟨_, o, h1, h2⟩ := hr b e.symm
  unfold Has at hb
  rw [hb] at h1
  cases h1
  cases h2
theorem Row.mono {S T : Nat → Prop} {w : World} {t : TypeId} {size n : Nat} {v : Value} {xs : List Value} (h : Row S w t size v n xs) (hS : ∀ b, S b → T b) : Row T w t size v n xs := ⟨h.1, fun b e => hS b (h.2 b e)⟩
theorem Row.nil (S : Nat → Prop) (w : World) (t : TypeId) (size : Nat) : Row S w t size (.slice none 0 0) 0 [] := ⟨World.ownsRow_nil w 0 t size, fun b e => by cases e⟩
/-- The row's block is none that is a row of cells of another type. -/
theorem Row.ne {S : Nat → Prop} {w : World} {t t' : TypeId} {size n : Nat} {v : Value} {xs : List Value} {b : Nat} {ys : Array Value} (h : Row S w t size v n xs) (hb : Has w b t' ys) (ht : t ≠ t') : v.ownBlock ≠ some b := by
  intro e
  obtain ⟨⟨h1, h2⟩, h3⟩ := h
  rcases h2 with ⟨rfl, _⟩ | ⟨g, cap, cur, rfl, q0, q1, q2⟩
  · cases e
  · cases e
    unfold Has at hb
    rw [q1] at hb
    simp at hb
    exact ht hb.2
theorem Has.ne {w : World} {a b : Nat} {t t' : TypeId} {xs ys : Array Value} (h : Has w a t xs) (k : Has w b t' ys) (ht : t ≠ t') : a ≠ b := by
  rintro rfl
  unfold Has at *
  rw [h] at k
  simp at k
  exact ht k.2
def ancL : Nat → Array Value
  | 1 => #[.int .i64 0, .int .i64 0, .int .i64 0, .int .i64 0, .int .i64 1, .int .i64 1, .int .i64 1, .int .i64 1, .int .i64 2, .int .i64 2, .int .i64 2, .int .i64 2, .int .i64 3, .int .i64 3, .int .i64 3, .int .i64 3, .int .i64 4, .int .i64 4, .int .i64 4, .int .i64 4]
  | _ => #[.int .i64 0, .int .i64 0, .int .i64 0, .int .i64 0, .int .i64 0, .int .i64 1, .int .i64 1, .int .i64 1, .int .i64 2, .int .i64 2, .int .i64 2, .int .i64 2, .int .i64 3, .int .i64 3, .int .i64 3, .int .i64 3, .int .i64 4, .int .i64 4, .int .i64 4, .int .i64 4]
def stackL : Nat → List Value
  | 1 => [.int .i64 4, .int .i64 3, .int .i64 2, .int .i64 1]
  | _ => [.int .i64 4, .int .i64 3, .int .i64 2]
/-- An anchor of five buckets of which k work (1 or 2), those that this program comes by; its blocks are some of S. -/
def Anc (S : Nat → Prop) (w : World) (a k : Nat) : Prop := ∃ L sv, S a ∧ S L ∧ Has w a 254 #[.slice (some ⟨L, 0, none⟩) 5 5, sv, .int .i64 k] ∧ Has w L 256 (ancL k) ∧ Row S w 3 1 sv (5 - k) (stackL k)
theorem Anc.keep {S : Nat → Prop} {w w' : World} {a k : Nat} (h : Anc S w a k) (hk : ∀ b, b < w.heap.size → S b → w'.heap[b]? = w.heap[b]?) : Anc S w' a k := by
  obtain ⟨L, sv, s1, s2, h1, h2, h3⟩ := h
  exact ⟨L, sv, s1, s2, (hk _ h1.lt s1).trans h1, (hk _ h2.lt s2).trans h2, h3.keep hk⟩
theorem Anc.keepH {S : Nat → Prop} {w w' : World} {a k : Nat} (h : Anc S w a k) (hk : Keep S w w') : Anc S w' a k := by
  obtain ⟨L, sv, s1, s2, h1, h2, h3⟩ := h
  exact ⟨L, sv, s1, s2, hk _ _ _ s1 h1, hk _ _ _ s2 h2, h3.keepH hk⟩
theorem Anc.mono {S T : Nat → Prop} {w : World} {a k : Nat} (h : Anc S w a k) (hS : ∀ b, S b → T b) : Anc T w a k := by
  obtain ⟨L, sv, s1, s2, h1, h2, h3⟩ := h
  exact ⟨L, sv, hS _ s1, hS _ s2, h1, h2, h3.mono hS⟩
theorem falling_c (a b : Int) (w : World) : Calls Tryz.prog 103 #[.int .i64 a, .int .i64 b] w fun e w' => e = .returned (.func (.func 163) #[] #[.pointer (some ⟨w.heap.size, 0, none⟩), .pointer (some ⟨w.heap.size + 1, 0, none⟩)]) ∧ w' = (w.alloc (.cells #[.int .i64 a] 3)).alloc (.cells #[.int .i64 b] 3) := by
  go_enter Tryz.func103, Tryz.ntmps103
  go_wp2
  go_ret
  exact ⟨rfl, rfl⟩
def fallL : List Int := [4, 3, 2, 1]
set_option maxRecDepth 100000 in
set_option maxHeartbeats 2000000 in
theorem falling_seq {w : World} (Z : Nat → Prop) (bx by' : Nat) (hbx : Has w bx 3 #[.int .i64 5]) (hby : Has w by' 3 #[.int .i64 1]) (z1 : Z bx) (z2 : Z by') :
    SeqL Tryz.prog 163 #[.pointer (some ⟨bx, 0, none⟩), .pointer (some ⟨by', 0, none⟩)] (fun x : Int => #[Value.int .i64 x]) Z fallL w := by
  intro n y B J Jx W hW hB hJ hJx hY h0
  have k0 : KZ Z w W := .of_below hW
  have X0 : Hid (Has W bx 3 #[.int .i64 5]) := (k0.block _ hbx.lt z1).trans hbx
  have Y0 : Hid (Has W by' 3 #[.int .i64 1]) := (k0.block _ hby.lt z2).trans hby
  have c0 := Has.cell X0.out 0
  simp at c0
  clear hW hJ hJx hbx hby k0
  refine callsIn_wide.2 (callsIn_wide (n := 5) |>.1 ?_)
  refine callsIn_of_wp Tryz.func163 rfl trivial ?_ rfl
  simp only [Tryz.ntmps163, List.size_toArray, List.length_cons, List.length_nil, Nat.reduceAdd, Nat.reduceSub, Array.replicate_succ, Array.replicate_zero, List.push_toArray, List.append_toArray, List.nil_append, List.cons_append]
  gi_wp2
  gi_loopw [4] (fun p wr => ∃ (k : Nat) (q : Int), p = .int .i64 q ∧ q = 4 - (k : Int) ∧ k ≤ 4 ∧ J (fallL.take k) wr ∧ KZ Z W wr) (fun p _ => (intOf p).toNat)
  case atStart => exact ⟨0, _, rfl, by rfl, by omega, h0, KZ.refl _ _⟩
  case round =>
    clear c0 h0
    obtain ⟨k, q, rfl, hq, hk, hJ, hK⟩ := hrel
    have X1 : Has wr by' 3 #[.int .i64 1] := (hK.block _ Y0.out.lt z2).trans Y0.out
    have c0 := Has.cell X1 0
    simp at c0
    obtain rfl | rfl | rfl | rfl | rfl : k = 0 ∨ k = 1 ∨ k = 2 ∨ k = 3 ∨ k = 4 := by omega
    · obtain rfl : q = 4 := by omega
      obtain ⟨fn, tmps, assign, body, hy, hR⟩ := hY 4 (fallL.take 0) 4 wr hJ (by decide)
      clear X1 hY hq hk
      gi_wp2
      refine hR.mono ?_
      rintro e W3 ⟨hk3, (⟨rfl, hJ3⟩ | ⟨rfl, hJx3⟩)⟩
      · gi_wp2
        go_roundw
        case rel => exact ⟨0 + 1, _, rfl, by omega, by omega, hJ3, hK.trans hk3.kz⟩
        case measure => simp [intOf]
      · gi_wp2
        refine bodyPost_ret (results_none rfl _ _ _) rfl ?_
        exact ⟨⟨_, rfl⟩, .inr ⟨_, by decide, hJx3⟩⟩
    · obtain rfl : q = 3 := by omega
      obtain ⟨fn, tmps, assign, body, hy, hR⟩ := hY 4 (fallL.take 1) 3 wr hJ (by decide)
      clear X1 hY hq hk
      gi_wp2
      refine hR.mono ?_
      rintro e W3 ⟨hk3, (⟨rfl, hJ3⟩ | ⟨rfl, hJx3⟩)⟩
      · gi_wp2
        go_roundw
        case rel => exact ⟨1 + 1, _, rfl, by omega, by omega, hJ3, hK.trans hk3.kz⟩
        case measure => simp [intOf]
      · gi_wp2
        refine bodyPost_ret (results_none rfl _ _ _) rfl ?_
        exact ⟨⟨_, rfl⟩, .inr ⟨_, by decide, hJx3⟩⟩
    · obtain rfl : q = 2 := by omega
      obtain ⟨fn, tmps, assign, body, hy, hR⟩ := hY 4 (fallL.take 2) 2 wr hJ (by decide)
      clear X1 hY hq hk
      gi_wp2
      refine hR.mono ?_
      rintro e W3 ⟨hk3, (⟨rfl, hJ3⟩ | ⟨rfl, hJx3⟩)⟩
      · gi_wp2
        go_roundw
        case rel => exact ⟨2 + 1, _, rfl, by omega, by omega, hJ3, hK.trans hk3.kz⟩
        case measure => simp [intOf]
      · gi_wp2
        refine bodyPost_ret (results_none rfl _ _ _) rfl ?_
        exact ⟨⟨_, rfl⟩, .inr ⟨_, by decide, hJx3⟩⟩
    · obtain rfl : q = 1 := by omega
      obtain ⟨fn, tmps, assign, body, hy, hR⟩ := hY 4 (fallL.take 3) 1 wr hJ (by decide)
      clear X1 hY hq hk
      gi_wp2
      refine hR.mono ?_
      rintro e W3 ⟨hk3, (⟨rfl, hJ3⟩ | ⟨rfl, hJx3⟩)⟩
      · gi_wp2
        go_roundw
        case rel => exact ⟨3 + 1, _, rfl, by omega, by omega, hJ3, hK.trans hk3.kz⟩
        case measure => simp [intOf]
      · gi_wp2
        refine bodyPost_ret (results_none rfl _ _ _) rfl ?_
        exact ⟨⟨_, rfl⟩, .inr ⟨_, by decide, hJx3⟩⟩
    · obtain rfl : q = 0 := by omega
      clear hq hk
      gi_wp2
      go_end0
      exact ⟨⟨_, rfl⟩, .inl hJ⟩
def initA : Nat → Array Value
  | 0 => #[.int .i64 0, .int .i64 0, .int .i64 0, .int .i64 0, .int .i64 0, .int .i64 0, .int .i64 0, .int .i64 0, .int .i64 0, .int .i64 0, .int .i64 0, .int .i64 0, .int .i64 0, .int .i64 0, .int .i64 0, .int .i64 0, .int .i64 0, .int .i64 0, .int .i64 0, .int .i64 0]
  | 1 => #[.int .i64 0, .int .i64 0, .int .i64 0, .int .i64 0, .int .i64 0, .int .i64 0, .int .i64 0, .int .i64 0, .int .i64 0, .int .i64 0, .int .i64 0, .int .i64 0, .int .i64 0, .int .i64 0, .int .i64 0, .int .i64 0, .int .i64 0, .int .i64 0, .int .i64 0, .int .i64 0]
  | 2 => #[.int .i64 0, .int .i64 0, .int .i64 0, .int .i64 0, .int .i64 0, .int .i64 1, .int .i64 1, .int .i64 1, .int .i64 0, .int .i64 0, .int .i64 0, .int .i64 0, .int .i64 0, .int .i64 0, .int .i64 0, .int .i64 0, .int .i64 0, .int .i64 0, .int .i64 0, .int .i64 0]
  | 3 => #[.int .i64 0, .int .i64 0, .int .i64 0, .int .i64 0, .int .i64 0, .int .i64 1, .int .i64 1, .int .i64 1, .int .i64 0, .int .i64 2, .int .i64 2, .int .i64 2, .int .i64 0, .int .i64 0, .int .i64 0, .int .i64 0, .int .i64 0, .int .i64 0, .int .i64 0, .int .i64 0]
  | 4 => #[.int .i64 0, .int .i64 0, .int .i64 0, .int .i64 0, .int .i64 0, .int .i64 1, .int .i64 1, .int .i64 1, .int .i64 0, .int .i64 2, .int .i64 2, .int .i64 2, .int .i64 0, .int .i64 3, .int .i64 3, .int .i64 3, .int .i64 0, .int .i64 0, .int .i64 0, .int .i64 0]
  | _ => #[.int .i64 0, .int .i64 0, .int .i64 0, .int .i64 0, .int .i64 0, .int .i64 1, .int .i64 1, .int .i64 1, .int .i64 0, .int .i64 2, .int .i64 2, .int .i64 2, .int .i64 0, .int .i64 3, .int .i64 3, .int .i64 3, .int .i64 0, .int .i64 4, .int .i64 4, .int .i64 4]
/-- The places as the buckets of a list have gone. -/
def goneA (pre : List Int) : Array Value := pre.foldl (fun c x => c.setIfInBounds (x.toNat * 4) (.int .i64 x)) #[.int .i64 0, .int .i64 0, .int .i64 0, .int .i64 0, .int .i64 0, .int .i64 1, .int .i64 1, .int .i64 1, .int .i64 0, .int .i64 2, .int .i64 2, .int .i64 2, .int .i64 0, .int .i64 3, .int .i64 3, .int .i64 3, .int .i64 0, .int .i64 4, .int .i64 4, .int .i64 4]
theorem goneA_snoc (pre : List Int) (x : Int) : goneA (pre ++ [x]) = (goneA pre).setIfInBounds (x.toNat * 4) (.int .i64 x) := by simp [goneA]
theorem goneA_size (pre : List Int) : (goneA pre).size = 20 := by
  have key : ∀ (l : List Int) (c : Array Value), c.size = 20 → (l.foldl (fun c x => c.setIfInBounds (x.toNat * 4) (.int .i64 x)) c).size = 20 := by
    intro l
    induction l with
    | nil => intro c h; exact h
    | cons x l ih => intro c h; exact ih _ (by simpa using h)
  exact key pre _ rfl
section
variable {P : Program} {n : Nat} {o : Oper} {a : Act} {w : World} {K : Act → World → Prop} {Q : Exit → Act → World → Prop}
theorem oper_in (hd : ∀ c, o.op ≠ .defer c) (h : o.wp P a w K Q) : o.wpIn Fence.wide n P a w K Q := by
  refine ⟨fun _ _ => trivial, ?_⟩
  rw [Oper.semAt_eq _ _ _ hd]
  unfold Oper.wp at h
  revert h
  generalize (execOp a.eval o).run P w = r
  cases r with
  | ok x w' =>
    cases x with
    | enter f args => exact fun h => ⟨fun q => (by cases q), callsIn_wide.2 h⟩
    | row q args => exact fun h => ⟨fun q => (by cases q), fun c cs _ => by
        obtain ⟨v, w2, h1, h2⟩ := h c cs
        exact ⟨v, w2, h1, stepsIn_wide.2 h2⟩⟩
    | round l f t b c => exact fun h => (h : False).elim
    | _ => exact fun h => h
  | halt x w' => cases x <;> exact fun h => h
end
set_option maxRecDepth 100000 in
set_option maxHeartbeats 3200000 in
theorem anew_c (w : World) : Calls Tryz.prog 60 #[.int .i64 5, .int .i64 1] w fun e w' => ∃ a, e = .returned (.tuple #[.pointer (some ⟨a, 0, none⟩), .int .i64 0]) ∧ Anc (fun b => w.heap.size ≤ b) w' a 1 ∧ Below w.heap.size w w' := by
  have hmk : ∀ W : World, (Instr.makeSlice 252 (.int .i64 5) (.int .i64 5)).run Tryz.prog W = .ok (.slice (some ⟨W.heap.size, 0, none⟩) 5 5) (W.alloc (.cells #[.int .i64 0, .int .i64 0, .int .i64 0, .int .i64 0, .int .i64 0, .int .i64 0, .int .i64 0, .int .i64 0, .int .i64 0, .int .i64 0, .int .i64 0, .int .i64 0, .int .i64 0, .int .i64 0, .int .i64 0, .int .i64 0, .int .i64 0, .int .i64 0, .int .i64 0, .int .i64 0] 256)) := fun W => by kernel_rfl
  refine (callsIn_wide (n := 5)).1 ?_
  refine callsIn_of_wp_marks Tryz.func60 rfl trivial ?_ rfl
  simp only [Tryz.ntmps60, List.size_toArray, List.length_cons, List.length_nil, Nat.reduceAdd, Nat.reduceSub, Array.replicate_succ, Array.replicate_zero, List.push_toArray, List.append_toArray, List.nil_append, List.cons_append]
  gi_wp2
  have hL0 : Has (((w.alloc (.cells #[.int .i64 0, .int .i64 0, .int .i64 0, .int .i64 0, .int .i64 0, .int .i64 0, .int .i64 0, .int .i64 0, .int .i64 0, .int .i64 0, .int .i64 0, .int .i64 0, .int .i64 0, .int .i64 0, .int .i64 0, .int .i64 0, .int .i64 0, .int .i64 0, .int .i64 0, .int .i64 0] 256)).alloc (.cells #[.slice (some ⟨w.heap.size, 0, none⟩) 5 5, .slice none 0 0, .int .i64 1] 254)).alloc (.cells #[.pointer (some ⟨w.heap.size + 1, 0, none⟩)] 130)) w.heap.size 256 (initA 0) := ((Has.new w _ _).alloc _).alloc _
  have hA0 : Has (((w.alloc (.cells #[.int .i64 0, .int .i64 0, .int .i64 0, .int .i64 0, .int .i64 0, .int .i64 0, .int .i64 0, .int .i64 0, .int .i64 0, .int .i64 0, .int .i64 0, .int .i64 0, .int .i64 0, .int .i64 0, .int .i64 0, .int .i64 0, .int .i64 0, .int .i64 0, .int .i64 0, .int .i64 0] 256)).alloc (.cells #[.slice (some ⟨w.heap.size, 0, none⟩) 5 5, .slice none 0 0, .int .i64 1] 254)).alloc (.cells #[.pointer (some ⟨w.heap.size + 1, 0, none⟩)] 130)) (w.heap.size + 1) 254 #[.slice (some ⟨w.heap.size, 0, none⟩) 5 5, .slice none 0 0, .int .i64 1] := (has_made (by simp)).alloc _
  have hX0 : Has (((w.alloc (.cells #[.int .i64 0, .int .i64 0, .int .i64 0, .int .i64 0, .int .i64 0, .int .i64 0, .int .i64 0, .int .i64 0, .int .i64 0, .int .i64 0, .int .i64 0, .int .i64 0, .int .i64 0, .int .i64 0, .int .i64 0, .int .i64 0, .int .i64 0, .int .i64 0, .int .i64 0, .int .i64 0] 256)).alloc (.cells #[.slice (some ⟨w.heap.size, 0, none⟩) 5 5, .slice none 0 0, .int .i64 1] 254)).alloc (.cells #[.pointer (some ⟨w.heap.size + 1, 0, none⟩)] 130)) (w.heap.size + 1 + 1) 130 #[.pointer (some ⟨w.heap.size + 1, 0, none⟩)] := has_made (by simp)
  have hb0 := (((Below.refl w.heap.size w).alloc (Nat.le_refl _) (.cells #[.int .i64 0, .int .i64 0, .int .i64 0, .int .i64 0, .int .i64 0, .int .i64 0, .int .i64 0, .int .i64 0, .int .i64 0, .int .i64 0, .int .i64 0, .int .i64 0, .int .i64 0, .int .i64 0, .int .i64 0, .int .i64 0, .int .i64 0, .int .i64 0, .int .i64 0, .int .i64 0] 256)).alloc (by simp) (.cells #[.slice (some ⟨w.heap.size, 0, none⟩) 5 5, .slice none 0 0, .int .i64 1] 254)).alloc (by simp; omega) (.cells #[.pointer (some ⟨w.heap.size + 1, 0, none⟩)] 130)
  obtain ⟨w0, hw0⟩ : ∃ W, W = (((w.alloc (.cells #[.int .i64 0, .int .i64 0, .int .i64 0, .int .i64 0, .int .i64 0, .int .i64 0, .int .i64 0, .int .i64 0, .int .i64 0, .int .i64 0, .int .i64 0, .int .i64 0, .int .i64 0, .int .i64 0, .int .i64 0, .int .i64 0, .int .i64 0, .int .i64 0, .int .i64 0, .int .i64 0] 256)).alloc (.cells #[.slice (some ⟨w.heap.size, 0, none⟩) 5 5, .slice none 0 0, .int .i64 1] 254)).alloc (.cells #[.pointer (some ⟨w.heap.size + 1, 0, none⟩)] 130)) := ⟨_, rfl⟩
  rw [← hw0] at hL0 hA0 hX0 hb0 ⊢
  clear hw0 hmk
  gi_loopw [7, 34] (fun _ i wr => ∃ j : Nat, j ≤ 5 ∧ i = .int .i64 j ∧ Has wr w.heap.size 256 (initA j) ∧ Has wr (w.heap.size + 1) 254 #[.slice (some ⟨w.heap.size, 0, none⟩) 5 5, .slice none 0 0, .int .i64 1] ∧ Has wr (w.heap.size + 1 + 1) 130 #[.pointer (some ⟨w.heap.size + 1, 0, none⟩)] ∧ Below w.heap.size w wr) (fun _ i _ => 5 - (intOf i).toNat)
  case atStart => exact ⟨0, by omega, rfl, hL0, hA0, hX0, hb0⟩
  case round =>
    clear hL0 hA0 hX0 hb0
    obtain ⟨j, hj, rfl, hL, hA, hX, hb⟩ := hrel
    have x0 := hX.cell 0
    have a0 := hA.cell 0
    simp at x0 a0
    obtain rfl | rfl | rfl | rfl | rfl | rfl : j = 0 ∨ j = 1 ∨ j = 2 ∨ j = 3 ∨ j = 4 ∨ j = 5 := by omega
    · have hL' : Has wr w.heap.size 256 #[.int .i64 0, .int .i64 0, .int .i64 0, .int .i64 0, .int .i64 0, .int .i64 0, .int .i64 0, .int .i64 0, .int .i64 0, .int .i64 0, .int .i64 0, .int .i64 0, .int .i64 0, .int .i64 0, .int .i64 0, .int .i64 0, .int .i64 0, .int .i64 0, .int .i64 0, .int .i64 0] := hL
      clear hL hj
      have l0 := hL'.cell 0
      have f0 := hL'.free 0
      have l1 := hL'.cell 1
      have f1 := hL'.free 1
      have l2 := hL'.cell 2
      have f2 := hL'.free 2
      have l3 := hL'.cell 3
      have f3 := hL'.free 3
      simp at l0 l1 l2 l3
      gi_wp2
      go_roundw
      case rel =>
        refine ⟨0 + 1, by omega, rfl, ?_, (((hA.setOther 0 (by omega) (.int .i64 0)).setOther 1 (by omega) (.int .i64 0)).setOther 2 (by omega) (.int .i64 0)).setOther 3 (by omega) (.int .i64 0), (((hX.setOther 0 (by omega) (.int .i64 0)).setOther 1 (by omega) (.int .i64 0)).setOther 2 (by omega) (.int .i64 0)).setOther 3 (by omega) (.int .i64 0), (((hb.setCell (p := ⟨w.heap.size, 0, none⟩) (Nat.le_refl _) (.int .i64 0)).setCell (p := ⟨w.heap.size, 1, none⟩) (Nat.le_refl _) (.int .i64 0)).setCell (p := ⟨w.heap.size, 2, none⟩) (Nat.le_refl _) (.int .i64 0)).setCell (p := ⟨w.heap.size, 3, none⟩) (Nat.le_refl _) (.int .i64 0)⟩
        have := (((hL'.set 0 (.int .i64 0)).set 1 (.int .i64 0)).set 2 (.int .i64 0)).set 3 (.int .i64 0)
        show Has _ _ _ #[.int .i64 0, .int .i64 0, .int .i64 0, .int .i64 0, .int .i64 0, .int .i64 0, .int .i64 0, .int .i64 0, .int .i64 0, .int .i64 0, .int .i64 0, .int .i64 0, .int .i64 0, .int .i64 0, .int .i64 0, .int .i64 0, .int .i64 0, .int .i64 0, .int .i64 0, .int .i64 0]
        simpa using this
      case measure => simp [intOf]
    · have hL' : Has wr w.heap.size 256 #[.int .i64 0, .int .i64 0, .int .i64 0, .int .i64 0, .int .i64 0, .int .i64 0, .int .i64 0, .int .i64 0, .int .i64 0, .int .i64 0, .int .i64 0, .int .i64 0, .int .i64 0, .int .i64 0, .int .i64 0, .int .i64 0, .int .i64 0, .int .i64 0, .int .i64 0, .int .i64 0] := hL
      clear hL hj
      have l0 := hL'.cell 4
      have f0 := hL'.free 4
      have l1 := hL'.cell 5
      have f1 := hL'.free 5
      have l2 := hL'.cell 6
      have f2 := hL'.free 6
      have l3 := hL'.cell 7
      have f3 := hL'.free 7
      simp at l0 l1 l2 l3
      gi_wp2
      go_roundw
      case rel =>
        refine ⟨1 + 1, by omega, rfl, ?_, (((hA.setOther 4 (by omega) (.int .i64 0)).setOther 5 (by omega) (.int .i64 1)).setOther 6 (by omega) (.int .i64 1)).setOther 7 (by omega) (.int .i64 1), (((hX.setOther 4 (by omega) (.int .i64 0)).setOther 5 (by omega) (.int .i64 1)).setOther 6 (by omega) (.int .i64 1)).setOther 7 (by omega) (.int .i64 1), (((hb.setCell (p := ⟨w.heap.size, 4, none⟩) (Nat.le_refl _) (.int .i64 0)).setCell (p := ⟨w.heap.size, 5, none⟩) (Nat.le_refl _) (.int .i64 1)).setCell (p := ⟨w.heap.size, 6, none⟩) (Nat.le_refl _) (.int .i64 1)).setCell (p := ⟨w.heap.size, 7, none⟩) (Nat.le_refl _) (.int .i64 1)⟩
        have := (((hL'.set 4 (.int .i64 0)).set 5 (.int .i64 1)).set 6 (.int .i64 1)).set 7 (.int .i64 1)
        show Has _ _ _ #[.int .i64 0, .int .i64 0, .int .i64 0, .int .i64 0, .int .i64 0, .int .i64 1, .int .i64 1, .int .i64 1, .int .i64 0, .int .i64 0, .int .i64 0, .int .i64 0, .int .i64 0, .int .i64 0, .int .i64 0, .int .i64 0, .int .i64 0, .int .i64 0, .int .i64 0, .int .i64 0]
        simpa using this
      case measure => simp [intOf]
    · have hL' : Has wr w.heap.size 256 #[.int .i64 0, .int .i64 0, .int .i64 0, .int .i64 0, .int .i64 0, .int .i64 1, .int .i64 1, .int .i64 1, .int .i64 0, .int .i64 0, .int .i64 0, .int .i64 0, .int .i64 0, .int .i64 0, .int .i64 0, .int .i64 0, .int .i64 0, .int .i64 0, .int .i64 0, .int .i64 0] := hL
      clear hL hj
      have l0 := hL'.cell 8
      have f0 := hL'.free 8
      have l1 := hL'.cell 9
      have f1 := hL'.free 9
      have l2 := hL'.cell 10
      have f2 := hL'.free 10
      have l3 := hL'.cell 11
      have f3 := hL'.free 11
      simp at l0 l1 l2 l3
      gi_wp2
      go_roundw
      case rel =>
        refine ⟨2 + 1, by omega, rfl, ?_, (((hA.setOther 8 (by omega) (.int .i64 0)).setOther 9 (by omega) (.int .i64 2)).setOther 10 (by omega) (.int .i64 2)).setOther 11 (by omega) (.int .i64 2), (((hX.setOther 8 (by omega) (.int .i64 0)).setOther 9 (by omega) (.int .i64 2)).setOther 10 (by omega) (.int .i64 2)).setOther 11 (by omega) (.int .i64 2), (((hb.setCell (p := ⟨w.heap.size, 8, none⟩) (Nat.le_refl _) (.int .i64 0)).setCell (p := ⟨w.heap.size, 9, none⟩) (Nat.le_refl _) (.int .i64 2)).setCell (p := ⟨w.heap.size, 10, none⟩) (Nat.le_refl _) (.int .i64 2)).setCell (p := ⟨w.heap.size, 11, none⟩) (Nat.le_refl _) (.int .i64 2)⟩
        have := (((hL'.set 8 (.int .i64 0)).set 9 (.int .i64 2)).set 10 (.int .i64 2)).set 11 (.int .i64 2)
        show Has _ _ _ #[.int .i64 0, .int .i64 0, .int .i64 0, .int .i64 0, .int .i64 0, .int .i64 1, .int .i64 1, .int .i64 1, .int .i64 0, .int .i64 2, .int .i64 2, .int .i64 2, .int .i64 0, .int .i64 0, .int .i64 0, .int .i64 0, .int .i64 0, .int .i64 0, .int .i64 0, .int .i64 0]
        simpa using this
      case measure => simp [intOf]
    · have hL' : Has wr w.heap.size 256 #[.int .i64 0, .int .i64 0, .int .i64 0, .int .i64 0, .int .i64 0, .int .i64 1, .int .i64 1, .int .i64 1, .int .i64 0, .int .i64 2, .int .i64 2, .int .i64 2, .int .i64 0, .int .i64 0, .int .i64 0, .int .i64 0, .int .i64 0, .int .i64 0, .int .i64 0, .int .i64 0] := hL
      clear hL hj
      have l0 := hL'.cell 12
      have f0 := hL'.free 12
      have l1 := hL'.cell 13
      have f1 := hL'.free 13
      have l2 := hL'.cell 14
      have f2 := hL'.free 14
      have l3 := hL'.cell 15
      have f3 := hL'.free 15
      simp at l0 l1 l2 l3
      gi_wp2
      go_roundw
      case rel =>
        refine ⟨3 + 1, by omega, rfl, ?_, (((hA.setOther 12 (by omega) (.int .i64 0)).setOther 13 (by omega) (.int .i64 3)).setOther 14 (by omega) (.int .i64 3)).setOther 15 (by omega) (.int .i64 3), (((hX.setOther 12 (by omega) (.int .i64 0)).setOther 13 (by omega) (.int .i64 3)).setOther 14 (by omega) (.int .i64 3)).setOther 15 (by omega) (.int .i64 3), (((hb.setCell (p := ⟨w.heap.size, 12, none⟩) (Nat.le_refl _) (.int .i64 0)).setCell (p := ⟨w.heap.size, 13, none⟩) (Nat.le_refl _) (.int .i64 3)).setCell (p := ⟨w.heap.size, 14, none⟩) (Nat.le_refl _) (.int .i64 3)).setCell (p := ⟨w.heap.size, 15, none⟩) (Nat.le_refl _) (.int .i64 3)⟩
        have := (((hL'.set 12 (.int .i64 0)).set 13 (.int .i64 3)).set 14 (.int .i64 3)).set 15 (.int .i64 3)
        show Has _ _ _ #[.int .i64 0, .int .i64 0, .int .i64 0, .int .i64 0, .int .i64 0, .int .i64 1, .int .i64 1, .int .i64 1, .int .i64 0, .int .i64 2, .int .i64 2, .int .i64 2, .int .i64 0, .int .i64 3, .int .i64 3, .int .i64 3, .int .i64 0, .int .i64 0, .int .i64 0, .int .i64 0]
        simpa using this
      case measure => simp [intOf]
    · have hL' : Has wr w.heap.size 256 #[.int .i64 0, .int .i64 0, .int .i64 0, .int .i64 0, .int .i64 0, .int .i64 1, .int .i64 1, .int .i64 1, .int .i64 0, .int .i64 2, .int .i64 2, .int .i64 2, .int .i64 0, .int .i64 3, .int .i64 3, .int .i64 3, .int .i64 0, .int .i64 0, .int .i64 0, .int .i64 0] := hL
      clear hL hj
      have l0 := hL'.cell 16
      have f0 := hL'.free 16
      have l1 := hL'.cell 17
      have f1 := hL'.free 17
      have l2 := hL'.cell 18
      have f2 := hL'.free 18
      have l3 := hL'.cell 19
      have f3 := hL'.free 19
      simp at l0 l1 l2 l3
      gi_wp2
      go_roundw
      case rel =>
        refine ⟨4 + 1, by omega, rfl, ?_, (((hA.setOther 16 (by omega) (.int .i64 0)).setOther 17 (by omega) (.int .i64 4)).setOther 18 (by omega) (.int .i64 4)).setOther 19 (by omega) (.int .i64 4), (((hX.setOther 16 (by omega) (.int .i64 0)).setOther 17 (by omega) (.int .i64 4)).setOther 18 (by omega) (.int .i64 4)).setOther 19 (by omega) (.int .i64 4), (((hb.setCell (p := ⟨w.heap.size, 16, none⟩) (Nat.le_refl _) (.int .i64 0)).setCell (p := ⟨w.heap.size, 17, none⟩) (Nat.le_refl _) (.int .i64 4)).setCell (p := ⟨w.heap.size, 18, none⟩) (Nat.le_refl _) (.int .i64 4)).setCell (p := ⟨w.heap.size, 19, none⟩) (Nat.le_refl _) (.int .i64 4)⟩
        have := (((hL'.set 16 (.int .i64 0)).set 17 (.int .i64 4)).set 18 (.int .i64 4)).set 19 (.int .i64 4)
        show Has _ _ _ #[.int .i64 0, .int .i64 0, .int .i64 0, .int .i64 0, .int .i64 0, .int .i64 1, .int .i64 1, .int .i64 1, .int .i64 0, .int .i64 2, .int .i64 2, .int .i64 2, .int .i64 0, .int .i64 3, .int .i64 3, .int .i64 3, .int .i64 0, .int .i64 4, .int .i64 4, .int .i64 4]
        simpa using this
      case measure => simp [intOf]
    · have h5 : ¬ ((5 : Nat) : Int) < 5 := by decide
      clear hj
      gi_wp2
      refine ⟨trivial, (callsIn_wide.2 (falling_c _ _ _)).mono ?_⟩
      rintro e w' ⟨rfl, rfl⟩
      have hF : Has ((wr.alloc (.cells #[.int .i64 5] 3)).alloc (.cells #[.int .i64 1] 3)) wr.heap.size 3 #[.int .i64 5] := (Has.new wr _ _).alloc _
      have hT : Has ((wr.alloc (.cells #[.int .i64 5] 3)).alloc (.cells #[.int .i64 1] 3)) (wr.heap.size + 1) 3 #[.int .i64 1] := has_made (by simp)
      have hL2 := (hL.alloc (.cells #[.int .i64 5] 3)).alloc (.cells #[.int .i64 1] 3)
      have hA2 := (hA.alloc (.cells #[.int .i64 5] 3)).alloc (.cells #[.int .i64 1] 3)
      have hX2 := (hX.alloc (.cells #[.int .i64 5] 3)).alloc (.cells #[.int .i64 1] 3)
      have hb2 := (hb.alloc hb.size (.cells #[.int .i64 5] 3)).alloc (by have := hb.size; simp; omega) (.cells #[.int .i64 1] 3)
      have hs := hX.lt
      gi_wp2
      obtain ⟨wz, hwz⟩ : ∃ wz, wz = (wr.alloc (.cells #[.int .i64 5] 3)).alloc (.cells #[.int .i64 1] 3) := ⟨_, rfl⟩
      have sz : wz.heap.size = wr.heap.size + 1 + 1 := by rw [hwz]; simp
      rw [← hwz] at hF hT hL2 hA2 hX2 hb2 ⊢
      clear hwz hL hA hX hb x0 a0
      obtain ⟨bx, hbx⟩ : ∃ bx, bx = wr.heap.size := ⟨_, rfl⟩
      rw [← hbx] at hF hT hs sz ⊢
      clear hbx
      have SQ := falling_seq (fun b => b = bx ∨ b = bx + 1) bx (bx + 1) hF hT (.inl rfl) (.inr rfl)
      refine wp_rangeL (gf := 163) (lb := #[.pointer (some ⟨bx, 0, none⟩), .pointer (some ⟨bx + 1, 0, none⟩)]) rfl (enters_of Tryz.func163 (by kernel_rfl) rfl) SQ (Below.refl _ _) (fun b h => by omega) (fun _ => rfl)
        (fun pre X => ∃ sv, Has X w.heap.size 256 (goneA pre) ∧ Has X (w.heap.size + 1) 254 #[.slice (some ⟨w.heap.size, 0, none⟩) 5 5, sv, .int .i64 1] ∧ Has X (w.heap.size + 1 + 1) 130 #[.pointer (some ⟨w.heap.size + 1, 0, none⟩)] ∧ Row (fun b => w.heap.size ≤ b ∧ b ≠ bx ∧ b ≠ bx + 1) X 3 1 sv pre.length (pre.map (.int .i64)) ∧ wz.heap.size ≤ X.heap.size ∧ Below w.heap.size w X) (fun _ _ _ => False)
        (fun s X Y row hs hg hr => ?own)
        (fun _ _ _ _ _ h _ _ => h) ⟨_, hL2, hA2, hX2, Row.nil _ _ _ _, Nat.le_refl _, hb2⟩ ?round ?done ?stop
      case own =>
        obtain ⟨sv, q1, q2, q3, q4, q5, q6⟩ := hs
        have KK : Keep (fun _ => True) X Y := Keep.grown hg hr
        exact ⟨sv, KK _ _ _ trivial q1, KK _ _ _ trivial q2, KK _ _ _ trivial q3, q4.keepH (fun b t xs _ h => KK b t xs trivial h), Nat.le_trans q5 hg.size, ownFrom_below (β := List Int) (Nat.le_refl _) (by have := hb2.size; omega) s X Y row q6 hg hr⟩
      case round =>
        intro y m pre x X0 hpre
        gi_wp2
        refine ⟨trivial, ?_⟩
        clear X0
        rintro X ⟨sv, hL3, hA3, hX3, hR3, hz3, hb3⟩
        have hxm : x ∈ fallL := hpre.subset (by simp)
        obtain ⟨q, rfl, hq1, hq4⟩ : ∃ q : Nat, x = (q : Int) ∧ 1 ≤ q ∧ q ≤ 4 := by
          simp only [fallL, List.mem_cons, List.not_mem_nil, or_false] at hxm
          exact ⟨x.toNat, by omega, by omega, by omega⟩
        have hlen : pre.length < 4 := by have := hpre.length_le; simp [fallL] at this; omega
        clear hxm hpre hF hT hL2 hA2 hX2 hb2 SQ
        have x0 := hX3.cell 0
        have a0 := hA3.cell 0
        simp at x0 a0
        have hqz : (goneA pre).size = 20 := goneA_size pre
        obtain ⟨v, hv⟩ : ∃ v, (goneA pre)[q * 4]? = some v := ⟨_, Array.getElem?_eq_getElem (by omega)⟩
        have l0 : X.cell? ⟨w.heap.size, q * 4, none⟩ = some v := (hL3.cell (q * 4)).trans hv
        have f0 := hL3.free (q * 4)
        gi_wp2
        obtain ⟨A, hAe⟩ : ∃ A, A = w.heap.size + 1 := ⟨_, rfl⟩
        obtain ⟨B, hBe⟩ : ∃ B, B = w.heap.size + 1 + 1 := ⟨_, rfl⟩
        obtain ⟨X1, hX1⟩ : ∃ W, W = X.setCell ⟨w.heap.size, q * 4, none⟩ (.int .i64 q) := ⟨_, rfl⟩
        have kX : KB wz.heap.size (fun b => b = bx ∨ b = bx + 1) X X1 := by rw [hX1]; exact (KB.refl _ _ X).set (by omega) hL3 _ _
        have hL4 : Has X1 w.heap.size 256 (goneA (pre ++ [(q : Int)])) := by rw [hX1, goneA_snoc]; simpa using hL3.set (q * 4) (.int .i64 q)
        have hA4 : Has X1 A 254 #[.slice (some ⟨w.heap.size, 0, none⟩) 5 5, sv, .int .i64 1] := by rw [hX1, hAe]; exact hA3.setOther _ (by omega) _
        have hB4 : Has X1 B 130 #[.pointer (some ⟨A, 0, none⟩)] := by rw [hX1, hBe, hAe]; exact hX3.setOther _ (by omega) _
        have hR4 : Row (fun b => w.heap.size ≤ b ∧ b ≠ bx ∧ b ≠ bx + 1) X1 3 1 sv pre.length (pre.map (.int .i64)) := by
          have hne := hR3.ne hL3 (by decide)
          rw [hX1]
          refine ⟨?_, hR3.2⟩
          obtain ⟨⟨h1, h2⟩, h3⟩ := hR3
          refine ⟨h1, h2.imp id ?_⟩
          rintro ⟨g, cap, cur, rfl, q0, q1, q2⟩
          exact ⟨g, cap, cur, rfl, q0, (Below.heap_setCell _ _ _ _ (fun e => hne (by rw [show g = w.heap.size from e]; rfl))).trans q1, q2⟩
        have hz4 : wz.heap.size ≤ X1.heap.size := by rw [hX1]; simpa using hz3
        have hb4 : Below w.heap.size w X1 := by rw [hX1]; exact hb3.setCell (p := ⟨w.heap.size, q * 4, none⟩) (Nat.le_refl _) _
        rw [← hX1, ← hBe, ← hAe]
        clear hX1 hL3 hA3 hX3 hR3 hz3 hb3 x0 a0 l0 f0 hv hqz
        have FIN : Hid (∀ g cap (W1 : World), W1.ownsRow 0 3 1 (.slice (some ⟨g, 0, none⟩) (pre.length + 1) cap) (pre.length + 1) (pre.map (.int .i64) ++ [.int .i64 (q : Int)]) → (X1.drew.alloc (.cells #[.int .i64 (q : Int)] 3)).grownBy W1 sv.ownBlock → (sv.ownBlock = some g ∨ g = X1.heap.size + 1) →
            Has W1 A 254 #[.slice (some ⟨w.heap.size, 0, none⟩) 5 5, sv, .int .i64 1] ∧ Has W1 B 130 #[.pointer (some ⟨A, 0, none⟩)] ∧
            KB wz.heap.size (fun b => b = bx ∨ b = bx + 1) X (W1.setCell ⟨A, 1, none⟩ (.slice (some ⟨g, 0, none⟩) (pre.length + 1) cap)) ∧
            ∃ sv', Has (W1.setCell ⟨A, 1, none⟩ (.slice (some ⟨g, 0, none⟩) (pre.length + 1) cap)) w.heap.size 256 (goneA (pre ++ [(q : Int)])) ∧ Has (W1.setCell ⟨A, 1, none⟩ (.slice (some ⟨g, 0, none⟩) (pre.length + 1) cap)) (w.heap.size + 1) 254 #[.slice (some ⟨w.heap.size, 0, none⟩) 5 5, sv', .int .i64 1] ∧ Has (W1.setCell ⟨A, 1, none⟩ (.slice (some ⟨g, 0, none⟩) (pre.length + 1) cap)) (w.heap.size + 1 + 1) 130 #[.pointer (some ⟨w.heap.size + 1, 0, none⟩)] ∧ Row (fun b => w.heap.size ≤ b ∧ b ≠ bx ∧ b ≠ bx + 1) (W1.setCell ⟨A, 1, none⟩ (.slice (some ⟨g, 0, none⟩) (pre.length + 1) cap)) 3 1 sv' (pre ++ [(q : Int)]).length ((pre ++ [(q : Int)]).map (.int .i64)) ∧ wz.heap.size ≤ (W1.setCell ⟨A, 1, none⟩ (.slice (some ⟨g, 0, none⟩) (pre.length + 1) cap)).heap.size ∧ Below w.heap.size w (W1.setCell ⟨A, 1, none⟩ (.slice (some ⟨g, 0, none⟩) (pre.length + 1) cap))) := by
          intro g cap W1 own G hat
          have gl := G.size
          simp at gl
          have aL := hL4.lt
          have aA := hA4.lt
          have aB := hB4.lt
          have nL := hR4.ne hL4 (by decide)
          have nA := hR4.ne hA4 (by decide)
          have nB := hR4.ne hB4 (by decide)
          have up : ∀ k, k < X1.heap.size → sv.ownBlock ≠ some k → W1.heap[k]? = X1.heap[k]? := fun k hk hn => (G.block k (by simp; omega) (fun e => hn e.symm)).trans (Below.heap_alloc X1.drew _ k hk)
          have hL5 : Has W1 w.heap.size 256 (goneA (pre ++ [(q : Int)])) := (up _ aL nL).trans hL4
          have hA5 : Has W1 A 254 #[.slice (some ⟨w.heap.size, 0, none⟩) 5 5, sv, .int .i64 1] := (up _ aA nA).trans hA4
          have hB5 : Has W1 B 130 #[.pointer (some ⟨A, 0, none⟩)] := (up _ aB nB).trans hB4
          have gne : w.heap.size ≤ g ∧ g ≠ bx ∧ g ≠ bx + 1 := by
            rcases hat with e | e
            · exact hR4.2 g e
            · omega
          have gA : g ≠ A := by
            rcases hat with e | e
            · rintro rfl; exact nA e
            · omega
          have kX1 : KB wz.heap.size (fun b => b = bx ∨ b = bx + 1) X W1 := kX.trans ⟨by omega, fun k hk hq => up k hk (fun e => by
            rcases hq with hq | ⟨_, o, q1, q2⟩
            · have := hR4.2 k e; omega
            · obtain ⟨⟨h1, h2⟩, h3⟩ := hR4
              rcases h2 with ⟨rfl, _⟩ | ⟨g', cap', cur', rfl, _, q3, _⟩
              · cases e
              · cases e
                rw [q3] at q1
                cases q1
                cases q2)⟩
          refine ⟨hA5, hB5, kX1.set (by omega) hA5 _ _, .slice (some ⟨g, 0, none⟩) (pre.length + 1) cap, hL5.setOther _ (by omega) _, ?_, ?_, ⟨?_, fun b e => by cases e; exact gne⟩, by simp; omega, ?_⟩
          · have := hA5.set 1 (.slice (some ⟨g, 0, none⟩) (pre.length + 1) cap)
            rw [hAe] at this ⊢
            simpa using this
          · have := hB5.setOther (c := A) 1 (by omega) (.slice (some ⟨g, 0, none⟩) (pre.length + 1) cap)
            rw [hBe, hAe] at this
            rw [hAe]
            exact this
          · rcases own.2 with ⟨q', _⟩ | ⟨g', cp, cur, e, hg, hh, rest⟩
            · simp at q'
            · cases e
              refine ⟨by simp, .inr ⟨g, cap, cur, by simp, hg, (Below.heap_setCell _ _ _ _ (by show g ≠ A; exact gA)).trans hh, ?_⟩⟩
              simpa using rest
          · refine (Below.setCell (p := ⟨A, 1, none⟩) ?_ (by show w.heap.size ≤ A; omega) _)
            exact ⟨G.os.trans hb4.os, G.tape.trans hb4.tape, G.output.trans hb4.output, by have := hb4.size; omega, fun k hk => (up k (by have := hb4.size; omega) (fun e => by have := hR4.2 k e; omega)).trans (hb4.block k hk)⟩
        have x0 := hB4.cell 0
        have a1 := hA4.cell 1
        have f1 := hA4.free 1
        simp at x0 a1
        have OWN := hR4.1
        obtain ⟨i0, hi0, hzz0, hss0, hbb0⟩ := info_parts info3
        have hlA := hA4.lt
        have hlB := hB4.lt
        clear kX hL4 hA4 hB4 hR4 hz4 hb4 hAe hBe
        have hmo : Tryz.prog.follows .mixedOrders = true := by kernel_rfl
        refine wpIn_region_any hmo ?_
        change wpAnyIn _ _ _ _ _ _ _ _ _ (World.drew _)
        refine any_round (F := Fence.wide) (by kernel_rfl) _ _ _ _ ?_
        refine wpAnyIn_take (i := 5) (v := .int .i64 (q : Int)) rfl rfl (by kernel_rfl) (by kernel_rfl) (by kernel_rfl) (fun _ _ _ h => h) ⟨Or.inl ⟨by rfl, ?_⟩, fun _ => rfl⟩ ?_
        · intro W0; go_simp
        refine wpAnyIn_ready (rs := [0, 1, 6]) (by kernel_rfl) (by simp) (AllReadyIn.cons rfl (fun K hK => ?_) (AllReadyIn.cons rfl (fun K hK => ?_) (AllReadyIn.cons rfl (fun K hK => ?_) AllReadyIn.nil)))
        · go_simp
          refine hK _ _ ?_
          clear hK K
          refine wpAnyIn_ready (rs := [1, 6]) (by kernel_rfl) (by simp) (AllReadyIn.cons rfl (fun K hK => ?_) (AllReadyIn.cons rfl (fun K hK => ?_) AllReadyIn.nil))
          · go_simp
            refine hK _ _ ?_
            clear hK K
            refine wpAnyIn_take (i := 2) (v := .pointer (some ⟨A, 0, none⟩)) rfl rfl (by kernel_rfl) (by kernel_rfl) (by kernel_rfl) (fun _ _ _ h => h) ⟨Or.inl ⟨by rfl, ?_⟩, fun _ => rfl⟩ ?_
            · intro W0; go_simp
            refine wpAnyIn_take (i := 3) (v := .pointer (some ⟨A, 1, none⟩)) rfl rfl (by kernel_rfl) (by kernel_rfl) (by kernel_rfl) (fun _ _ _ h => h) ⟨Or.inl ⟨by rfl, ?_⟩, fun _ => rfl⟩ ?_
            · intro W0; go_simp
            refine wpAnyIn_ready (rs := [4, 6]) (by kernel_rfl) (by simp) (AllReadyIn.cons rfl (fun K hK => ?_) (AllReadyIn.cons rfl (fun K hK => ?_) AllReadyIn.nil))
            · go_simp
              refine hK _ _ ?_
              clear hK K
              refine wpAnyIn_ready (rs := [6]) (by kernel_rfl) (by simp) (AllReadyIn.cons rfl (fun K hK => ?_) AllReadyIn.nil)
              · go_simp
                refine hK _ _ ?_
                clear hK K
                refine wpAnyIn_ready (rs := [7]) (by kernel_rfl) (by simp) (AllReadyIn.cons rfl (fun K hK => ?_) AllReadyIn.nil)
                · rw [if_pos (by simp [Region.wanted])]
                  refine oper_in (by intro c e; cases e) ?_
                  refine wp_append_lies _ _ _ 114 rfl 0 3 i0 _ 1 8 Tryz.underlying114 hi0 hzz0 hss0 hbb0 rfl (by decide) _ pre.length _ rfl (OWN.alloc _) ⟨X1.heap.size, 0, none⟩ 1 1 [.int .i64 (q : Int)] rfl rfl (cell_one_new _ _ _) (by simp [Value.oneCell']) (by omega) (by unfold maxLen; omega) (by omega) (by simp) (X1.heap.size + 1) (by simp) ?_
                  intro g cap W1 own G hat hlt
                  obtain ⟨F1, F2, F4⟩ := FIN.out g cap W1 own G hat
                  have x2 := F2.cell 0
                  have a2 := F1.cell 1
                  have f2 := F1.free 1
                  simp at x2 a2
                  refine hK _ _ ?_
                  clear hK K
                  refine wpAnyIn_take (i := 8) (v := .pointer (some ⟨A, 0, none⟩)) rfl rfl (by kernel_rfl) (by kernel_rfl) (by kernel_rfl) (fun _ _ _ h => h) ⟨Or.inl ⟨by rfl, ?_⟩, fun _ => rfl⟩ ?_
                  · intro W0; go_simp
                  refine wpAnyIn_take (i := 9) (v := .pointer (some ⟨A, 1, none⟩)) rfl rfl (by kernel_rfl) (by kernel_rfl) (by kernel_rfl) (fun _ _ _ h => h) ⟨Or.inl ⟨by rfl, ?_⟩, fun _ => rfl⟩ ?_
                  · intro W0; go_simp
                  refine wpAnyIn_ready (rs := [10]) (by kernel_rfl) (by simp) (AllReadyIn.cons rfl (fun K hK => ?_) AllReadyIn.nil)
                  · go_simp
                    refine hK _ _ ?_
                    clear hK K
                    refine wpAnyIn_done (by kernel_rfl) ?_ _
                    gi_wp2
                    exact ⟨F4.1, F4.2⟩
            · go_simp
              refine hK _ _ ?_
              clear hK K
              refine wpAnyIn_ready (rs := [4]) (by kernel_rfl) (by simp) (AllReadyIn.cons rfl (fun K hK => ?_) AllReadyIn.nil)
              · go_simp
                refine hK _ _ ?_
                clear hK K
                refine wpAnyIn_ready (rs := [7]) (by kernel_rfl) (by simp) (AllReadyIn.cons rfl (fun K hK => ?_) AllReadyIn.nil)
                · rw [if_pos (by simp [Region.wanted])]
                  refine oper_in (by intro c e; cases e) ?_
                  refine wp_append_lies _ _ _ 114 rfl 0 3 i0 _ 1 8 Tryz.underlying114 hi0 hzz0 hss0 hbb0 rfl (by decide) _ pre.length _ rfl (OWN.alloc _) ⟨X1.heap.size, 0, none⟩ 1 1 [.int .i64 (q : Int)] rfl rfl (cell_one_new _ _ _) (by simp [Value.oneCell']) (by omega) (by unfold maxLen; omega) (by omega) (by simp) (X1.heap.size + 1) (by simp) ?_
                  intro g cap W1 own G hat hlt
                  obtain ⟨F1, F2, F4⟩ := FIN.out g cap W1 own G hat
                  have x2 := F2.cell 0
                  have a2 := F1.cell 1
                  have f2 := F1.free 1
                  simp at x2 a2
                  refine hK _ _ ?_
                  clear hK K
                  refine wpAnyIn_take (i := 8) (v := .pointer (some ⟨A, 0, none⟩)) rfl rfl (by kernel_rfl) (by kernel_rfl) (by kernel_rfl) (fun _ _ _ h => h) ⟨Or.inl ⟨by rfl, ?_⟩, fun _ => rfl⟩ ?_
                  · intro W0; go_simp
                  refine wpAnyIn_take (i := 9) (v := .pointer (some ⟨A, 1, none⟩)) rfl rfl (by kernel_rfl) (by kernel_rfl) (by kernel_rfl) (fun _ _ _ h => h) ⟨Or.inl ⟨by rfl, ?_⟩, fun _ => rfl⟩ ?_
                  · intro W0; go_simp
                  refine wpAnyIn_ready (rs := [10]) (by kernel_rfl) (by simp) (AllReadyIn.cons rfl (fun K hK => ?_) AllReadyIn.nil)
                  · go_simp
                    refine hK _ _ ?_
                    clear hK K
                    refine wpAnyIn_done (by kernel_rfl) ?_ _
                    gi_wp2
                    exact ⟨F4.1, F4.2⟩
          · go_simp
            refine hK _ _ ?_
            clear hK K
            refine wpAnyIn_ready (rs := [1]) (by kernel_rfl) (by simp) (AllReadyIn.cons rfl (fun K hK => ?_) AllReadyIn.nil)
            · go_simp
              refine hK _ _ ?_
              clear hK K
              refine wpAnyIn_take (i := 2) (v := .pointer (some ⟨A, 0, none⟩)) rfl rfl (by kernel_rfl) (by kernel_rfl) (by kernel_rfl) (fun _ _ _ h => h) ⟨Or.inl ⟨by rfl, ?_⟩, fun _ => rfl⟩ ?_
              · intro W0; go_simp
              refine wpAnyIn_take (i := 3) (v := .pointer (some ⟨A, 1, none⟩)) rfl rfl (by kernel_rfl) (by kernel_rfl) (by kernel_rfl) (fun _ _ _ h => h) ⟨Or.inl ⟨by rfl, ?_⟩, fun _ => rfl⟩ ?_
              · intro W0; go_simp
              refine wpAnyIn_ready (rs := [4]) (by kernel_rfl) (by simp) (AllReadyIn.cons rfl (fun K hK => ?_) AllReadyIn.nil)
              · go_simp
                refine hK _ _ ?_
                clear hK K
                refine wpAnyIn_ready (rs := [7]) (by kernel_rfl) (by simp) (AllReadyIn.cons rfl (fun K hK => ?_) AllReadyIn.nil)
                · rw [if_pos (by simp [Region.wanted])]
                  refine oper_in (by intro c e; cases e) ?_
                  refine wp_append_lies _ _ _ 114 rfl 0 3 i0 _ 1 8 Tryz.underlying114 hi0 hzz0 hss0 hbb0 rfl (by decide) _ pre.length _ rfl (OWN.alloc _) ⟨X1.heap.size, 0, none⟩ 1 1 [.int .i64 (q : Int)] rfl rfl (cell_one_new _ _ _) (by simp [Value.oneCell']) (by omega) (by unfold maxLen; omega) (by omega) (by simp) (X1.heap.size + 1) (by simp) ?_
                  intro g cap W1 own G hat hlt
                  obtain ⟨F1, F2, F4⟩ := FIN.out g cap W1 own G hat
                  have x2 := F2.cell 0
                  have a2 := F1.cell 1
                  have f2 := F1.free 1
                  simp at x2 a2
                  refine hK _ _ ?_
                  clear hK K
                  refine wpAnyIn_take (i := 8) (v := .pointer (some ⟨A, 0, none⟩)) rfl rfl (by kernel_rfl) (by kernel_rfl) (by kernel_rfl) (fun _ _ _ h => h) ⟨Or.inl ⟨by rfl, ?_⟩, fun _ => rfl⟩ ?_
                  · intro W0; go_simp
                  refine wpAnyIn_take (i := 9) (v := .pointer (some ⟨A, 1, none⟩)) rfl rfl (by kernel_rfl) (by kernel_rfl) (by kernel_rfl) (fun _ _ _ h => h) ⟨Or.inl ⟨by rfl, ?_⟩, fun _ => rfl⟩ ?_
                  · intro W0; go_simp
                  refine wpAnyIn_ready (rs := [10]) (by kernel_rfl) (by simp) (AllReadyIn.cons rfl (fun K hK => ?_) AllReadyIn.nil)
                  · go_simp
                    refine hK _ _ ?_
                    clear hK K
                    refine wpAnyIn_done (by kernel_rfl) ?_ _
                    gi_wp2
                    exact ⟨F4.1, F4.2⟩
        · go_simp
          refine hK _ _ ?_
          clear hK K
          refine wpAnyIn_take (i := 2) (v := .pointer (some ⟨A, 0, none⟩)) rfl rfl (by kernel_rfl) (by kernel_rfl) (by kernel_rfl) (fun _ _ _ h => h) ⟨Or.inl ⟨by rfl, ?_⟩, fun _ => rfl⟩ ?_
          · intro W0; go_simp
          refine wpAnyIn_take (i := 3) (v := .pointer (some ⟨A, 1, none⟩)) rfl rfl (by kernel_rfl) (by kernel_rfl) (by kernel_rfl) (fun _ _ _ h => h) ⟨Or.inl ⟨by rfl, ?_⟩, fun _ => rfl⟩ ?_
          · intro W0; go_simp
          refine wpAnyIn_ready (rs := [0, 4, 6]) (by kernel_rfl) (by simp) (AllReadyIn.cons rfl (fun K hK => ?_) (AllReadyIn.cons rfl (fun K hK => ?_) (AllReadyIn.cons rfl (fun K hK => ?_) AllReadyIn.nil)))
          · go_simp
            refine hK _ _ ?_
            clear hK K
            refine wpAnyIn_ready (rs := [4, 6]) (by kernel_rfl) (by simp) (AllReadyIn.cons rfl (fun K hK => ?_) (AllReadyIn.cons rfl (fun K hK => ?_) AllReadyIn.nil))
            · go_simp
              refine hK _ _ ?_
              clear hK K
              refine wpAnyIn_ready (rs := [6]) (by kernel_rfl) (by simp) (AllReadyIn.cons rfl (fun K hK => ?_) AllReadyIn.nil)
              · go_simp
                refine hK _ _ ?_
                clear hK K
                refine wpAnyIn_ready (rs := [7]) (by kernel_rfl) (by simp) (AllReadyIn.cons rfl (fun K hK => ?_) AllReadyIn.nil)
                · rw [if_pos (by simp [Region.wanted])]
                  refine oper_in (by intro c e; cases e) ?_
                  refine wp_append_lies _ _ _ 114 rfl 0 3 i0 _ 1 8 Tryz.underlying114 hi0 hzz0 hss0 hbb0 rfl (by decide) _ pre.length _ rfl (OWN.alloc _) ⟨X1.heap.size, 0, none⟩ 1 1 [.int .i64 (q : Int)] rfl rfl (cell_one_new _ _ _) (by simp [Value.oneCell']) (by omega) (by unfold maxLen; omega) (by omega) (by simp) (X1.heap.size + 1) (by simp) ?_
                  intro g cap W1 own G hat hlt
                  obtain ⟨F1, F2, F4⟩ := FIN.out g cap W1 own G hat
                  have x2 := F2.cell 0
                  have a2 := F1.cell 1
                  have f2 := F1.free 1
                  simp at x2 a2
                  refine hK _ _ ?_
                  clear hK K
                  refine wpAnyIn_take (i := 8) (v := .pointer (some ⟨A, 0, none⟩)) rfl rfl (by kernel_rfl) (by kernel_rfl) (by kernel_rfl) (fun _ _ _ h => h) ⟨Or.inl ⟨by rfl, ?_⟩, fun _ => rfl⟩ ?_
                  · intro W0; go_simp
                  refine wpAnyIn_take (i := 9) (v := .pointer (some ⟨A, 1, none⟩)) rfl rfl (by kernel_rfl) (by kernel_rfl) (by kernel_rfl) (fun _ _ _ h => h) ⟨Or.inl ⟨by rfl, ?_⟩, fun _ => rfl⟩ ?_
                  · intro W0; go_simp
                  refine wpAnyIn_ready (rs := [10]) (by kernel_rfl) (by simp) (AllReadyIn.cons rfl (fun K hK => ?_) AllReadyIn.nil)
                  · go_simp
                    refine hK _ _ ?_
                    clear hK K
                    refine wpAnyIn_done (by kernel_rfl) ?_ _
                    gi_wp2
                    exact ⟨F4.1, F4.2⟩
            · go_simp
              refine hK _ _ ?_
              clear hK K
              refine wpAnyIn_ready (rs := [4]) (by kernel_rfl) (by simp) (AllReadyIn.cons rfl (fun K hK => ?_) AllReadyIn.nil)
              · go_simp
                refine hK _ _ ?_
                clear hK K
                refine wpAnyIn_ready (rs := [7]) (by kernel_rfl) (by simp) (AllReadyIn.cons rfl (fun K hK => ?_) AllReadyIn.nil)
                · rw [if_pos (by simp [Region.wanted])]
                  refine oper_in (by intro c e; cases e) ?_
                  refine wp_append_lies _ _ _ 114 rfl 0 3 i0 _ 1 8 Tryz.underlying114 hi0 hzz0 hss0 hbb0 rfl (by decide) _ pre.length _ rfl (OWN.alloc _) ⟨X1.heap.size, 0, none⟩ 1 1 [.int .i64 (q : Int)] rfl rfl (cell_one_new _ _ _) (by simp [Value.oneCell']) (by omega) (by unfold maxLen; omega) (by omega) (by simp) (X1.heap.size + 1) (by simp) ?_
                  intro g cap W1 own G hat hlt
                  obtain ⟨F1, F2, F4⟩ := FIN.out g cap W1 own G hat
                  have x2 := F2.cell 0
                  have a2 := F1.cell 1
                  have f2 := F1.free 1
                  simp at x2 a2
                  refine hK _ _ ?_
                  clear hK K
                  refine wpAnyIn_take (i := 8) (v := .pointer (some ⟨A, 0, none⟩)) rfl rfl (by kernel_rfl) (by kernel_rfl) (by kernel_rfl) (fun _ _ _ h => h) ⟨Or.inl ⟨by rfl, ?_⟩, fun _ => rfl⟩ ?_
                  · intro W0; go_simp
                  refine wpAnyIn_take (i := 9) (v := .pointer (some ⟨A, 1, none⟩)) rfl rfl (by kernel_rfl) (by kernel_rfl) (by kernel_rfl) (fun _ _ _ h => h) ⟨Or.inl ⟨by rfl, ?_⟩, fun _ => rfl⟩ ?_
                  · intro W0; go_simp
                  refine wpAnyIn_ready (rs := [10]) (by kernel_rfl) (by simp) (AllReadyIn.cons rfl (fun K hK => ?_) AllReadyIn.nil)
                  · go_simp
                    refine hK _ _ ?_
                    clear hK K
                    refine wpAnyIn_done (by kernel_rfl) ?_ _
                    gi_wp2
                    exact ⟨F4.1, F4.2⟩
          · go_simp
            refine hK _ _ ?_
            clear hK K
            refine wpAnyIn_ready (rs := [0, 6]) (by kernel_rfl) (by simp) (AllReadyIn.cons rfl (fun K hK => ?_) (AllReadyIn.cons rfl (fun K hK => ?_) AllReadyIn.nil))
            · go_simp
              refine hK _ _ ?_
              clear hK K
              refine wpAnyIn_ready (rs := [6]) (by kernel_rfl) (by simp) (AllReadyIn.cons rfl (fun K hK => ?_) AllReadyIn.nil)
              · go_simp
                refine hK _ _ ?_
                clear hK K
                refine wpAnyIn_ready (rs := [7]) (by kernel_rfl) (by simp) (AllReadyIn.cons rfl (fun K hK => ?_) AllReadyIn.nil)
                · rw [if_pos (by simp [Region.wanted])]
                  refine oper_in (by intro c e; cases e) ?_
                  refine wp_append_lies _ _ _ 114 rfl 0 3 i0 _ 1 8 Tryz.underlying114 hi0 hzz0 hss0 hbb0 rfl (by decide) _ pre.length _ rfl (OWN.alloc _) ⟨X1.heap.size, 0, none⟩ 1 1 [.int .i64 (q : Int)] rfl rfl (cell_one_new _ _ _) (by simp [Value.oneCell']) (by omega) (by unfold maxLen; omega) (by omega) (by simp) (X1.heap.size + 1) (by simp) ?_
                  intro g cap W1 own G hat hlt
                  obtain ⟨F1, F2, F4⟩ := FIN.out g cap W1 own G hat
                  have x2 := F2.cell 0
                  have a2 := F1.cell 1
                  have f2 := F1.free 1
                  simp at x2 a2
                  refine hK _ _ ?_
                  clear hK K
                  refine wpAnyIn_take (i := 8) (v := .pointer (some ⟨A, 0, none⟩)) rfl rfl (by kernel_rfl) (by kernel_rfl) (by kernel_rfl) (fun _ _ _ h => h) ⟨Or.inl ⟨by rfl, ?_⟩, fun _ => rfl⟩ ?_
                  · intro W0; go_simp
                  refine wpAnyIn_take (i := 9) (v := .pointer (some ⟨A, 1, none⟩)) rfl rfl (by kernel_rfl) (by kernel_rfl) (by kernel_rfl) (fun _ _ _ h => h) ⟨Or.inl ⟨by rfl, ?_⟩, fun _ => rfl⟩ ?_
                  · intro W0; go_simp
                  refine wpAnyIn_ready (rs := [10]) (by kernel_rfl) (by simp) (AllReadyIn.cons rfl (fun K hK => ?_) AllReadyIn.nil)
                  · go_simp
                    refine hK _ _ ?_
                    clear hK K
                    refine wpAnyIn_done (by kernel_rfl) ?_ _
                    gi_wp2
                    exact ⟨F4.1, F4.2⟩
            · go_simp
              refine hK _ _ ?_
              clear hK K
              refine wpAnyIn_ready (rs := [0, 7]) (by kernel_rfl) (by simp) (AllReadyIn.cons rfl (fun K hK => ?_) (AllReadyIn.cons rfl (fun K hK => ?_) AllReadyIn.nil))
              · go_simp
                refine hK _ _ ?_
                clear hK K
                refine wpAnyIn_ready (rs := [7]) (by kernel_rfl) (by simp) (AllReadyIn.cons rfl (fun K hK => ?_) AllReadyIn.nil)
                · rw [if_pos (by simp [Region.wanted])]
                  refine oper_in (by intro c e; cases e) ?_
                  refine wp_append_lies _ _ _ 114 rfl 0 3 i0 _ 1 8 Tryz.underlying114 hi0 hzz0 hss0 hbb0 rfl (by decide) _ pre.length _ rfl (OWN.alloc _) ⟨X1.heap.size, 0, none⟩ 1 1 [.int .i64 (q : Int)] rfl rfl (cell_one_new _ _ _) (by simp [Value.oneCell']) (by omega) (by unfold maxLen; omega) (by omega) (by simp) (X1.heap.size + 1) (by simp) ?_
                  intro g cap W1 own G hat hlt
                  obtain ⟨F1, F2, F4⟩ := FIN.out g cap W1 own G hat
                  have x2 := F2.cell 0
                  have a2 := F1.cell 1
                  have f2 := F1.free 1
                  simp at x2 a2
                  refine hK _ _ ?_
                  clear hK K
                  refine wpAnyIn_take (i := 8) (v := .pointer (some ⟨A, 0, none⟩)) rfl rfl (by kernel_rfl) (by kernel_rfl) (by kernel_rfl) (fun _ _ _ h => h) ⟨Or.inl ⟨by rfl, ?_⟩, fun _ => rfl⟩ ?_
                  · intro W0; go_simp
                  refine wpAnyIn_take (i := 9) (v := .pointer (some ⟨A, 1, none⟩)) rfl rfl (by kernel_rfl) (by kernel_rfl) (by kernel_rfl) (fun _ _ _ h => h) ⟨Or.inl ⟨by rfl, ?_⟩, fun _ => rfl⟩ ?_
                  · intro W0; go_simp
                  refine wpAnyIn_ready (rs := [10]) (by kernel_rfl) (by simp) (AllReadyIn.cons rfl (fun K hK => ?_) AllReadyIn.nil)
                  · go_simp
                    refine hK _ _ ?_
                    clear hK K
                    refine wpAnyIn_done (by kernel_rfl) ?_ _
                    gi_wp2
                    exact ⟨F4.1, F4.2⟩
              · rw [if_pos (by simp [Region.wanted])]
                refine oper_in (by intro c e; cases e) ?_
                refine wp_append_lies _ _ _ 114 rfl 0 3 i0 _ 1 8 Tryz.underlying114 hi0 hzz0 hss0 hbb0 rfl (by decide) _ pre.length _ rfl (OWN.alloc _) ⟨X1.heap.size, 0, none⟩ 1 1 [.int .i64 (q : Int)] rfl rfl (cell_one_new _ _ _) (by simp [Value.oneCell']) (by omega) (by unfold maxLen; omega) (by omega) (by simp) (X1.heap.size + 1) (by simp) ?_
                intro g cap W1 own G hat hlt
                obtain ⟨F1, F2, F4⟩ := FIN.out g cap W1 own G hat
                have x2 := F2.cell 0
                have a2 := F1.cell 1
                have f2 := F1.free 1
                simp at x2 a2
                refine hK _ _ ?_
                clear hK K
                refine wpAnyIn_ready (rs := [0]) (by kernel_rfl) (by simp) (AllReadyIn.cons rfl (fun K hK => ?_) AllReadyIn.nil)
                · go_simp
                  refine hK _ _ ?_
                  clear hK K
                  refine wpAnyIn_take (i := 8) (v := .pointer (some ⟨A, 0, none⟩)) rfl rfl (by kernel_rfl) (by kernel_rfl) (by kernel_rfl) (fun _ _ _ h => h) ⟨Or.inl ⟨by rfl, ?_⟩, fun _ => rfl⟩ ?_
                  · intro W0; go_simp
                  refine wpAnyIn_take (i := 9) (v := .pointer (some ⟨A, 1, none⟩)) rfl rfl (by kernel_rfl) (by kernel_rfl) (by kernel_rfl) (fun _ _ _ h => h) ⟨Or.inl ⟨by rfl, ?_⟩, fun _ => rfl⟩ ?_
                  · intro W0; go_simp
                  refine wpAnyIn_ready (rs := [10]) (by kernel_rfl) (by simp) (AllReadyIn.cons rfl (fun K hK => ?_) AllReadyIn.nil)
                  · go_simp
                    refine hK _ _ ?_
                    clear hK K
                    refine wpAnyIn_done (by kernel_rfl) ?_ _
                    gi_wp2
                    exact ⟨F4.1, F4.2⟩
          · go_simp
            refine hK _ _ ?_
            clear hK K
            refine wpAnyIn_ready (rs := [0, 4]) (by kernel_rfl) (by simp) (AllReadyIn.cons rfl (fun K hK => ?_) (AllReadyIn.cons rfl (fun K hK => ?_) AllReadyIn.nil))
            · go_simp
              refine hK _ _ ?_
              clear hK K
              refine wpAnyIn_ready (rs := [4]) (by kernel_rfl) (by simp) (AllReadyIn.cons rfl (fun K hK => ?_) AllReadyIn.nil)
              · go_simp
                refine hK _ _ ?_
                clear hK K
                refine wpAnyIn_ready (rs := [7]) (by kernel_rfl) (by simp) (AllReadyIn.cons rfl (fun K hK => ?_) AllReadyIn.nil)
                · rw [if_pos (by simp [Region.wanted])]
                  refine oper_in (by intro c e; cases e) ?_
                  refine wp_append_lies _ _ _ 114 rfl 0 3 i0 _ 1 8 Tryz.underlying114 hi0 hzz0 hss0 hbb0 rfl (by decide) _ pre.length _ rfl (OWN.alloc _) ⟨X1.heap.size, 0, none⟩ 1 1 [.int .i64 (q : Int)] rfl rfl (cell_one_new _ _ _) (by simp [Value.oneCell']) (by omega) (by unfold maxLen; omega) (by omega) (by simp) (X1.heap.size + 1) (by simp) ?_
                  intro g cap W1 own G hat hlt
                  obtain ⟨F1, F2, F4⟩ := FIN.out g cap W1 own G hat
                  have x2 := F2.cell 0
                  have a2 := F1.cell 1
                  have f2 := F1.free 1
                  simp at x2 a2
                  refine hK _ _ ?_
                  clear hK K
                  refine wpAnyIn_take (i := 8) (v := .pointer (some ⟨A, 0, none⟩)) rfl rfl (by kernel_rfl) (by kernel_rfl) (by kernel_rfl) (fun _ _ _ h => h) ⟨Or.inl ⟨by rfl, ?_⟩, fun _ => rfl⟩ ?_
                  · intro W0; go_simp
                  refine wpAnyIn_take (i := 9) (v := .pointer (some ⟨A, 1, none⟩)) rfl rfl (by kernel_rfl) (by kernel_rfl) (by kernel_rfl) (fun _ _ _ h => h) ⟨Or.inl ⟨by rfl, ?_⟩, fun _ => rfl⟩ ?_
                  · intro W0; go_simp
                  refine wpAnyIn_ready (rs := [10]) (by kernel_rfl) (by simp) (AllReadyIn.cons rfl (fun K hK => ?_) AllReadyIn.nil)
                  · go_simp
                    refine hK _ _ ?_
                    clear hK K
                    refine wpAnyIn_done (by kernel_rfl) ?_ _
                    gi_wp2
                    exact ⟨F4.1, F4.2⟩
            · go_simp
              refine hK _ _ ?_
              clear hK K
              refine wpAnyIn_ready (rs := [0, 7]) (by kernel_rfl) (by simp) (AllReadyIn.cons rfl (fun K hK => ?_) (AllReadyIn.cons rfl (fun K hK => ?_) AllReadyIn.nil))
              · go_simp
                refine hK _ _ ?_
                clear hK K
                refine wpAnyIn_ready (rs := [7]) (by kernel_rfl) (by simp) (AllReadyIn.cons rfl (fun K hK => ?_) AllReadyIn.nil)
                · rw [if_pos (by simp [Region.wanted])]
                  refine oper_in (by intro c e; cases e) ?_
                  refine wp_append_lies _ _ _ 114 rfl 0 3 i0 _ 1 8 Tryz.underlying114 hi0 hzz0 hss0 hbb0 rfl (by decide) _ pre.length _ rfl (OWN.alloc _) ⟨X1.heap.size, 0, none⟩ 1 1 [.int .i64 (q : Int)] rfl rfl (cell_one_new _ _ _) (by simp [Value.oneCell']) (by omega) (by unfold maxLen; omega) (by omega) (by simp) (X1.heap.size + 1) (by simp) ?_
                  intro g cap W1 own G hat hlt
                  obtain ⟨F1, F2, F4⟩ := FIN.out g cap W1 own G hat
                  have x2 := F2.cell 0
                  have a2 := F1.cell 1
                  have f2 := F1.free 1
                  simp at x2 a2
                  refine hK _ _ ?_
                  clear hK K
                  refine wpAnyIn_take (i := 8) (v := .pointer (some ⟨A, 0, none⟩)) rfl rfl (by kernel_rfl) (by kernel_rfl) (by kernel_rfl) (fun _ _ _ h => h) ⟨Or.inl ⟨by rfl, ?_⟩, fun _ => rfl⟩ ?_
                  · intro W0; go_simp
                  refine wpAnyIn_take (i := 9) (v := .pointer (some ⟨A, 1, none⟩)) rfl rfl (by kernel_rfl) (by kernel_rfl) (by kernel_rfl) (fun _ _ _ h => h) ⟨Or.inl ⟨by rfl, ?_⟩, fun _ => rfl⟩ ?_
                  · intro W0; go_simp
                  refine wpAnyIn_ready (rs := [10]) (by kernel_rfl) (by simp) (AllReadyIn.cons rfl (fun K hK => ?_) AllReadyIn.nil)
                  · go_simp
                    refine hK _ _ ?_
                    clear hK K
                    refine wpAnyIn_done (by kernel_rfl) ?_ _
                    gi_wp2
                    exact ⟨F4.1, F4.2⟩
              · rw [if_pos (by simp [Region.wanted])]
                refine oper_in (by intro c e; cases e) ?_
                refine wp_append_lies _ _ _ 114 rfl 0 3 i0 _ 1 8 Tryz.underlying114 hi0 hzz0 hss0 hbb0 rfl (by decide) _ pre.length _ rfl (OWN.alloc _) ⟨X1.heap.size, 0, none⟩ 1 1 [.int .i64 (q : Int)] rfl rfl (cell_one_new _ _ _) (by simp [Value.oneCell']) (by omega) (by unfold maxLen; omega) (by omega) (by simp) (X1.heap.size + 1) (by simp) ?_
                intro g cap W1 own G hat hlt
                obtain ⟨F1, F2, F4⟩ := FIN.out g cap W1 own G hat
                have x2 := F2.cell 0
                have a2 := F1.cell 1
                have f2 := F1.free 1
                simp at x2 a2
                refine hK _ _ ?_
                clear hK K
                refine wpAnyIn_ready (rs := [0]) (by kernel_rfl) (by simp) (AllReadyIn.cons rfl (fun K hK => ?_) AllReadyIn.nil)
                · go_simp
                  refine hK _ _ ?_
                  clear hK K
                  refine wpAnyIn_take (i := 8) (v := .pointer (some ⟨A, 0, none⟩)) rfl rfl (by kernel_rfl) (by kernel_rfl) (by kernel_rfl) (fun _ _ _ h => h) ⟨Or.inl ⟨by rfl, ?_⟩, fun _ => rfl⟩ ?_
                  · intro W0; go_simp
                  refine wpAnyIn_take (i := 9) (v := .pointer (some ⟨A, 1, none⟩)) rfl rfl (by kernel_rfl) (by kernel_rfl) (by kernel_rfl) (fun _ _ _ h => h) ⟨Or.inl ⟨by rfl, ?_⟩, fun _ => rfl⟩ ?_
                  · intro W0; go_simp
                  refine wpAnyIn_ready (rs := [10]) (by kernel_rfl) (by simp) (AllReadyIn.cons rfl (fun K hK => ?_) AllReadyIn.nil)
                  · go_simp
                    refine hK _ _ ?_
                    clear hK K
                    refine wpAnyIn_done (by kernel_rfl) ?_ _
                    gi_wp2
                    exact ⟨F4.1, F4.2⟩
        · go_simp
          refine hK _ _ ?_
          clear hK K
          refine wpAnyIn_ready (rs := [0, 1]) (by kernel_rfl) (by simp) (AllReadyIn.cons rfl (fun K hK => ?_) (AllReadyIn.cons rfl (fun K hK => ?_) AllReadyIn.nil))
          · go_simp
            refine hK _ _ ?_
            clear hK K
            refine wpAnyIn_ready (rs := [1]) (by kernel_rfl) (by simp) (AllReadyIn.cons rfl (fun K hK => ?_) AllReadyIn.nil)
            · go_simp
              refine hK _ _ ?_
              clear hK K
              refine wpAnyIn_take (i := 2) (v := .pointer (some ⟨A, 0, none⟩)) rfl rfl (by kernel_rfl) (by kernel_rfl) (by kernel_rfl) (fun _ _ _ h => h) ⟨Or.inl ⟨by rfl, ?_⟩, fun _ => rfl⟩ ?_
              · intro W0; go_simp
              refine wpAnyIn_take (i := 3) (v := .pointer (some ⟨A, 1, none⟩)) rfl rfl (by kernel_rfl) (by kernel_rfl) (by kernel_rfl) (fun _ _ _ h => h) ⟨Or.inl ⟨by rfl, ?_⟩, fun _ => rfl⟩ ?_
              · intro W0; go_simp
              refine wpAnyIn_ready (rs := [4]) (by kernel_rfl) (by simp) (AllReadyIn.cons rfl (fun K hK => ?_) AllReadyIn.nil)
              · go_simp
                refine hK _ _ ?_
                clear hK K
                refine wpAnyIn_ready (rs := [7]) (by kernel_rfl) (by simp) (AllReadyIn.cons rfl (fun K hK => ?_) AllReadyIn.nil)
                · rw [if_pos (by simp [Region.wanted])]
                  refine oper_in (by intro c e; cases e) ?_
                  refine wp_append_lies _ _ _ 114 rfl 0 3 i0 _ 1 8 Tryz.underlying114 hi0 hzz0 hss0 hbb0 rfl (by decide) _ pre.length _ rfl (OWN.alloc _) ⟨X1.heap.size, 0, none⟩ 1 1 [.int .i64 (q : Int)] rfl rfl (cell_one_new _ _ _) (by simp [Value.oneCell']) (by omega) (by unfold maxLen; omega) (by omega) (by simp) (X1.heap.size + 1) (by simp) ?_
                  intro g cap W1 own G hat hlt
                  obtain ⟨F1, F2, F4⟩ := FIN.out g cap W1 own G hat
                  have x2 := F2.cell 0
                  have a2 := F1.cell 1
                  have f2 := F1.free 1
                  simp at x2 a2
                  refine hK _ _ ?_
                  clear hK K
                  refine wpAnyIn_take (i := 8) (v := .pointer (some ⟨A, 0, none⟩)) rfl rfl (by kernel_rfl) (by kernel_rfl) (by kernel_rfl) (fun _ _ _ h => h) ⟨Or.inl ⟨by rfl, ?_⟩, fun _ => rfl⟩ ?_
                  · intro W0; go_simp
                  refine wpAnyIn_take (i := 9) (v := .pointer (some ⟨A, 1, none⟩)) rfl rfl (by kernel_rfl) (by kernel_rfl) (by kernel_rfl) (fun _ _ _ h => h) ⟨Or.inl ⟨by rfl, ?_⟩, fun _ => rfl⟩ ?_
                  · intro W0; go_simp
                  refine wpAnyIn_ready (rs := [10]) (by kernel_rfl) (by simp) (AllReadyIn.cons rfl (fun K hK => ?_) AllReadyIn.nil)
                  · go_simp
                    refine hK _ _ ?_
                    clear hK K
                    refine wpAnyIn_done (by kernel_rfl) ?_ _
                    gi_wp2
                    exact ⟨F4.1, F4.2⟩
          · go_simp
            refine hK _ _ ?_
            clear hK K
            refine wpAnyIn_take (i := 2) (v := .pointer (some ⟨A, 0, none⟩)) rfl rfl (by kernel_rfl) (by kernel_rfl) (by kernel_rfl) (fun _ _ _ h => h) ⟨Or.inl ⟨by rfl, ?_⟩, fun _ => rfl⟩ ?_
            · intro W0; go_simp
            refine wpAnyIn_take (i := 3) (v := .pointer (some ⟨A, 1, none⟩)) rfl rfl (by kernel_rfl) (by kernel_rfl) (by kernel_rfl) (fun _ _ _ h => h) ⟨Or.inl ⟨by rfl, ?_⟩, fun _ => rfl⟩ ?_
            · intro W0; go_simp
            refine wpAnyIn_ready (rs := [0, 4]) (by kernel_rfl) (by simp) (AllReadyIn.cons rfl (fun K hK => ?_) (AllReadyIn.cons rfl (fun K hK => ?_) AllReadyIn.nil))
            · go_simp
              refine hK _ _ ?_
              clear hK K
              refine wpAnyIn_ready (rs := [4]) (by kernel_rfl) (by simp) (AllReadyIn.cons rfl (fun K hK => ?_) AllReadyIn.nil)
              · go_simp
                refine hK _ _ ?_
                clear hK K
                refine wpAnyIn_ready (rs := [7]) (by kernel_rfl) (by simp) (AllReadyIn.cons rfl (fun K hK => ?_) AllReadyIn.nil)
                · rw [if_pos (by simp [Region.wanted])]
                  refine oper_in (by intro c e; cases e) ?_
                  refine wp_append_lies _ _ _ 114 rfl 0 3 i0 _ 1 8 Tryz.underlying114 hi0 hzz0 hss0 hbb0 rfl (by decide) _ pre.length _ rfl (OWN.alloc _) ⟨X1.heap.size, 0, none⟩ 1 1 [.int .i64 (q : Int)] rfl rfl (cell_one_new _ _ _) (by simp [Value.oneCell']) (by omega) (by unfold maxLen; omega) (by omega) (by simp) (X1.heap.size + 1) (by simp) ?_
                  intro g cap W1 own G hat hlt
                  obtain ⟨F1, F2, F4⟩ := FIN.out g cap W1 own G hat
                  have x2 := F2.cell 0
                  have a2 := F1.cell 1
                  have f2 := F1.free 1
                  simp at x2 a2
                  refine hK _ _ ?_
                  clear hK K
                  refine wpAnyIn_take (i := 8) (v := .pointer (some ⟨A, 0, none⟩)) rfl rfl (by kernel_rfl) (by kernel_rfl) (by kernel_rfl) (fun _ _ _ h => h) ⟨Or.inl ⟨by rfl, ?_⟩, fun _ => rfl⟩ ?_
                  · intro W0; go_simp
                  refine wpAnyIn_take (i := 9) (v := .pointer (some ⟨A, 1, none⟩)) rfl rfl (by kernel_rfl) (by kernel_rfl) (by kernel_rfl) (fun _ _ _ h => h) ⟨Or.inl ⟨by rfl, ?_⟩, fun _ => rfl⟩ ?_
                  · intro W0; go_simp
                  refine wpAnyIn_ready (rs := [10]) (by kernel_rfl) (by simp) (AllReadyIn.cons rfl (fun K hK => ?_) AllReadyIn.nil)
                  · go_simp
                    refine hK _ _ ?_
                    clear hK K
                    refine wpAnyIn_done (by kernel_rfl) ?_ _
                    gi_wp2
                    exact ⟨F4.1, F4.2⟩
            · go_simp
              refine hK _ _ ?_
              clear hK K
              refine wpAnyIn_ready (rs := [0, 7]) (by kernel_rfl) (by simp) (AllReadyIn.cons rfl (fun K hK => ?_) (AllReadyIn.cons rfl (fun K hK => ?_) AllReadyIn.nil))
              · go_simp
                refine hK _ _ ?_
                clear hK K
                refine wpAnyIn_ready (rs := [7]) (by kernel_rfl) (by simp) (AllReadyIn.cons rfl (fun K hK => ?_) AllReadyIn.nil)
                · rw [if_pos (by simp [Region.wanted])]
                  refine oper_in (by intro c e; cases e) ?_
                  refine wp_append_lies _ _ _ 114 rfl 0 3 i0 _ 1 8 Tryz.underlying114 hi0 hzz0 hss0 hbb0 rfl (by decide) _ pre.length _ rfl (OWN.alloc _) ⟨X1.heap.size, 0, none⟩ 1 1 [.int .i64 (q : Int)] rfl rfl (cell_one_new _ _ _) (by simp [Value.oneCell']) (by omega) (by unfold maxLen; omega) (by omega) (by simp) (X1.heap.size + 1) (by simp) ?_
                  intro g cap W1 own G hat hlt
                  obtain ⟨F1, F2, F4⟩ := FIN.out g cap W1 own G hat
                  have x2 := F2.cell 0
                  have a2 := F1.cell 1
                  have f2 := F1.free 1
                  simp at x2 a2
                  refine hK _ _ ?_
                  clear hK K
                  refine wpAnyIn_take (i := 8) (v := .pointer (some ⟨A, 0, none⟩)) rfl rfl (by kernel_rfl) (by kernel_rfl) (by kernel_rfl) (fun _ _ _ h => h) ⟨Or.inl ⟨by rfl, ?_⟩, fun _ => rfl⟩ ?_
                  · intro W0; go_simp
                  refine wpAnyIn_take (i := 9) (v := .pointer (some ⟨A, 1, none⟩)) rfl rfl (by kernel_rfl) (by kernel_rfl) (by kernel_rfl) (fun _ _ _ h => h) ⟨Or.inl ⟨by rfl, ?_⟩, fun _ => rfl⟩ ?_
                  · intro W0; go_simp
                  refine wpAnyIn_ready (rs := [10]) (by kernel_rfl) (by simp) (AllReadyIn.cons rfl (fun K hK => ?_) AllReadyIn.nil)
                  · go_simp
                    refine hK _ _ ?_
                    clear hK K
                    refine wpAnyIn_done (by kernel_rfl) ?_ _
                    gi_wp2
                    exact ⟨F4.1, F4.2⟩
              · rw [if_pos (by simp [Region.wanted])]
                refine oper_in (by intro c e; cases e) ?_
                refine wp_append_lies _ _ _ 114 rfl 0 3 i0 _ 1 8 Tryz.underlying114 hi0 hzz0 hss0 hbb0 rfl (by decide) _ pre.length _ rfl (OWN.alloc _) ⟨X1.heap.size, 0, none⟩ 1 1 [.int .i64 (q : Int)] rfl rfl (cell_one_new _ _ _) (by simp [Value.oneCell']) (by omega) (by unfold maxLen; omega) (by omega) (by simp) (X1.heap.size + 1) (by simp) ?_
                intro g cap W1 own G hat hlt
                obtain ⟨F1, F2, F4⟩ := FIN.out g cap W1 own G hat
                have x2 := F2.cell 0
                have a2 := F1.cell 1
                have f2 := F1.free 1
                simp at x2 a2
                refine hK _ _ ?_
                clear hK K
                refine wpAnyIn_ready (rs := [0]) (by kernel_rfl) (by simp) (AllReadyIn.cons rfl (fun K hK => ?_) AllReadyIn.nil)
                · go_simp
                  refine hK _ _ ?_
                  clear hK K
                  refine wpAnyIn_take (i := 8) (v := .pointer (some ⟨A, 0, none⟩)) rfl rfl (by kernel_rfl) (by kernel_rfl) (by kernel_rfl) (fun _ _ _ h => h) ⟨Or.inl ⟨by rfl, ?_⟩, fun _ => rfl⟩ ?_
                  · intro W0; go_simp
                  refine wpAnyIn_take (i := 9) (v := .pointer (some ⟨A, 1, none⟩)) rfl rfl (by kernel_rfl) (by kernel_rfl) (by kernel_rfl) (fun _ _ _ h => h) ⟨Or.inl ⟨by rfl, ?_⟩, fun _ => rfl⟩ ?_
                  · intro W0; go_simp
                  refine wpAnyIn_ready (rs := [10]) (by kernel_rfl) (by simp) (AllReadyIn.cons rfl (fun K hK => ?_) AllReadyIn.nil)
                  · go_simp
                    refine hK _ _ ?_
                    clear hK K
                    refine wpAnyIn_done (by kernel_rfl) ?_ _
                    gi_wp2
                    exact ⟨F4.1, F4.2⟩
      case done =>
        rintro D X hD ⟨sv, hL3, hA3, hX3, hR3, hz3, hb3⟩ hK
        have x0 := hX3.cell 0
        simp at x0
        gi_wp2
        refine ⟨by simp, .inl ⟨_, _, rfl, run_takeDeferred hK, ?_⟩⟩
        have hA9 : Anc (fun b => w.heap.size ≤ b) X (w.heap.size + 1) 1 := ⟨w.heap.size, sv, by omega, Nat.le_refl _, hA3, hL3, hR3.mono (fun b h => h.1)⟩
        exact ⟨_, results_tmp2 rfl _ _ _, w.heap.size + 1, rfl, hA9.keepH (Keep.putObj X D _ _ hK rfl), hb3.trans (belowK_b (w := wz) (by have := hb2.size; omega) X D _ _ hD hK rfl rfl)⟩
      case stop =>
        rintro D c pre X hD hp h hK
        exact h.elim
end Go.Proofs.YtngdebpaheejlaaGreatDoor
