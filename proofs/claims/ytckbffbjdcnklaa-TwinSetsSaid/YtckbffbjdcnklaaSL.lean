/- TwinSets: the plain part. -/
import Derived.Test.YtckbffbjdcnklaaSTw3
import Derived.Test.YtckbffbjdcnklaaSTw4
import Derived.Test.YtckbffbjdcnklaaEx
import Derived.Laws.IdiomStrings
namespace Go.Proofs.Ytckbffbjdcnklaa
open Go.RowKit
set_option linter.unusedSimpArgs false
set_option linter.unusedVariables false

theorem S.TS.move {w0 : Base} {w w' : World} {tb g cap am bm room m cnt : Nat} {T : Nat → Option S.Row} {fa : Int → Option Nat} {fb : ByteArray → Option Nat} {fr : Value} (h : S.TS w0 w tb g cap am bm room m cnt T fa fb fr) {Y Z : Nat → Prop} (c : Chg Y w w') (n : ¬ Y tb ∧ ¬ Y g ∧ ¬ Y am ∧ ¬ Y bm) (hz : ∀ b, Z b → b < w'.heap.size) (n2 : ¬ Z tb ∧ ¬ Z g ∧ ¬ Z am ∧ ¬ Z bm) : S.TS ⟨w', Z⟩ w' tb g cap am bm room m cnt T fa fb fr := by
  obtain ⟨MA, q1, q2⟩ := h.ma
  obtain ⟨MB, q3, q4⟩ := h.mb
  exact ⟨(c.block _ h.head.lt n.1).trans h.head, h.rows.of_block (c.block _ h.rows.lt n.2.1), ⟨MA, q1.of_block (c.block _ q1.lt n.2.2.1), q2⟩, ⟨MB, q3.of_block (c.block _ q3.lt n.2.2.2), q4⟩, h.coA, h.coB, h.okR, h.ne, n2, Keeps.refl _ hz, h.hm, h.hc, h.hr⟩
/-- "old". -/
def so : ByteArray := ⟨#[111, 108, 100]⟩
/-- One byte. -/
def nb (i : Nat) : ByteArray := ⟨#[UInt8.ofNat i]⟩
theorem nb_inj {i j : Nat} (hi : i < 256) (hj : j < 256) (h : nb i = nb j) : i = j := by
  unfold nb at h
  injection h with h1
  have h2 := congrArg Array.toList h1
  simp at h2
  have a1 := congrArg UInt8.toNat h2
  simp at a1
  omega
theorem conv1 (W : World) (x : Nat) (hx : x < 256) : (convert 33 9 (.slice (some ⟨W.heap.size, 0, none⟩) 1 1)).run Try.prog (W.alloc (.cells #[.int .u8 (x : Int)] 5)) = .ok (.string (nb x)) (W.alloc (.cells #[.int .u8 (x : Int)] 5)) := by
  refine run_convert_bytes_back (P := Try.prog) _ 33 9 5 ⟨W.heap.size, 0, none⟩ 1 [UInt8.ofNat x] Try.underlying33 Try.underlying5 Try.underlying9 (fun j hj => ?_)
  rw [add_none]
  rw [(Has.new W #[.int .u8 (x : Int)] 5).cell]
  match j, hj with
  | 0, _ => first | (simp; done) | (simp; omega)
structure SI (j : Nat) (T : Nat → Option S.Row) (fa : Int → Option Nat) (fb : ByteArray → Option Nat) : Prop where
  a : ∀ y : Int, fa y = if 0 ≤ y ∧ y < (j : Int) then some (y.toNat + 1) else none
  b : ∀ i, j ≤ i → i < 256 → fb (nb i) = none
  r : ∀ h : Nat, T h = if 1 ≤ h ∧ h ≤ j then some ⟨(h : Int) - 1, nb (h - 1), so⟩ else none
theorem SI.start : SI 0 (fun _ => none) (fun _ => none) (fun _ => none) := by
  refine ⟨fun y => ?_, fun _ _ _ => rfl, fun h => ?_⟩
  all_goals
    rw [if_neg (by omega)]
theorem SI.put {j : Nat} {T : Nat → Option S.Row} {fa : Int → Option Nat} {fb : ByteArray → Option Nat} (h : SI j T fa fb) (hj : j < 256) : SI (j + 1) (S.setR T (j + 1) (some ⟨(j : Int), nb j, so⟩)) (S.updF fa (j : Int) (some (j + 1))) (S.updF fb (nb j) (some (j + 1))) := by
  refine ⟨fun y => ?_, fun i h1 h2 => ?_, fun k => ?_⟩
  · by_cases e : y = (j : Int)
    · subst e; rw [S.updF_same, if_pos (by omega)]; simp
    · rw [S.updF_other _ _ e, h.a y]
      by_cases q : 0 ≤ y ∧ y < (j : Int)
      · rw [if_pos q, if_pos (by omega)]
      · rw [if_neg q, if_neg (by omega)]
  · rw [S.updF_other _ _ (fun q => by have := nb_inj h2 hj q; omega), h.b i (by omega) h2]
  · unfold S.setR
    by_cases e : k = j + 1
    · subst e; rw [if_pos rfl, if_pos (by omega)]; simp
    · rw [if_neg e, h.r k]
      by_cases q : 1 ≤ k ∧ k ≤ j
      · rw [if_pos q, if_pos (by omega)]
      · rw [if_neg q, if_neg (by omega)]
theorem shs_full {T : Nat → Option S.Row} (h0 : T 0 = none) : ∀ (n : Nat), (∀ k, 1 ≤ k → k ≤ n → (T k).isSome = true) → S.hs T (n + 1) = (List.range n).map (· + 1)
  | 0, _ => by rw [S.hs_no (by rw [h0]; rfl)]; rfl
  | n + 1, h => by
    rw [S.hs_yes (h (n + 1) (by omega) (Nat.le_refl _)), shs_full h0 n (fun k h1 h2 => h k h1 (by omega)), List.range_succ, List.map_append]
    rfl
theorem pre_at {n : Nat} {pre : List Nat} {x : Nat} (h : pre ++ [x] <+: (List.range n).map (· + 1)) : x = pre.length + 1 ∧ pre.length < n := by
  obtain ⟨t, ht⟩ := h
  have h1 : (pre ++ [x] ++ t)[pre.length]? = some x := by simp
  rw [ht] at h1
  simp [List.getElem?_map, List.getElem?_range] at h1
  have h2 : pre.length < n := by
    have := congrArg List.length ht
    simp at this
    omega
  refine ⟨?_, h2⟩
  first
    | omega
    | (obtain ⟨a, ⟨_, e1⟩, e2⟩ := h1; omega)
    | (obtain ⟨a, e1, e2⟩ := h1; rw [List.getElem?_range h2] at e1; cases e1; omega)
theorem wfs (x : Int) (h1 : -1000 ≤ x) (h2 : x ≤ 1000) : (Lit.int .i64 x).wf = true := by
  have hmin : IntKind.i64.min = -9223372036854775808 := rfl
  have hmax : IntKind.i64.max = 9223372036854775807 := rfl
  simp only [Lit.wf, Bool.and_eq_true, decide_eq_true_eq]
  omega
end Go.Proofs.Ytckbffbjdcnklaa
