/- The walk of all. -/
import Derived.Test.YtjkogmfjfbmmiaaD
import Derived.Test.YtjkogmfjfbmmiaaArgs
import Derived.Test.YtjkogmfjfbmmiaaGMapOps
namespace Go.Proofs.Ytjkogmfjfbmmiaa
open Go.RowKit
set_option linter.unusedSimpArgs false
set_option linter.unusedVariables false

theorem keyed3 : Maps.Keyed Try.prog 3 := Maps.int_keyed Try.underlying3
theorem zero3 (w : World) : (zeroValue 3).run Try.prog w = .ok (.int .i64 0) w := by kernel_rfl

/-- What all holds. -/
def allN (o p c wt u : Int) (k : Int) : Option Int :=
  if k = 1 ∨ k = 2 then some o else if k = 3 then some p else if k = 4 ∨ k = 5 ∨ k = 6 then some c else if k = 7 then some wt else if k = 8 then some u else none
def allM (o p c wt u : Int) : Lit → Option Value
  | .int .i64 k => (allN o p c wt u k).map (Value.int .i64)
  | _ => none

noncomputable def ins (M : Lit → Option Value) (k v : Int) : Lit → Option Value := putM M (.int .i64 k) (some (.int .i64 v))

theorem all_eq (o p c wt u : Int) (k : Lit) : ins (ins (ins (ins (ins (ins (ins (ins (fun _ => none) 1 o) 2 o) 3 p) 4 c) 5 c) 6 c) 7 wt) 8 u k = allM o p c wt u k := by
  unfold ins putM allM
  cases k with
  | int q x =>
    simp only [Lit.int.injEq]
    cases q <;> simp
    unfold allN
    by_cases h8 : x = 8
    · simp [h8]
    by_cases h7 : x = 7
    · simp [h7]
    by_cases h6 : x = 6
    · simp [h6]
    by_cases h5 : x = 5
    · simp [h5]
    by_cases h4 : x = 4
    · simp [h4]
    by_cases h3 : x = 3
    · simp [h3]
    by_cases h2 : x = 2
    · simp [h2]
    by_cases h1 : x = 1
    · simp [h1]
    simp [h1, h2, h3, h4, h5, h6, h7, h8]
  | _ => simp

structure MB (w0 w : World) (n : Nat) (M : Lit → Option Value) (xs : Array Value) : Prop where
  box : Has w w0.heap.size 31 xs
  map : GMap Try.prog w 3 (w0.heap.size + 1) n M
  bel : Below w0.heap.size w0 w

theorem MB.step {w0 w w' : World} {n n' : Nat} {M : Lit → Option Value} {k v : Int} {xs : Array Value} (h : MB w0 w n M xs) (hg : GMap Try.prog w' 3 (w0.heap.size + 1) n' (putM M (.int .i64 k) (some (.int .i64 v)))) (ht : w.mapTurned w' (w0.heap.size + 1)) (hz : M (.int .i64 k) = none) (hn' : (if (M (.int .i64 k)).isSome then n else n + 1) = n') : MB w0 w' (n + 1) (ins M k v) xs := by
  rw [hz] at hn'
  simp at hn'
  subst hn'
  exact ⟨(turned_block ht (by omega)).trans h.box, hg, h.bel.trans (turned_below ht (by omega))⟩
theorem MB.cell {w0 w : World} {n : Nat} {M : Lit → Option Value} {xs : Array Value} (h : MB w0 w n M xs) (o : Nat) : w.cell? ⟨w0.heap.size, o, none⟩ = xs[o]? := h.box.cell o
theorem MB.free {w0 w : World} {n : Nat} {M : Lit → Option Value} {xs : Array Value} (h : MB w0 w n M xs) (o : Nat) : w.frozen? ⟨w0.heap.size, o, none⟩ = false := h.box.free o

set_option maxHeartbeats 1600000 in
theorem all_c (o p c wt u : Int) (w : World) : Calls Try.prog 17 #[.agg #[.int .i64 o, .int .i64 p, .int .i64 c, .int .i64 wt, .int .i64 u]] w fun e w' => e = .returned (.map (some (w.heap.size + 1))) ∧ GMap Try.prog w' 3 (w.heap.size + 1) 8 (allM o p c wt u) ∧ Below w.heap.size w w' := by
  have hmm := @run_makeMap Try.prog
  go_enter Try.func17, Try.ntmps17
  have S : MB w ((w.alloc (Obj.cells #[.int .i64 o, .int .i64 p, .int .i64 c, .int .i64 wt, .int .i64 u] 31)).alloc (Obj.map #[] 0)) 0 (fun _ => none) #[.int .i64 o, .int .i64 p, .int .i64 c, .int .i64 wt, .int .i64 u] :=
    ⟨(Has.new _ _ _).alloc _, by simpa using GMap.made Try.prog (w.alloc (Obj.cells #[.int .i64 o, .int .i64 p, .int .i64 c, .int .i64 wt, .int .i64 u] 31)) 3, ((Below.refl _ _).alloc (Nat.le_refl _) _).alloc (by simp) _⟩
  go_wp2_with ((with_reducible refine is_insert ?_); go_loud (refine wpList_gm_insert _ rfl _ _ _ _ rfl keyed3 Try.underlying43 rfl S.map (by decide) _ _ (.int .i64 _) trivial rfl rfl (Maps.keyOf_int_mk Try.underlying3 (by decide)) ?_; rintro w' hG hT; have S' := S.step hG hT (by simp [ins, putM]) rfl; have hc := S'.cell; have hf := S'.free; clear S hG hT; have S := S'; clear S'))
  have hG := S.map.congr (all_eq o p c wt u)
  have hB := S.bel
  clear S hc hf
  go_wp2
  go_ret
  exact ⟨rfl, hG, hB⟩
end Go.Proofs.Ytjkogmfjfbmmiaa
