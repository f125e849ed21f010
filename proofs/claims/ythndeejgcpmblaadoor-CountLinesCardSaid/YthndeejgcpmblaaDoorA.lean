/- The names of the reasons: the walks of names, Names, Name, Parse. -/
import Derived.Test.YthndeejgcpmblaaDoorLib
import Derived.Test.YthndeejgcpmblaaDoorArgs
import Derived.Deep.WholeRow
import Derived.Test.YthndeejgcpmblaaDoorRows
namespace Go.Proofs.YthndeejgcpmblaaDoor
open Go.RowKit
set_option linter.unusedSimpArgs false
set_option linter.unusedVariables false

def words : List ByteArray := [⟨#[111, 107]⟩, ⟨#[97, 114, 103, 117, 109, 101, 110, 116]⟩, ⟨#[115, 104, 111, 114, 116]⟩, ⟨#[118, 101, 114, 115, 105, 111, 110]⟩, ⟨#[104, 101, 97, 100, 101, 114]⟩, ⟨#[108, 101, 110, 103, 116, 104]⟩, ⟨#[111, 112, 116, 105, 111, 110]⟩, ⟨#[115, 117, 109]⟩, ⟨#[102, 114, 97, 103, 109, 101, 110, 116]⟩, ⟨#[112, 114, 111, 116, 111, 99, 111, 108]⟩, ⟨#[116, 121, 112, 101]⟩, ⟨#[116, 116, 108]⟩, ⟨#[115, 101, 114, 118, 105, 99, 101]⟩, ⟨#[98, 97, 99, 107, 101, 110, 100]⟩, ⟨#[102, 108, 111, 119]⟩, ⟨#[115, 116, 97, 116, 101]⟩, ⟨#[102, 117, 108, 108]⟩, ⟨#[112, 111, 114, 116, 115]⟩, ⟨#[108, 111, 110, 103]⟩, ⟨#[110, 111, 110, 101]⟩, ⟨#[101, 120, 105, 115, 116, 115]⟩, ⟨#[102, 111, 114, 109]⟩]
def wordsV : Array Value := #[.string ⟨#[111, 107]⟩, .string ⟨#[97, 114, 103, 117, 109, 101, 110, 116]⟩, .string ⟨#[115, 104, 111, 114, 116]⟩, .string ⟨#[118, 101, 114, 115, 105, 111, 110]⟩, .string ⟨#[104, 101, 97, 100, 101, 114]⟩, .string ⟨#[108, 101, 110, 103, 116, 104]⟩, .string ⟨#[111, 112, 116, 105, 111, 110]⟩, .string ⟨#[115, 117, 109]⟩, .string ⟨#[102, 114, 97, 103, 109, 101, 110, 116]⟩, .string ⟨#[112, 114, 111, 116, 111, 99, 111, 108]⟩, .string ⟨#[116, 121, 112, 101]⟩, .string ⟨#[116, 116, 108]⟩, .string ⟨#[115, 101, 114, 118, 105, 99, 101]⟩, .string ⟨#[98, 97, 99, 107, 101, 110, 100]⟩, .string ⟨#[102, 108, 111, 119]⟩, .string ⟨#[115, 116, 97, 116, 101]⟩, .string ⟨#[102, 117, 108, 108]⟩, .string ⟨#[112, 111, 114, 116, 115]⟩, .string ⟨#[108, 111, 110, 103]⟩, .string ⟨#[110, 111, 110, 101]⟩, .string ⟨#[101, 120, 105, 115, 116, 115]⟩, .string ⟨#[102, 111, 114, 109]⟩]
theorem words_len : words.length = 22 := rfl
theorem all22 : ∀ k : Fin 22, wordsV[k.val]? = some (.string (words.getD k.val ⟨#[]⟩)) := by
  intro ⟨k, h⟩
  match k, h with
  | 0, _ => rfl
  | 1, _ => rfl
  | 2, _ => rfl
  | 3, _ => rfl
  | 4, _ => rfl
  | 5, _ => rfl
  | 6, _ => rfl
  | 7, _ => rfl
  | 8, _ => rfl
  | 9, _ => rfl
  | 10, _ => rfl
  | 11, _ => rfl
  | 12, _ => rfl
  | 13, _ => rfl
  | 14, _ => rfl
  | 15, _ => rfl
  | 16, _ => rfl
  | 17, _ => rfl
  | 18, _ => rfl
  | 19, _ => rfl
  | 20, _ => rfl
  | 21, _ => rfl
  | n + 22, h => exact absurd h (by omega)
theorem wordsV_get (k : Nat) (h : k < 22) : wordsV[k]? = some (.string (words.getD k ⟨#[]⟩)) := by
  have := all22 ⟨k, h⟩
  exact this

section
variable {P : Program} {ops : Array Oper} {rest : List Oper} {a : Act} {w : World} {Q : Exit → Act → World → Prop} {d : Option Tmp} {t ty : TypeId} {x v : Operand} {pos : String} {after : Array Edge} {g : Option (Nat × Bool)}
/-- Fits where the goal's next operation is a store. -/
theorem is_store (h : wpList P ops Q (⟨d, .store t x v, ty, pos, after, g⟩ :: rest) a w) : wpList P ops Q (⟨d, .store t x v, ty, pos, after, g⟩ :: rest) a w := h
end

section
variable {P : Program} {ops : Array Oper} {rest : List Oper} {o : Oper} {a : Act} {w : World} {Q : Exit → Act → World → Prop}
theorem wpList_store_new (hgd : o.guard = none) (ty : TypeId) (x y : Operand) (ho : o.op = .store ty x y) (w0 : World) (cells old : Array Value) (t : TypeId) (hw : w = w0.alloc (.cells old t))
    (hx : a.eval x = .pointer (some ⟨w0.heap.size, 0, none⟩)) (hy : a.eval y = .agg cells) (hi : (P.info? ty).map (·.size) = some cells.size)
    (hold : old.size = cells.size) (h1 : cells.all (·.oneCell') = true)
    (h : wpList P ops Q rest (a.put o.dst undef) (w0.alloc (.cells cells t))) : wpList P ops Q (o :: rest) a w := by
  subst hw
  refine wpList_store_row hgd ty x y ho w0.heap.size cells hx hy t old (heap_alloc_last w0 _) hi hold h1 ?_
  rw [World.setRow_alloc_new]
  exact h
end
theorem info46 : (Tryd.prog.info? 46).map (·.size) = some wordsV.size := by kernel_rfl

set_option maxRecDepth 100000 in
set_option maxHeartbeats 800000 in
theorem names_c (w : World) : Calls Tryd.prog 19 #[] w fun e w' => e = .returned (.agg wordsV) ∧ w' = w.alloc (.cells wordsV 46) := by
  go_enter Tryd.func19, Tryd.ntmps19
  go_wp2_with (with_reducible refine is_store ?_; go_loud (refine wpList_store_new rfl _ _ _ rfl w wordsV _ _ rfl rfl rfl info46 rfl (by kernel_rfl) ?_))
  exact bodyPost_ret (results_cell_row rfl _ _ w.heap.size 46 wordsV (0, 0) _ rfl (heap_alloc_last w _) Tryd.underlying46 rfl info46) rfl ⟨rfl, rfl⟩
theorem names_b (w : World) : Calls Tryd.prog 19 #[] w fun e w' => e = .returned (.agg wordsV) ∧ Below w.heap.size w w' :=
  (names_c w).mono fun e w' ⟨h, hw⟩ => ⟨h, by subst hw; exact (Below.refl _ _).alloc (Nat.le_refl _) _⟩

def nameS (e : Int) : ByteArray := if 0 ≤ e ∧ e < 22 then words.getD e.toNat ⟨#[]⟩ else ⟨#[]⟩
def nameB (e : Int) : Bool := decide (0 ≤ e) && decide (e < 22)
set_option maxRecDepth 100000 in
set_option maxHeartbeats 800000 in
theorem name_c (e0 : Int) (w : World) : Calls Tryd.prog 9 #[.int .i64 e0] w fun e w' => e = .returned (.tuple #[.string (nameS e0), .bool (nameB e0)]) ∧ Below w.heap.size w w' := by
  by_cases h0 : e0 < 0
  · have e1 : nameS e0 = ⟨#[]⟩ := by unfold nameS; rw [if_neg (by omega)]
    have e2 : nameB e0 = false := by unfold nameB; simp; omega
    rw [e1, e2]
    go_enter Tryd.func9, Tryd.ntmps9
    go_wp2
    go_ret2
    exact ⟨rfl, Below.refl _ _⟩
  by_cases h9 : 22 ≤ e0
  · have e1 : nameS e0 = ⟨#[]⟩ := by unfold nameS; rw [if_neg (by omega)]
    have e2 : nameB e0 = false := by unfold nameB; simp; omega
    rw [e1, e2]
    go_enter Tryd.func9, Tryd.ntmps9
    go_wp2
    go_ret2
    exact ⟨rfl, Below.refl _ _⟩
  obtain ⟨k, rfl⟩ : ∃ k : Nat, e0 = (k : Int) := ⟨e0.toNat, by omega⟩
  have hk : k < 22 := by omega
  have e1 : nameS k = words.getD k ⟨#[]⟩ := by unfold nameS; rw [if_pos (by omega)]; rfl
  have e2 : nameB k = true := by unfold nameB; simp; omega
  rw [e1, e2]
  have hg := wordsV_get k hk
  generalize words.getD k ⟨#[]⟩ = x at hg
  have hs : wordsV.size = 22 := rfl
  have hki : (k : Int) < 22 := by omega
  go_enter Tryd.func9, Tryd.ntmps9
  go_wp2_with fail
  refine (names_b w).mono ?_
  rintro e w1 ⟨rfl, hb⟩
  go_wp2_with (with_reducible refine is_store ?_; go_loud (refine wpList_store_new rfl _ _ _ rfl w1 wordsV _ _ rfl rfl rfl info46 rfl (by kernel_rfl) ?_))
  go_ret2
  have hg2 := hg
  simp [Array.getElem?_eq_getElem (show k < wordsV.size from hk)] at hg2
  exact ⟨by simp [hg2], hb.alloc hb.size _⟩

set_option maxRecDepth 100000 in
set_option maxHeartbeats 800000 in
theorem rnames_c (w : World) : Calls Tryd.prog 20 #[] w fun e w' => e = .returned (.slice (some ⟨w.heap.size, 0, none⟩) 22 22) ∧ w' = w.alloc (.cells wordsV 9) := by
  unfold wordsV
  go_enter Tryd.func20, Tryd.ntmps20
  go_wp2
  go_ret
  exact ⟨rfl, rfl⟩
end Go.Proofs.YthndeejgcpmblaaDoor
