/- The document's anchor (chapter 12): New at 5 buckets, one working. -/
import Derived.Test.YtngdebpaheejlaaGreatDoorZp
namespace Go.Proofs.YtngdebpaheejlaaGreatDoor
open Go.RowKit Go.Shelf
set_option linter.unusedSimpArgs false
set_option linter.unusedVariables false
theorem Row.col {c : Nat → Nat} {w w' : World} {t : TypeId} {size n d k : Nat} {v : Value} {xs : List Value} (h : Row (fun b => c b = d) w t size v n xs) (hC : Chg (fun b => c b = k) w w') (hd : d ≠ k) : Row (fun b => owner c w.heap.size k b = d) w' t size v n xs :=
  (h.cut.keep (fun b hb (e : c b = d ∧ b < w.heap.size) => hC.block b hb (fun (q : c b = k) => hd (by omega)))).mono (fun b (e : c b = d ∧ b < w.heap.size) => (own_lt e.2).trans e.1)
theorem Row.col' {c : Nat → Nat} {w w' : World} {t : TypeId} {size n k : Nat} {v : Value} {xs : List Value} (h : Row (fun b => c b = k ∨ w.heap.size ≤ b) w' t size v n xs) : Row (fun b => owner c w.heap.size k b = k) w' t size v n xs := h.mono (fun b e => own_new e)
theorem Row.set1 {S : Nat → Prop} {w : World} {t : TypeId} {size n a : Nat} {v : Value} {xs : List Value} (h : Row S w t size v n xs) (ha : ¬ S a) (i : Nat) (u : Value) : Row S (w.setCell ⟨a, i, none⟩ u) t size v n xs := h.setOther (fun e => ha (h.2 a e)) i u
def ints (n : Nat) : List Value := (List.range n).map fun (i : Nat) => .int .i64 (i : Int)
theorem ints_succ (n : Nat) : ints (n + 1) = ints n ++ [.int .i64 (n : Int)] := by simp [ints, List.range_succ]
theorem ints_len (n : Nat) : (ints n).length = n := by simp [ints]
/-- The document's anchor in memory; its blocks' colours from d on. -/
structure DAnc (c : Nat → Nat) (d : Nat) (w : World) (a A : Nat) (la : Array Value) (lw ll lk ls : List Value) (N : Int) : Prop where
  ca : c a = d
  cA : c A = d + 1
  head : ∃ sw sl sk ss, Has w a 204 #[.slice (some ⟨A, 0, none⟩) 5 5, sw, sl, sk, ss, .int .i64 N] ∧ Row (fun b => c b = d + 2) w 3 1 sw lw.length lw ∧ Row (fun b => c b = d + 3) w 3 1 sl ll.length ll ∧ Row (fun b => c b = d + 4) w 3 1 sk lk.length lk ∧ Row (fun b => c b = d + 5) w 3 1 ss ls.length ls
  arr : Has w A 3 la
def D1 (c : Nat → Nat) (d : Nat) (w : World) (a A : Nat) (wr : World) (j : Nat) : Prop :=
  ∃ c1, Ext (fun x => d ≤ x ∧ x ≤ d + 5) c c1 w.heap.size ∧ c1 a = d ∧ c1 A = d + 1 ∧ ∃ s0 s1 s2, Has wr a 204 #[.slice (some ⟨A, 0, none⟩) 5 5, s0, s1, s2, .slice none 0 0, .int .i64 1] ∧ Row (fun b => c1 b = d + 2) wr 3 1 s0 j (ints j) ∧ Row (fun b => c1 b = d + 3) wr 3 1 s1 j (ints j) ∧ Row (fun b => c1 b = d + 4) wr 3 1 s2 j (ints j) ∧ Has wr A 3 #[.int .i64 0, .int .i64 0, .int .i64 0, .int .i64 0, .int .i64 0] ∧ Below w.heap.size w wr
def laM : Nat → Array Value
  | 0 => #[.int .i64 0, .int .i64 0, .int .i64 0, .int .i64 0, .int .i64 0]
  | 1 => #[.int .i64 0, .int .i64 0, .int .i64 0, .int .i64 0, .int .i64 4]
  | 2 => #[.int .i64 0, .int .i64 0, .int .i64 0, .int .i64 3, .int .i64 4]
  | 3 => #[.int .i64 0, .int .i64 0, .int .i64 2, .int .i64 3, .int .i64 4]
  | _ => #[.int .i64 0, .int .i64 1, .int .i64 2, .int .i64 3, .int .i64 4]
def stM : Nat → List Value
  | 0 => []
  | 1 => [.int .i64 4]
  | 2 => [.int .i64 4, .int .i64 3]
  | 3 => [.int .i64 4, .int .i64 3, .int .i64 2]
  | _ => [.int .i64 4, .int .i64 3, .int .i64 2, .int .i64 1]
def D2 (c : Nat → Nat) (d : Nat) (w : World) (a A : Nat) (wr : World) (m : Nat) : Prop :=
  ∃ c1, Ext (fun x => d ≤ x ∧ x ≤ d + 5) c c1 w.heap.size ∧ c1 a = d ∧ c1 A = d + 1 ∧ ∃ s0 s1 s2 s3, Has wr a 204 #[.slice (some ⟨A, 0, none⟩) 5 5, s0, s1, s2, s3, .int .i64 1] ∧ Row (fun b => c1 b = d + 2) wr 3 1 s0 5 (ints 5) ∧ Row (fun b => c1 b = d + 3) wr 3 1 s1 5 (ints 5) ∧ Row (fun b => c1 b = d + 4) wr 3 1 s2 5 (ints 5) ∧ Row (fun b => c1 b = d + 5) wr 3 1 s3 m (stM m) ∧ Has wr A 3 (laM m) ∧ Below w.heap.size w wr
theorem hcn1 (w : World) (v : Value) : ∀ (j : Nat) (u : Value), [v][j]? = some u → (w.alloc (.cells #[v] 3)).cell? ((⟨w.heap.size, 0, none⟩ : Addr).add j) = some u := fun j u hj => by
  have := (Has.new w #[v] 3).cell j
  rw [add_none, Nat.zero_add, this]
  simpa using hj
set_option maxRecDepth 100000 in
set_option maxHeartbeats 6400000 in
theorem danew_c (d : Nat) (hd : 1 ≤ d) (w : World) : Calls Tryz.prog 63 #[.int .i64 5, .int .i64 1] w fun e w' => ∃ a, e = .returned (.pointer (some ⟨a, 0, none⟩)) ∧ ∃ A c', Ext (fun x => d ≤ x ∧ x ≤ d + 5) (fun _ => 0) c' w.heap.size ∧ DAnc c' d w' a A #[.int .i64 0, .int .i64 1, .int .i64 2, .int .i64 3, .int .i64 4] (ints 5) (ints 5) (ints 5) [.int .i64 4, .int .i64 3, .int .i64 2, .int .i64 1] 1 ∧ Below w.heap.size w w' := by
  obtain ⟨c, hc⟩ : ∃ c : Nat → Nat, c = fun _ => 0 := ⟨_, rfl⟩
  rw [← hc]
  have HC0 : Hid (∀ b, c b = 0) := fun b => by rw [hc]
  clear hc
  obtain ⟨i0, hi0, hz0, hs0, hb0⟩ := info_parts info3
  have hmk : ∀ W : World, (Instr.makeSlice 114 (.int .i64 5) (.int .i64 5)).run Tryz.prog W = .ok (.slice (some ⟨W.heap.size, 0, none⟩) 5 5) (W.alloc (.cells #[.int .i64 0, .int .i64 0, .int .i64 0, .int .i64 0, .int .i64 0] 3)) := fun W => by kernel_rfl
  go_enter Tryz.func63, Tryz.ntmps63
  go_wp2_with fail
  obtain ⟨A, hA⟩ : ∃ A, A = w.heap.size := ⟨_, rfl⟩
  obtain ⟨a, ha⟩ : ∃ a, a = w.heap.size + 1 := ⟨_, rfl⟩
  have LO := Lib.hid (And.intro hA ha)
  have INI : Hid (D1 c d w a A ((w.alloc (.cells #[.int .i64 0, .int .i64 0, .int .i64 0, .int .i64 0, .int .i64 0] 3)).alloc (.cells #[.slice (some ⟨A, 0, none⟩) 5 5, .slice none 0 0, .slice none 0 0, .slice none 0 0, .slice none 0 0, .int .i64 1] 204)) 0) := by
    refine ⟨fun b => if b < w.heap.size then c b else if b = a then d else d + 1, ⟨fun b hb => if_pos hb, fun b hb => ?_⟩, ?_, ?_, _, _, _, has_made (by simp; omega), Row.nil _ _ _ _, Row.nil _ _ _ _, Row.nil _ _ _ _, by rw [hA]; exact (Has.new _ _ _).alloc _, ((Below.refl _ _).alloc (Nat.le_refl _) _).alloc (by simp) _⟩
    · show d ≤ (if b < w.heap.size then c b else if b = a then d else d + 1) ∧ (if b < w.heap.size then c b else if b = a then d else d + 1) ≤ d + 5
      rw [if_neg (by omega)]
      split <;> omega
    · show (if a < w.heap.size then c a else if a = a then d else d + 1) = d
      rw [if_neg (by omega), if_pos rfl]
    · show (if A < w.heap.size then c A else if A = a then d else d + 1) = d + 1
      rw [if_neg (by omega), if_neg (by omega)]
  rw [← ha, ← hA]
  clear ha hA hmk
  generalize ((w.alloc (.cells #[.int .i64 0, .int .i64 0, .int .i64 0, .int .i64 0, .int .i64 0] 3)).alloc (.cells #[.slice (some ⟨A, 0, none⟩) 5 5, .slice none 0 0, .slice none 0 0, .slice none 0 0, .slice none 0 0, .int .i64 1] 204)) = w1 at INI ⊢
  go_loopw [6] (fun i wr => ∃ j : Nat, j ≤ 5 ∧ i = .int .i64 (j : Int) ∧ Hid (D1 c d w a A wr j)) (fun i _ => 5 - (intOf i).toNat)
  case atStart => exact ⟨0, by omega, rfl, INI.out⟩
  case round =>
    obtain ⟨j, hj, rfl, HD⟩ := hrel
    obtain ⟨c0, hE, ca, cA, s0, s1, s2, hH, R0, R1, R2, hAr, hB⟩ := HD.out
    have HE := Lib.hid hE
    clear hE
    by_cases h : j < 5
    · have hi : (j : Int) < 5 := by omega
      have c_ := (hH.cell 1).trans rfl
      have OWN := R0.1
      have ll0 := ints_len j
      have HS0 := Lib.hid (And.intro hH (And.intro R0 (And.intro R1 (And.intro R2 (And.intro hAr hB)))))
      have hmx : j + 1 ≤ maxLen := by unfold maxLen; omega
      have HCN : Hid (∀ (jj : Nat) (u : Value), [Value.int .i64 (j : Int)][jj]? = some u → ((wr).alloc (.cells #[.int .i64 (j : Int)] 3)).cell? ((⟨wr.heap.size, 0, none⟩ : Addr).add jj) = some u) := by have := hcn1 (wr) (.int .i64 (j : Int)); show ∀ (jj : Nat) (u : Value), _ → _ = _; simpa using this
      clear hH R0 R1 R2 hAr hB
      go_wp2_with (at_builtin; go_loud (refine wpList_append_lies _ rfl _ _ 114 rfl 0 3 i0 _ 1 8 Tryz.underlying114 hi0 hz0 hs0 hb0 rfl (by decide) _ j _ rfl (OWN.alloc _) ⟨wr.heap.size, 0, none⟩ 1 1 [.int .i64 (j : Int)] rfl rfl HCN.out (by simp [Value.oneCell']) (by omega) hmx (by omega) (by simp) (wr.heap.size + 1) (by simp) ?_))
      intro g0 cap0 wt0 own G hat hlt
      obtain ⟨hH, R0, R1, R2, hAr, hB⟩ := HS0.out
      have alt := hH.lt
      have Alt := hAr.lt
      have hE2 := HE.out.trans ((own_ext c0 (wr).heap.size (d + 2)).mono (D := fun x => d ≤ x ∧ x ≤ d + 5) (fun x e => by omega)) hB.size
      obtain ⟨RN, hC, hz, up⟩ := R0.app own G (by simpa using hat)
      have hH := hH.chg hC (fun e => by omega)
      have hAr := hAr.chg hC (fun e => by omega)
      have hB : Below w.heap.size w wt0 := hB.trans ⟨hC.os, hC.tape, hC.output, hC.size, fun k hk => hC.block k (Nat.lt_of_lt_of_le hk hB.size) (fun (e : c0 k = d + 2) => by have h1 := HE.out.1 k hk; have h2 := HC0.out k; omega)⟩
      have RN := Row.col' RN
      have R1 := R1.col hC (by omega)
      have R2 := R2.col hC (by omega)
      have R0 := RN
      rw [← ints_succ] at R0
      have ca := (own_lt (o := c0) (c := d + 2) alt).trans ca
      have cA := (own_lt (o := c0) (c := d + 2) Alt).trans cA
      obtain ⟨c1, hcn⟩ : ∃ O, O = owner c0 (wr).heap.size (d + 2) := ⟨_, rfl⟩
      rw [← hcn] at ca cA R0 R1 R2 hE2
      have HE := Lib.hid hE2
      have ct := (hH.cell 1).trans rfl
      have cf := hH.free 1
      have hHs : Has (wt0.setCell ⟨a, 1, none⟩ (.slice (some ⟨g0, 0, none⟩) (j + 1) cap0)) a 204 #[.slice (some ⟨A, 0, none⟩) 5 5, .slice (some ⟨g0, 0, none⟩) (j + 1) cap0, s1, s2, .slice none 0 0, .int .i64 1] := by
        have := hH.set 1 (.slice (some ⟨g0, 0, none⟩) (j + 1) cap0)
        simp only [List.setIfInBounds_toArray, List.set] at this
        exact this
      have R0 := R0.set1 (a := a) (fun (e : c1 a = d + 2) => by omega) 1 (.slice (some ⟨g0, 0, none⟩) (j + 1) cap0)
      have R1 := R1.set1 (a := a) (fun (e : c1 a = d + 3) => by omega) 1 (.slice (some ⟨g0, 0, none⟩) (j + 1) cap0)
      have R2 := R2.set1 (a := a) (fun (e : c1 a = d + 4) => by omega) 1 (.slice (some ⟨g0, 0, none⟩) (j + 1) cap0)
      have hAr := hAr.setOther (c := a) 1 (fun e => by rw [e] at cA; omega) (.slice (some ⟨g0, 0, none⟩) (j + 1) cap0)
      have hB := hB.setCell (p := ⟨a, 1, none⟩) (by have := LO.out; show w.heap.size ≤ a; omega) (.slice (some ⟨g0, 0, none⟩) (j + 1) cap0)
      have hH := hHs
      clear hE2 hC RN own G hat hlt hz up hcn hHs OWN c_ HCN
      have c_ := (hH.cell 2).trans rfl
      have OWN := R1.1
      have ll1 := ints_len j
      have HS1 := Lib.hid (And.intro hH (And.intro R0 (And.intro R1 (And.intro R2 (And.intro hAr hB)))))
      have hmx : j + 1 ≤ maxLen := by unfold maxLen; omega
      have HCN : Hid (∀ (jj : Nat) (u : Value), [Value.int .i64 (j : Int)][jj]? = some u → ((wt0.setCell ⟨a, 1, none⟩ (.slice (some ⟨g0, 0, none⟩) (j + 1) cap0)).alloc (.cells #[.int .i64 (j : Int)] 3)).cell? ((⟨wt0.heap.size, 0, none⟩ : Addr).add jj) = some u) := by have := hcn1 (wt0.setCell ⟨a, 1, none⟩ (.slice (some ⟨g0, 0, none⟩) (j + 1) cap0)) (.int .i64 (j : Int)); show ∀ (jj : Nat) (u : Value), _ → _ = _; simpa using this
      clear hH R0 R1 R2 hAr hB
      go_wp2_with (at_builtin; go_loud (refine wpList_append_lies _ rfl _ _ 114 rfl 0 3 i0 _ 1 8 Tryz.underlying114 hi0 hz0 hs0 hb0 rfl (by decide) _ j _ rfl (OWN.alloc _) ⟨wt0.heap.size, 0, none⟩ 1 1 [.int .i64 (j : Int)] rfl rfl HCN.out (by simp [Value.oneCell']) (by omega) hmx (by omega) (by simp) (wt0.heap.size + 1) (by simp) ?_))
      intro g1 cap1 wt1 own G hat hlt
      obtain ⟨hH, R0, R1, R2, hAr, hB⟩ := HS1.out
      have alt := hH.lt
      have Alt := hAr.lt
      have hE2 := HE.out.trans ((own_ext c1 (wt0.setCell ⟨a, 1, none⟩ (.slice (some ⟨g0, 0, none⟩) (j + 1) cap0)).heap.size (d + 3)).mono (D := fun x => d ≤ x ∧ x ≤ d + 5) (fun x e => by omega)) hB.size
      obtain ⟨RN, hC, hz, up⟩ := R1.app own G (by simpa using hat)
      have hH := hH.chg hC (fun e => by omega)
      have hAr := hAr.chg hC (fun e => by omega)
      have hB : Below w.heap.size w wt1 := hB.trans ⟨hC.os, hC.tape, hC.output, hC.size, fun k hk => hC.block k (Nat.lt_of_lt_of_le hk hB.size) (fun (e : c1 k = d + 3) => by have h1 := HE.out.1 k hk; have h2 := HC0.out k; omega)⟩
      have RN := Row.col' RN
      have R0 := R0.col hC (by omega)
      have R2 := R2.col hC (by omega)
      have R1 := RN
      rw [← ints_succ] at R1
      have ca := (own_lt (o := c1) (c := d + 3) alt).trans ca
      have cA := (own_lt (o := c1) (c := d + 3) Alt).trans cA
      obtain ⟨c2, hcn⟩ : ∃ O, O = owner c1 (wt0.setCell ⟨a, 1, none⟩ (.slice (some ⟨g0, 0, none⟩) (j + 1) cap0)).heap.size (d + 3) := ⟨_, rfl⟩
      rw [← hcn] at ca cA R0 R1 R2 hE2
      have HE := Lib.hid hE2
      have ct := (hH.cell 2).trans rfl
      have cf := hH.free 2
      have hHs : Has (wt1.setCell ⟨a, 2, none⟩ (.slice (some ⟨g1, 0, none⟩) (j + 1) cap1)) a 204 #[.slice (some ⟨A, 0, none⟩) 5 5, .slice (some ⟨g0, 0, none⟩) (j + 1) cap0, .slice (some ⟨g1, 0, none⟩) (j + 1) cap1, s2, .slice none 0 0, .int .i64 1] := by
        have := hH.set 2 (.slice (some ⟨g1, 0, none⟩) (j + 1) cap1)
        simp only [List.setIfInBounds_toArray, List.set] at this
        exact this
      have R0 := R0.set1 (a := a) (fun (e : c2 a = d + 2) => by omega) 2 (.slice (some ⟨g1, 0, none⟩) (j + 1) cap1)
      have R1 := R1.set1 (a := a) (fun (e : c2 a = d + 3) => by omega) 2 (.slice (some ⟨g1, 0, none⟩) (j + 1) cap1)
      have R2 := R2.set1 (a := a) (fun (e : c2 a = d + 4) => by omega) 2 (.slice (some ⟨g1, 0, none⟩) (j + 1) cap1)
      have hAr := hAr.setOther (c := a) 2 (fun e => by rw [e] at cA; omega) (.slice (some ⟨g1, 0, none⟩) (j + 1) cap1)
      have hB := hB.setCell (p := ⟨a, 2, none⟩) (by have := LO.out; show w.heap.size ≤ a; omega) (.slice (some ⟨g1, 0, none⟩) (j + 1) cap1)
      have hH := hHs
      clear hE2 hC RN own G hat hlt hz up hcn hHs OWN c_ HCN
      have c_ := (hH.cell 3).trans rfl
      have OWN := R2.1
      have ll2 := ints_len j
      have HS2 := Lib.hid (And.intro hH (And.intro R0 (And.intro R1 (And.intro R2 (And.intro hAr hB)))))
      have hmx : j + 1 ≤ maxLen := by unfold maxLen; omega
      have HCN : Hid (∀ (jj : Nat) (u : Value), [Value.int .i64 (j : Int)][jj]? = some u → ((wt1.setCell ⟨a, 2, none⟩ (.slice (some ⟨g1, 0, none⟩) (j + 1) cap1)).alloc (.cells #[.int .i64 (j : Int)] 3)).cell? ((⟨wt1.heap.size, 0, none⟩ : Addr).add jj) = some u) := by have := hcn1 (wt1.setCell ⟨a, 2, none⟩ (.slice (some ⟨g1, 0, none⟩) (j + 1) cap1)) (.int .i64 (j : Int)); show ∀ (jj : Nat) (u : Value), _ → _ = _; simpa using this
      clear hH R0 R1 R2 hAr hB
      go_wp2_with (at_builtin; go_loud (refine wpList_append_lies _ rfl _ _ 114 rfl 0 3 i0 _ 1 8 Tryz.underlying114 hi0 hz0 hs0 hb0 rfl (by decide) _ j _ rfl (OWN.alloc _) ⟨wt1.heap.size, 0, none⟩ 1 1 [.int .i64 (j : Int)] rfl rfl HCN.out (by simp [Value.oneCell']) (by omega) hmx (by omega) (by simp) (wt1.heap.size + 1) (by simp) ?_))
      intro g2 cap2 wt2 own G hat hlt
      obtain ⟨hH, R0, R1, R2, hAr, hB⟩ := HS2.out
      have alt := hH.lt
      have Alt := hAr.lt
      have hE2 := HE.out.trans ((own_ext c2 (wt1.setCell ⟨a, 2, none⟩ (.slice (some ⟨g1, 0, none⟩) (j + 1) cap1)).heap.size (d + 4)).mono (D := fun x => d ≤ x ∧ x ≤ d + 5) (fun x e => by omega)) hB.size
      obtain ⟨RN, hC, hz, up⟩ := R2.app own G (by simpa using hat)
      have hH := hH.chg hC (fun e => by omega)
      have hAr := hAr.chg hC (fun e => by omega)
      have hB : Below w.heap.size w wt2 := hB.trans ⟨hC.os, hC.tape, hC.output, hC.size, fun k hk => hC.block k (Nat.lt_of_lt_of_le hk hB.size) (fun (e : c2 k = d + 4) => by have h1 := HE.out.1 k hk; have h2 := HC0.out k; omega)⟩
      have RN := Row.col' RN
      have R0 := R0.col hC (by omega)
      have R1 := R1.col hC (by omega)
      have R2 := RN
      rw [← ints_succ] at R2
      have ca := (own_lt (o := c2) (c := d + 4) alt).trans ca
      have cA := (own_lt (o := c2) (c := d + 4) Alt).trans cA
      obtain ⟨c3, hcn⟩ : ∃ O, O = owner c2 (wt1.setCell ⟨a, 2, none⟩ (.slice (some ⟨g1, 0, none⟩) (j + 1) cap1)).heap.size (d + 4) := ⟨_, rfl⟩
      rw [← hcn] at ca cA R0 R1 R2 hE2
      have HE := Lib.hid hE2
      have ct := (hH.cell 3).trans rfl
      have cf := hH.free 3
      have hHs : Has (wt2.setCell ⟨a, 3, none⟩ (.slice (some ⟨g2, 0, none⟩) (j + 1) cap2)) a 204 #[.slice (some ⟨A, 0, none⟩) 5 5, .slice (some ⟨g0, 0, none⟩) (j + 1) cap0, .slice (some ⟨g1, 0, none⟩) (j + 1) cap1, .slice (some ⟨g2, 0, none⟩) (j + 1) cap2, .slice none 0 0, .int .i64 1] := by
        have := hH.set 3 (.slice (some ⟨g2, 0, none⟩) (j + 1) cap2)
        simp only [List.setIfInBounds_toArray, List.set] at this
        exact this
      have R0 := R0.set1 (a := a) (fun (e : c3 a = d + 2) => by omega) 3 (.slice (some ⟨g2, 0, none⟩) (j + 1) cap2)
      have R1 := R1.set1 (a := a) (fun (e : c3 a = d + 3) => by omega) 3 (.slice (some ⟨g2, 0, none⟩) (j + 1) cap2)
      have R2 := R2.set1 (a := a) (fun (e : c3 a = d + 4) => by omega) 3 (.slice (some ⟨g2, 0, none⟩) (j + 1) cap2)
      have hAr := hAr.setOther (c := a) 3 (fun e => by rw [e] at cA; omega) (.slice (some ⟨g2, 0, none⟩) (j + 1) cap2)
      have hB := hB.setCell (p := ⟨a, 3, none⟩) (by have := LO.out; show w.heap.size ≤ a; omega) (.slice (some ⟨g2, 0, none⟩) (j + 1) cap2)
      have hH := hHs
      clear hE2 hC RN own G hat hlt hz up hcn hHs OWN c_ HCN
      have FIN : Hid (D1 c d w a A (wt2.setCell ⟨a, 3, none⟩ (.slice (some ⟨g2, 0, none⟩) (j + 1) cap2)) (j + 1)) := ⟨c3, HE.out, ca, cA, _, _, _, hH, R0, R1, R2, hAr, hB⟩
      clear hH R0 R1 R2 hAr hB HS0 HS1 HS2
      go_wp2_with fail
      go_roundw
      case rel => exact ⟨j + 1, by omega, by simp, FIN.out⟩
      case measure => simp [intOf]; omega
    · have hj5 : j = 5 := by omega
      subst hj5
      have hi : ¬ ((5 : Nat) : Int) < 5 := by decide
      have IN2 : Hid (D2 c d w a A wr 0) := ⟨c0, HE.out, ca, cA, _, _, _, _, hH, R0, R1, R2, Row.nil _ _ _ _, hAr, hB⟩
      clear hH R0 R1 R2 hAr hB ca cA HE HD
      go_wp2_with fail
      go_loopw [7] (fun i wr => ∃ m : Nat, m ≤ 4 ∧ i = .int .i64 (4 - (m : Int)) ∧ Hid (D2 c d w a A wr m)) (fun i _ => (intOf i).toNat)
      case atStart => exact ⟨0, by omega, rfl, IN2.out⟩
      case round =>
        obtain ⟨m, hm, rfl, HD⟩ := hrel
        obtain ⟨c0, hE, ca, cA, s0, s1, s2, s3, hH, R0, R1, R2, R3, hAr, hB⟩ := HD.out
        have HE := Lib.hid hE
        clear hE HD
        have hm5 : m = 0 ∨ m = 1 ∨ m = 2 ∨ m = 3 ∨ m = 4 := by omega
        clear hm
        rcases hm5 with rfl | rfl | rfl | rfl | rfl
        · have alt := hH.lt
          have Alt := hAr.lt
          have aA : a ≠ A := fun e => by rw [e] at ca; omega
          have Aw : w.heap.size ≤ A := by have := LO.out; omega
          have aw : w.heap.size ≤ a := by have := LO.out; omega
          have t0 := (hAr.cell 4).trans rfl
          have tf := hAr.free 4
          have u0 := (hH.cell 0).trans rfl
          have u4 := (hH.cell 4).trans rfl
          have hAr : Has (wr.setCell ⟨A, 4, none⟩ (.int .i64 4)) A 3 (laM 1) := by
            have := hAr.set 4 (.int .i64 4)
            simp only [laM, List.setIfInBounds_toArray, List.set] at this
            exact this
          have hH := hH.setOther (c := A) 4 aA (.int .i64 4)
          have R0 := R0.set1 (a := A) (fun (e : c0 A = d + 2) => by omega) 4 (.int .i64 4)
          have R1 := R1.set1 (a := A) (fun (e : c0 A = d + 3) => by omega) 4 (.int .i64 4)
          have R2 := R2.set1 (a := A) (fun (e : c0 A = d + 4) => by omega) 4 (.int .i64 4)
          have R3 := R3.set1 (a := A) (fun (e : c0 A = d + 5) => by omega) 4 (.int .i64 4)
          have hB := hB.setCell (p := ⟨A, 4, none⟩) Aw (.int .i64 4)
          have OWN := R3.1
          have HS := Lib.hid (And.intro hH (And.intro R0 (And.intro R1 (And.intro R2 (And.intro R3 (And.intro hAr hB))))))
          have HCN : Hid (∀ (jj : Nat) (u : Value), [Value.int .i64 4][jj]? = some u → ((wr.setCell ⟨A, 4, none⟩ (.int .i64 4)).alloc (.cells #[.int .i64 4] 3)).cell? ((⟨wr.heap.size, 0, none⟩ : Addr).add jj) = some u) := by have := hcn1 (wr.setCell ⟨A, 4, none⟩ (.int .i64 4)) (.int .i64 4); show ∀ (jj : Nat) (u : Value), _ → _ = _; simpa using this
          clear hH R0 R1 R2 R3 hAr hB
          go_wp2_with (at_builtin; go_loud (refine wpList_append_lies _ rfl _ _ 114 rfl 0 3 i0 _ 1 8 Tryz.underlying114 hi0 hz0 hs0 hb0 rfl (by decide) _ 0 _ rfl (OWN.alloc _) ⟨wr.heap.size, 0, none⟩ 1 1 [.int .i64 4] rfl rfl HCN.out (by simp [Value.oneCell']) (by omega) (by unfold maxLen; omega) (by omega) (by simp) (wr.heap.size + 1) (by simp) ?_))
          intro g cap wt own G hat hlt
          obtain ⟨hH, R0, R1, R2, R3, hAr, hB⟩ := HS.out
          have alt := hH.lt
          have Alt := hAr.lt
          have hE2 := HE.out.trans ((own_ext c0 (wr.setCell ⟨A, 4, none⟩ (.int .i64 4)).heap.size (d + 5)).mono (D := fun x => d ≤ x ∧ x ≤ d + 5) (fun x e => by omega)) hB.size
          obtain ⟨RN, hC, hz, up⟩ := R3.app own G (by simpa using hat)
          have hH := hH.chg hC (fun e => by omega)
          have hAr := hAr.chg hC (fun e => by omega)
          have hB : Below w.heap.size w wt := hB.trans ⟨hC.os, hC.tape, hC.output, hC.size, fun k hk => hC.block k (Nat.lt_of_lt_of_le hk hB.size) (fun (e : c0 k = d + 5) => by have h1 := HE.out.1 k hk; have h2 := HC0.out k; omega)⟩
          have R3 : Row (fun x => owner c0 (wr.setCell ⟨A, 4, none⟩ (.int .i64 4)).heap.size (d + 5) x = d + 5) wt 3 1 (.slice (some ⟨g, 0, none⟩) (0 + 1) cap) (0 + 1) (stM 1) := Row.col' RN
          have R0 := R0.col hC (by omega)
          have R1 := R1.col hC (by omega)
          have R2 := R2.col hC (by omega)
          have ca := (own_lt (o := c0) (c := d + 5) alt).trans ca
          have cA := (own_lt (o := c0) (c := d + 5) Alt).trans cA
          obtain ⟨c1, hcn⟩ : ∃ O, O = owner c0 (wr.setCell ⟨A, 4, none⟩ (.int .i64 4)).heap.size (d + 5) := ⟨_, rfl⟩
          rw [← hcn] at ca cA R0 R1 R2 R3 hE2
          have HE := Lib.hid hE2
          have ct := (hH.cell 4).trans rfl
          have cf := hH.free 4
          have hHs : Has (wt.setCell ⟨a, 4, none⟩ (.slice (some ⟨g, 0, none⟩) (0 + 1) cap)) a 204 #[.slice (some ⟨A, 0, none⟩) 5 5, s0, s1, s2, .slice (some ⟨g, 0, none⟩) (0 + 1) cap, .int .i64 1] := by
            have := hH.set 4 (.slice (some ⟨g, 0, none⟩) (0 + 1) cap)
            simp only [List.setIfInBounds_toArray, List.set] at this
            exact this
          have R0 := R0.set1 (a := a) (fun (e : c1 a = d + 2) => by omega) 4 (.slice (some ⟨g, 0, none⟩) (0 + 1) cap)
          have R1 := R1.set1 (a := a) (fun (e : c1 a = d + 3) => by omega) 4 (.slice (some ⟨g, 0, none⟩) (0 + 1) cap)
          have R2 := R2.set1 (a := a) (fun (e : c1 a = d + 4) => by omega) 4 (.slice (some ⟨g, 0, none⟩) (0 + 1) cap)
          have R3 := R3.set1 (a := a) (fun (e : c1 a = d + 5) => by omega) 4 (.slice (some ⟨g, 0, none⟩) (0 + 1) cap)
          have hAr := hAr.setOther (c := a) 4 (fun e => aA e.symm) (.slice (some ⟨g, 0, none⟩) (0 + 1) cap)
          have hB := hB.setCell (p := ⟨a, 4, none⟩) aw (.slice (some ⟨g, 0, none⟩) (0 + 1) cap)
          have FIN : Hid (D2 c d w a A (wt.setCell ⟨a, 4, none⟩ (.slice (some ⟨g, 0, none⟩) (0 + 1) cap)) 1) := ⟨c1, HE.out, ca, cA, _, _, _, _, hHs, R0, R1, R2, R3, hAr, hB⟩
          clear hE2 hC RN own G hat hlt hz up hcn hHs OWN HCN hH R0 R1 R2 R3 hAr hB HS t0 tf u0 u4
          go_wp2_with fail
          go_roundw
          case rel => exact ⟨1, by omega, by simp, FIN.out⟩
          case measure => simp [intOf]
        · have alt := hH.lt
          have Alt := hAr.lt
          have aA : a ≠ A := fun e => by rw [e] at ca; omega
          have Aw : w.heap.size ≤ A := by have := LO.out; omega
          have aw : w.heap.size ≤ a := by have := LO.out; omega
          have t0 := (hAr.cell 3).trans rfl
          have tf := hAr.free 3
          have u0 := (hH.cell 0).trans rfl
          have u4 := (hH.cell 4).trans rfl
          have hAr : Has (wr.setCell ⟨A, 3, none⟩ (.int .i64 3)) A 3 (laM 2) := by
            have := hAr.set 3 (.int .i64 3)
            simp only [laM, List.setIfInBounds_toArray, List.set] at this
            exact this
          have hH := hH.setOther (c := A) 3 aA (.int .i64 3)
          have R0 := R0.set1 (a := A) (fun (e : c0 A = d + 2) => by omega) 3 (.int .i64 3)
          have R1 := R1.set1 (a := A) (fun (e : c0 A = d + 3) => by omega) 3 (.int .i64 3)
          have R2 := R2.set1 (a := A) (fun (e : c0 A = d + 4) => by omega) 3 (.int .i64 3)
          have R3 := R3.set1 (a := A) (fun (e : c0 A = d + 5) => by omega) 3 (.int .i64 3)
          have hB := hB.setCell (p := ⟨A, 3, none⟩) Aw (.int .i64 3)
          have OWN := R3.1
          have HS := Lib.hid (And.intro hH (And.intro R0 (And.intro R1 (And.intro R2 (And.intro R3 (And.intro hAr hB))))))
          have HCN : Hid (∀ (jj : Nat) (u : Value), [Value.int .i64 3][jj]? = some u → ((wr.setCell ⟨A, 3, none⟩ (.int .i64 3)).alloc (.cells #[.int .i64 3] 3)).cell? ((⟨wr.heap.size, 0, none⟩ : Addr).add jj) = some u) := by have := hcn1 (wr.setCell ⟨A, 3, none⟩ (.int .i64 3)) (.int .i64 3); show ∀ (jj : Nat) (u : Value), _ → _ = _; simpa using this
          clear hH R0 R1 R2 R3 hAr hB
          go_wp2_with (at_builtin; go_loud (refine wpList_append_lies _ rfl _ _ 114 rfl 0 3 i0 _ 1 8 Tryz.underlying114 hi0 hz0 hs0 hb0 rfl (by decide) _ 1 _ rfl (OWN.alloc _) ⟨wr.heap.size, 0, none⟩ 1 1 [.int .i64 3] rfl rfl HCN.out (by simp [Value.oneCell']) (by omega) (by unfold maxLen; omega) (by omega) (by simp) (wr.heap.size + 1) (by simp) ?_))
          intro g cap wt own G hat hlt
          obtain ⟨hH, R0, R1, R2, R3, hAr, hB⟩ := HS.out
          have alt := hH.lt
          have Alt := hAr.lt
          have hE2 := HE.out.trans ((own_ext c0 (wr.setCell ⟨A, 3, none⟩ (.int .i64 3)).heap.size (d + 5)).mono (D := fun x => d ≤ x ∧ x ≤ d + 5) (fun x e => by omega)) hB.size
          obtain ⟨RN, hC, hz, up⟩ := R3.app own G (by simpa using hat)
          have hH := hH.chg hC (fun e => by omega)
          have hAr := hAr.chg hC (fun e => by omega)
          have hB : Below w.heap.size w wt := hB.trans ⟨hC.os, hC.tape, hC.output, hC.size, fun k hk => hC.block k (Nat.lt_of_lt_of_le hk hB.size) (fun (e : c0 k = d + 5) => by have h1 := HE.out.1 k hk; have h2 := HC0.out k; omega)⟩
          have R3 : Row (fun x => owner c0 (wr.setCell ⟨A, 3, none⟩ (.int .i64 3)).heap.size (d + 5) x = d + 5) wt 3 1 (.slice (some ⟨g, 0, none⟩) (1 + 1) cap) (1 + 1) (stM 2) := Row.col' RN
          have R0 := R0.col hC (by omega)
          have R1 := R1.col hC (by omega)
          have R2 := R2.col hC (by omega)
          have ca := (own_lt (o := c0) (c := d + 5) alt).trans ca
          have cA := (own_lt (o := c0) (c := d + 5) Alt).trans cA
          obtain ⟨c1, hcn⟩ : ∃ O, O = owner c0 (wr.setCell ⟨A, 3, none⟩ (.int .i64 3)).heap.size (d + 5) := ⟨_, rfl⟩
          rw [← hcn] at ca cA R0 R1 R2 R3 hE2
          have HE := Lib.hid hE2
          have ct := (hH.cell 4).trans rfl
          have cf := hH.free 4
          have hHs : Has (wt.setCell ⟨a, 4, none⟩ (.slice (some ⟨g, 0, none⟩) (1 + 1) cap)) a 204 #[.slice (some ⟨A, 0, none⟩) 5 5, s0, s1, s2, .slice (some ⟨g, 0, none⟩) (1 + 1) cap, .int .i64 1] := by
            have := hH.set 4 (.slice (some ⟨g, 0, none⟩) (1 + 1) cap)
            simp only [List.setIfInBounds_toArray, List.set] at this
            exact this
          have R0 := R0.set1 (a := a) (fun (e : c1 a = d + 2) => by omega) 4 (.slice (some ⟨g, 0, none⟩) (1 + 1) cap)
          have R1 := R1.set1 (a := a) (fun (e : c1 a = d + 3) => by omega) 4 (.slice (some ⟨g, 0, none⟩) (1 + 1) cap)
          have R2 := R2.set1 (a := a) (fun (e : c1 a = d + 4) => by omega) 4 (.slice (some ⟨g, 0, none⟩) (1 + 1) cap)
          have R3 := R3.set1 (a := a) (fun (e : c1 a = d + 5) => by omega) 4 (.slice (some ⟨g, 0, none⟩) (1 + 1) cap)
          have hAr := hAr.setOther (c := a) 4 (fun e => aA e.symm) (.slice (some ⟨g, 0, none⟩) (1 + 1) cap)
          have hB := hB.setCell (p := ⟨a, 4, none⟩) aw (.slice (some ⟨g, 0, none⟩) (1 + 1) cap)
          have FIN : Hid (D2 c d w a A (wt.setCell ⟨a, 4, none⟩ (.slice (some ⟨g, 0, none⟩) (1 + 1) cap)) 2) := ⟨c1, HE.out, ca, cA, _, _, _, _, hHs, R0, R1, R2, R3, hAr, hB⟩
          clear hE2 hC RN own G hat hlt hz up hcn hHs OWN HCN hH R0 R1 R2 R3 hAr hB HS t0 tf u0 u4
          go_wp2_with fail
          go_roundw
          case rel => exact ⟨2, by omega, by simp, FIN.out⟩
          case measure => simp [intOf]
        · have alt := hH.lt
          have Alt := hAr.lt
          have aA : a ≠ A := fun e => by rw [e] at ca; omega
          have Aw : w.heap.size ≤ A := by have := LO.out; omega
          have aw : w.heap.size ≤ a := by have := LO.out; omega
          have t0 := (hAr.cell 2).trans rfl
          have tf := hAr.free 2
          have u0 := (hH.cell 0).trans rfl
          have u4 := (hH.cell 4).trans rfl
          have hAr : Has (wr.setCell ⟨A, 2, none⟩ (.int .i64 2)) A 3 (laM 3) := by
            have := hAr.set 2 (.int .i64 2)
            simp only [laM, List.setIfInBounds_toArray, List.set] at this
            exact this
          have hH := hH.setOther (c := A) 2 aA (.int .i64 2)
          have R0 := R0.set1 (a := A) (fun (e : c0 A = d + 2) => by omega) 2 (.int .i64 2)
          have R1 := R1.set1 (a := A) (fun (e : c0 A = d + 3) => by omega) 2 (.int .i64 2)
          have R2 := R2.set1 (a := A) (fun (e : c0 A = d + 4) => by omega) 2 (.int .i64 2)
          have R3 := R3.set1 (a := A) (fun (e : c0 A = d + 5) => by omega) 2 (.int .i64 2)
          have hB := hB.setCell (p := ⟨A, 2, none⟩) Aw (.int .i64 2)
          have OWN := R3.1
          have HS := Lib.hid (And.intro hH (And.intro R0 (And.intro R1 (And.intro R2 (And.intro R3 (And.intro hAr hB))))))
          have HCN : Hid (∀ (jj : Nat) (u : Value), [Value.int .i64 2][jj]? = some u → ((wr.setCell ⟨A, 2, none⟩ (.int .i64 2)).alloc (.cells #[.int .i64 2] 3)).cell? ((⟨wr.heap.size, 0, none⟩ : Addr).add jj) = some u) := by have := hcn1 (wr.setCell ⟨A, 2, none⟩ (.int .i64 2)) (.int .i64 2); show ∀ (jj : Nat) (u : Value), _ → _ = _; simpa using this
          clear hH R0 R1 R2 R3 hAr hB
          go_wp2_with (at_builtin; go_loud (refine wpList_append_lies _ rfl _ _ 114 rfl 0 3 i0 _ 1 8 Tryz.underlying114 hi0 hz0 hs0 hb0 rfl (by decide) _ 2 _ rfl (OWN.alloc _) ⟨wr.heap.size, 0, none⟩ 1 1 [.int .i64 2] rfl rfl HCN.out (by simp [Value.oneCell']) (by omega) (by unfold maxLen; omega) (by omega) (by simp) (wr.heap.size + 1) (by simp) ?_))
          intro g cap wt own G hat hlt
          obtain ⟨hH, R0, R1, R2, R3, hAr, hB⟩ := HS.out
          have alt := hH.lt
          have Alt := hAr.lt
          have hE2 := HE.out.trans ((own_ext c0 (wr.setCell ⟨A, 2, none⟩ (.int .i64 2)).heap.size (d + 5)).mono (D := fun x => d ≤ x ∧ x ≤ d + 5) (fun x e => by omega)) hB.size
          obtain ⟨RN, hC, hz, up⟩ := R3.app own G (by simpa using hat)
          have hH := hH.chg hC (fun e => by omega)
          have hAr := hAr.chg hC (fun e => by omega)
          have hB : Below w.heap.size w wt := hB.trans ⟨hC.os, hC.tape, hC.output, hC.size, fun k hk => hC.block k (Nat.lt_of_lt_of_le hk hB.size) (fun (e : c0 k = d + 5) => by have h1 := HE.out.1 k hk; have h2 := HC0.out k; omega)⟩
          have R3 : Row (fun x => owner c0 (wr.setCell ⟨A, 2, none⟩ (.int .i64 2)).heap.size (d + 5) x = d + 5) wt 3 1 (.slice (some ⟨g, 0, none⟩) (2 + 1) cap) (2 + 1) (stM 3) := Row.col' RN
          have R0 := R0.col hC (by omega)
          have R1 := R1.col hC (by omega)
          have R2 := R2.col hC (by omega)
          have ca := (own_lt (o := c0) (c := d + 5) alt).trans ca
          have cA := (own_lt (o := c0) (c := d + 5) Alt).trans cA
          obtain ⟨c1, hcn⟩ : ∃ O, O = owner c0 (wr.setCell ⟨A, 2, none⟩ (.int .i64 2)).heap.size (d + 5) := ⟨_, rfl⟩
          rw [← hcn] at ca cA R0 R1 R2 R3 hE2
          have HE := Lib.hid hE2
          have ct := (hH.cell 4).trans rfl
          have cf := hH.free 4
          have hHs : Has (wt.setCell ⟨a, 4, none⟩ (.slice (some ⟨g, 0, none⟩) (2 + 1) cap)) a 204 #[.slice (some ⟨A, 0, none⟩) 5 5, s0, s1, s2, .slice (some ⟨g, 0, none⟩) (2 + 1) cap, .int .i64 1] := by
            have := hH.set 4 (.slice (some ⟨g, 0, none⟩) (2 + 1) cap)
            simp only [List.setIfInBounds_toArray, List.set] at this
            exact this
          have R0 := R0.set1 (a := a) (fun (e : c1 a = d + 2) => by omega) 4 (.slice (some ⟨g, 0, none⟩) (2 + 1) cap)
          have R1 := R1.set1 (a := a) (fun (e : c1 a = d + 3) => by omega) 4 (.slice (some ⟨g, 0, none⟩) (2 + 1) cap)
          have R2 := R2.set1 (a := a) (fun (e : c1 a = d + 4) => by omega) 4 (.slice (some ⟨g, 0, none⟩) (2 + 1) cap)
          have R3 := R3.set1 (a := a) (fun (e : c1 a = d + 5) => by omega) 4 (.slice (some ⟨g, 0, none⟩) (2 + 1) cap)
          have hAr := hAr.setOther (c := a) 4 (fun e => aA e.symm) (.slice (some ⟨g, 0, none⟩) (2 + 1) cap)
          have hB := hB.setCell (p := ⟨a, 4, none⟩) aw (.slice (some ⟨g, 0, none⟩) (2 + 1) cap)
          have FIN : Hid (D2 c d w a A (wt.setCell ⟨a, 4, none⟩ (.slice (some ⟨g, 0, none⟩) (2 + 1) cap)) 3) := ⟨c1, HE.out, ca, cA, _, _, _, _, hHs, R0, R1, R2, R3, hAr, hB⟩
          clear hE2 hC RN own G hat hlt hz up hcn hHs OWN HCN hH R0 R1 R2 R3 hAr hB HS t0 tf u0 u4
          go_wp2_with fail
          go_roundw
          case rel => exact ⟨3, by omega, by simp, FIN.out⟩
          case measure => simp [intOf]
        · have alt := hH.lt
          have Alt := hAr.lt
          have aA : a ≠ A := fun e => by rw [e] at ca; omega
          have Aw : w.heap.size ≤ A := by have := LO.out; omega
          have aw : w.heap.size ≤ a := by have := LO.out; omega
          have t0 := (hAr.cell 1).trans rfl
          have tf := hAr.free 1
          have u0 := (hH.cell 0).trans rfl
          have u4 := (hH.cell 4).trans rfl
          have hAr : Has (wr.setCell ⟨A, 1, none⟩ (.int .i64 1)) A 3 (laM 4) := by
            have := hAr.set 1 (.int .i64 1)
            simp only [laM, List.setIfInBounds_toArray, List.set] at this
            exact this
          have hH := hH.setOther (c := A) 1 aA (.int .i64 1)
          have R0 := R0.set1 (a := A) (fun (e : c0 A = d + 2) => by omega) 1 (.int .i64 1)
          have R1 := R1.set1 (a := A) (fun (e : c0 A = d + 3) => by omega) 1 (.int .i64 1)
          have R2 := R2.set1 (a := A) (fun (e : c0 A = d + 4) => by omega) 1 (.int .i64 1)
          have R3 := R3.set1 (a := A) (fun (e : c0 A = d + 5) => by omega) 1 (.int .i64 1)
          have hB := hB.setCell (p := ⟨A, 1, none⟩) Aw (.int .i64 1)
          have OWN := R3.1
          have HS := Lib.hid (And.intro hH (And.intro R0 (And.intro R1 (And.intro R2 (And.intro R3 (And.intro hAr hB))))))
          have HCN : Hid (∀ (jj : Nat) (u : Value), [Value.int .i64 1][jj]? = some u → ((wr.setCell ⟨A, 1, none⟩ (.int .i64 1)).alloc (.cells #[.int .i64 1] 3)).cell? ((⟨wr.heap.size, 0, none⟩ : Addr).add jj) = some u) := by have := hcn1 (wr.setCell ⟨A, 1, none⟩ (.int .i64 1)) (.int .i64 1); show ∀ (jj : Nat) (u : Value), _ → _ = _; simpa using this
          clear hH R0 R1 R2 R3 hAr hB
          go_wp2_with (at_builtin; go_loud (refine wpList_append_lies _ rfl _ _ 114 rfl 0 3 i0 _ 1 8 Tryz.underlying114 hi0 hz0 hs0 hb0 rfl (by decide) _ 3 _ rfl (OWN.alloc _) ⟨wr.heap.size, 0, none⟩ 1 1 [.int .i64 1] rfl rfl HCN.out (by simp [Value.oneCell']) (by omega) (by unfold maxLen; omega) (by omega) (by simp) (wr.heap.size + 1) (by simp) ?_))
          intro g cap wt own G hat hlt
          obtain ⟨hH, R0, R1, R2, R3, hAr, hB⟩ := HS.out
          have alt := hH.lt
          have Alt := hAr.lt
          have hE2 := HE.out.trans ((own_ext c0 (wr.setCell ⟨A, 1, none⟩ (.int .i64 1)).heap.size (d + 5)).mono (D := fun x => d ≤ x ∧ x ≤ d + 5) (fun x e => by omega)) hB.size
          obtain ⟨RN, hC, hz, up⟩ := R3.app own G (by simpa using hat)
          have hH := hH.chg hC (fun e => by omega)
          have hAr := hAr.chg hC (fun e => by omega)
          have hB : Below w.heap.size w wt := hB.trans ⟨hC.os, hC.tape, hC.output, hC.size, fun k hk => hC.block k (Nat.lt_of_lt_of_le hk hB.size) (fun (e : c0 k = d + 5) => by have h1 := HE.out.1 k hk; have h2 := HC0.out k; omega)⟩
          have R3 : Row (fun x => owner c0 (wr.setCell ⟨A, 1, none⟩ (.int .i64 1)).heap.size (d + 5) x = d + 5) wt 3 1 (.slice (some ⟨g, 0, none⟩) (3 + 1) cap) (3 + 1) (stM 4) := Row.col' RN
          have R0 := R0.col hC (by omega)
          have R1 := R1.col hC (by omega)
          have R2 := R2.col hC (by omega)
          have ca := (own_lt (o := c0) (c := d + 5) alt).trans ca
          have cA := (own_lt (o := c0) (c := d + 5) Alt).trans cA
          obtain ⟨c1, hcn⟩ : ∃ O, O = owner c0 (wr.setCell ⟨A, 1, none⟩ (.int .i64 1)).heap.size (d + 5) := ⟨_, rfl⟩
          rw [← hcn] at ca cA R0 R1 R2 R3 hE2
          have HE := Lib.hid hE2
          have ct := (hH.cell 4).trans rfl
          have cf := hH.free 4
          have hHs : Has (wt.setCell ⟨a, 4, none⟩ (.slice (some ⟨g, 0, none⟩) (3 + 1) cap)) a 204 #[.slice (some ⟨A, 0, none⟩) 5 5, s0, s1, s2, .slice (some ⟨g, 0, none⟩) (3 + 1) cap, .int .i64 1] := by
            have := hH.set 4 (.slice (some ⟨g, 0, none⟩) (3 + 1) cap)
            simp only [List.setIfInBounds_toArray, List.set] at this
            exact this
          have R0 := R0.set1 (a := a) (fun (e : c1 a = d + 2) => by omega) 4 (.slice (some ⟨g, 0, none⟩) (3 + 1) cap)
          have R1 := R1.set1 (a := a) (fun (e : c1 a = d + 3) => by omega) 4 (.slice (some ⟨g, 0, none⟩) (3 + 1) cap)
          have R2 := R2.set1 (a := a) (fun (e : c1 a = d + 4) => by omega) 4 (.slice (some ⟨g, 0, none⟩) (3 + 1) cap)
          have R3 := R3.set1 (a := a) (fun (e : c1 a = d + 5) => by omega) 4 (.slice (some ⟨g, 0, none⟩) (3 + 1) cap)
          have hAr := hAr.setOther (c := a) 4 (fun e => aA e.symm) (.slice (some ⟨g, 0, none⟩) (3 + 1) cap)
          have hB := hB.setCell (p := ⟨a, 4, none⟩) aw (.slice (some ⟨g, 0, none⟩) (3 + 1) cap)
          have FIN : Hid (D2 c d w a A (wt.setCell ⟨a, 4, none⟩ (.slice (some ⟨g, 0, none⟩) (3 + 1) cap)) 4) := ⟨c1, HE.out, ca, cA, _, _, _, _, hHs, R0, R1, R2, R3, hAr, hB⟩
          clear hE2 hC RN own G hat hlt hz up hcn hHs OWN HCN hH R0 R1 R2 R3 hAr hB HS t0 tf u0 u4
          go_wp2_with fail
          go_roundw
          case rel => exact ⟨4, by omega, by simp, FIN.out⟩
          case measure => simp [intOf]
        · have FIN : Hid (DAnc c0 d wr a A #[.int .i64 0, .int .i64 1, .int .i64 2, .int .i64 3, .int .i64 4] (ints 5) (ints 5) (ints 5) [.int .i64 4, .int .i64 3, .int .i64 2, .int .i64 1] 1 ∧ Below w.heap.size w wr) := ⟨⟨ca, cA, ⟨s0, s1, s2, s3, hH, R0, R1, R2, R3⟩, hAr⟩, hB⟩
          clear hH R0 R1 R2 R3 hAr hB
          go_wp2_with fail
          go_ret
          exact ⟨a, rfl, A, c0, HE.out, FIN.out⟩
end Go.Proofs.YtngdebpaheejlaaGreatDoor
