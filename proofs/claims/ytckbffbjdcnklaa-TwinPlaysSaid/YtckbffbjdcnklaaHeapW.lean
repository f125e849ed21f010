/- Numbers in a heap: the walks of push and pop. -/
import Derived.Test.YtckbffbjdcnklaaHeapL
import Derived.Deep.RegionHeld
namespace Go.Proofs.Ytckbffbjdcnklaa
open Go.RowKit
set_option linter.unusedSimpArgs false
set_option linter.unusedVariables false

/-- Block f holds the heap. -/
def HeapAt (W : World) (f c n : Nat) (H : Nat → Nat) : Prop := ∃ cur : Array Value, Has W f 3 cur ∧ cur.size = c ∧ n ≤ c ∧ c ≤ maxLen ∧ ∀ i, i < n → cur[i]? = some (.int .i64 (H i : Int))
def FreeAt (W : World) (fo : Option (Nat × Nat)) (n : Nat) (H : Nat → Nat) (v : Value) : Prop := match fo with
  | none => v = .slice none 0 0 ∧ n = 0
  | some (f, c) => v = .slice (some ⟨f, 0, none⟩) n c ∧ HeapAt W f c n H
section
variable {w w' : World} {f c n : Nat} {H : Nat → Nat}
theorem HeapAt.lt (h : HeapAt w f c n H) : f < w.heap.size := by obtain ⟨cur, h1, _⟩ := h; exact h1.lt
theorem HeapAt.of_block (h : HeapAt w f c n H) (e : w'.heap[f]? = w.heap[f]?) : HeapAt w' f c n H := by obtain ⟨cur, h1, h2⟩ := h; exact ⟨cur, e.trans h1, h2⟩
theorem HeapAt.cell (h : HeapAt w f c n H) {i : Nat} (hi : i < n) : w.cell? ⟨f, i, none⟩ = some (.int .i64 (H i : Int)) := by obtain ⟨cur, h1, _, _, _, h2⟩ := h; exact (h1.cell i).trans (h2 i hi)
theorem HeapAt.free (h : HeapAt w f c n H) (i : Nat) : w.frozen? ⟨f, i, none⟩ = false := by obtain ⟨cur, h1, _⟩ := h; exact h1.free i
theorem HeapAt.cap (h : HeapAt w f c n H) : n ≤ c ∧ c ≤ maxLen := by obtain ⟨cur, _, _, h1, h2, _⟩ := h; exact ⟨h1, h2⟩
theorem HeapAt.set (h : HeapAt w f c n H) {i : Nat} (hi : i < n) (x : Nat) : HeapAt (w.setCell ⟨f, i, none⟩ (.int .i64 (x : Int))) f c n (upd H i x) := by
  obtain ⟨cur, h1, h2, h3, h4, h5⟩ := h
  refine ⟨_, h1.set i _, by simpa using h2, h3, h4, fun k hk => ?_⟩
  unfold upd
  by_cases e : k = i
  · subst e; rw [if_pos rfl]; simp [Array.getElem?_setIfInBounds]; omega
  · rw [if_neg e, ← h5 k hk]
    simp [Array.getElem?_setIfInBounds, Ne.symm e]
theorem HeapAt.setOther (h : HeapAt w f c n H) {b : Nat} (hb : b ≠ f) (i : Nat) (v : Value) : HeapAt (w.setCell ⟨b, i, none⟩ v) f c n H := h.of_block (Below.heap_setCell _ _ _ _ (Ne.symm hb))
theorem HeapAt.shrink (h : HeapAt w f c (n + 1) H) : HeapAt w f c n H := by obtain ⟨cur, h1, h2, h3, h4, h5⟩ := h; exact ⟨cur, h1, h2, by omega, h4, fun i hi => h5 i (by omega)⟩
theorem HeapAt.own (h : HeapAt w f c n H) : w.ownsRow 0 3 1 (.slice (some ⟨f, 0, none⟩) n c) n ((List.range n).map fun i => .int .i64 (H i : Int)) := by
  obtain ⟨cur, h1, h2, h3, h4, h5⟩ := h
  refine ⟨by simp, .inr ⟨f, c, cur, rfl, Nat.zero_le _, h1, h3, h4, by omega, ?_⟩⟩
  apply List.ext_getElem?
  intro i
  rw [List.getElem?_take]
  by_cases hi : i < n
  · rw [if_pos (by omega), Array.getElem?_toList, h5 i hi]
    simp [List.getElem?_map, List.getElem?_range hi]
  · rw [if_neg (by omega)]
    simp [List.getElem?_map, hi]
theorem HeapAt.of_own {f c x : Nat} (h : w.ownsRow 0 3 1 (.slice (some ⟨f, 0, none⟩) (n + 1) c) (n + 1) (((List.range n).map fun i => Value.int .i64 (H i : Int)) ++ [.int .i64 (x : Int)])) : HeapAt w f c (n + 1) (upd H n x) := by
  rcases h.2 with ⟨q, _⟩ | ⟨g, cp, cur, e, _, h1, h3, h4, h2, h5⟩
  · simp at q
  · cases e
    refine ⟨cur, h1, by omega, h3, h4, fun i hi => ?_⟩
    have e1 : (cur.toList.take ((n + 1) * 1))[i]? = cur[i]? := by
      rw [List.getElem?_take, if_pos (by omega)]
      simp
    rw [← e1, h5]
    by_cases q : i = n
    · subst q
      rw [upd_same, List.getElem?_append_right (by simp)]
      simp
    · rw [upd_other _ _ q, List.getElem?_append_left (by simp; omega)]
      simp [List.getElem?_map, List.getElem?_range (show i < n by omega)]
end
theorem swp_comm (H : Nat → Nat) {i k : Nat} (h : i ≠ k) : upd (upd H k (H i)) i (H k) = swp H i k := by
  funext a
  unfold swp upd
  by_cases e1 : a = i
  · subst e1; simp [h]
  · by_cases e2 : a = k
    · subst e2; simp [e1]
    · simp [e1, e2]

set_option maxRecDepth 100000 in
set_option maxHeartbeats 3200000 in
theorem push_n (TT : TypeId) (tb n x : Nat) (H : Nat → Nat) (fo : Option (Nat × Nat)) (a0 a1 v a3 a4 : Value) (w : World) (h : Has w tb TT #[a0, a1, v, a3, a4]) (hf : FreeAt w fo n H v) (hft : ∀ f c, fo = some (f, c) → f ≠ tb) (ho : HOrd n H) (hi : HInj n H) (hx : ¬ HMem n H x) (hn : n < 70000) :
    Calls Try.prog 39 #[.pointer (some ⟨tb, 2, none⟩), .int .i64 (x : Int)] w fun e w' => ∃ f c H', e = .returned (.tuple #[]) ∧ Has w' tb TT #[a0, a1, .slice (some ⟨f, 0, none⟩) (n + 1 : Nat) c, a3, a4] ∧ HeapAt w' f c (n + 1) H' ∧ HOrd (n + 1) H' ∧ HInj (n + 1) H' ∧ (∀ y, HMem (n + 1) H' y ↔ HMem n H y ∨ y = x) ∧ ((∃ c0, fo = some (f, c0)) ∨ w.heap.size ≤ f) ∧ f ≠ tb ∧ Chg (fun b => b = tb ∨ ∃ c0, fo = some (b, c0)) w w' := by
  have c2 := h.cell 2
  have f2 := h.free 2
  have htl := h.lt
  have own : w.ownsRow 0 3 1 v n ((List.range n).map fun i => .int .i64 (H i : Int)) := by
    unfold FreeAt at hf
    split at hf
    · obtain ⟨rfl, rfl⟩ := hf; exact ⟨rfl, .inl ⟨rfl, rfl⟩⟩
    · obtain ⟨rfl, q⟩ := hf; exact q.own
  obtain ⟨i0, hi0, hz0, hs0, hb0⟩ := info_parts info3
  have hvs : ∃ a cp, v = .slice a n cp := by
    unfold FreeAt at hf
    split at hf
    · obtain ⟨rfl, rfl⟩ := hf; exact ⟨_, _, rfl⟩
    · obtain ⟨rfl, q⟩ := hf; exact ⟨_, _, rfl⟩
  obtain ⟨va, vc, rfl⟩ := hvs
  have hat0 : ∀ k, (Value.slice va n vc).ownBlock = some k → ∃ c0, fo = some (k, c0) := fun k hk => by
    unfold FreeAt at hf
    split at hf
    · obtain ⟨e, _⟩ := hf; cases e; cases hk
    · rename_i f c
      obtain ⟨e, _⟩ := hf
      cases e
      simp [Value.ownBlock] at hk
      exact ⟨_, by rw [hk]⟩
  have HH := Lib.hid h
  have HF := Lib.hid hf
  simp at c2
  clear h hf
  go_enter Try.func39, Try.ntmps39
  go_wp2_with (at_builtin; go_loud (refine wpList_append_lies _ rfl _ _ 77 rfl 0 3 i0 _ 1 8 Try.underlying77 hi0 hz0 hs0 hb0 rfl (by decide) _ _ _ rfl (own.alloc _) ⟨w.heap.size, 0, none⟩ 1 1 [.int .i64 (x : Int)] rfl rfl (cell_one_new _ _ _) (by simp [Value.oneCell']) (by omega) (by unfold maxLen; omega) (by omega) (by simp) (w.heap.size + 1) (by simp) ?_))
  intro f c w5 own5 grow5 hat5 hlt5
  have hfl : (∃ c0, fo = some (f, c0)) ∨ f = w.heap.size + 1 := by
    rcases hat5 with q | q
    · exact .inl (hat0 f q)
    · exact .inr q
  have hftb : f ≠ tb := by
    rcases hfl with ⟨c0, q⟩ | q
    · exact hft f c0 q
    · omega
  have C5 : Chg (fun b => b = tb ∨ ∃ c0, fo = some (b, c0)) w w5 := ((Chg.refl _ w).alloc _).trans (Chg.grown grow5 (fun k e => .inr (hat0 k e)))
  have head5 : Has w5 tb TT #[a0, a1, .slice va n vc, a3, a4] := by
    have e1 : w5.heap[tb]? = (w.alloc (.cells #[.int .i64 (x : Int)] 3)).heap[tb]? := grow5.block tb (by simp; omega) (fun e => by obtain ⟨c0, q⟩ := hat0 tb e.symm; exact hft tb c0 q rfl)
    exact (e1.trans (Below.heap_alloc _ _ _ htl)).trans HH.out
  have k2 := head5.cell 2
  have g2 := head5.free 2
  simp at k2
  have A5 : HeapAt w5 f c (n + 1) (upd H n x) := HeapAt.of_own own5
  obtain ⟨w6, hw6⟩ : ∃ w6, w6 = w5.setCell ⟨tb, 2, none⟩ (.slice (some ⟨f, 0, none⟩) (n + 1) c) := ⟨_, rfl⟩
  have head6 : Has w6 tb TT #[a0, a1, .slice (some ⟨f, 0, none⟩) (n + 1 : Nat) c, a3, a4] := by rw [hw6]; exact Has.set head5 2 _
  have A6 : HeapAt w6 f c (n + 1) (upd H n x) := by rw [hw6]; exact A5.setOther (Ne.symm hftb) _ _
  have C6 : Chg (fun b => b = tb ∨ ∃ c0, fo = some (b, c0)) w w6 := by rw [hw6]; exact C5.set (.inl rfl) _ _
  have hfs : (∃ c0, fo = some (f, c0)) ∨ w.heap.size ≤ f := by
    rcases hfl with q | q
    · exact .inl q
    · exact .inr (by omega)
  have HF6 := Lib.hid (And.intro head6 (And.intro A6 (And.intro C6 hfs)))
  have k6 := head6.cell 2
  simp at k6
  have HE : ∀ {X : World}, Chg (fun b => b = tb ∨ b = f ∨ ∃ c0, fo = some (b, c0)) w X → ∀ q, Chg (fun b => b = tb ∨ ∃ c0, fo = some (b, c0)) w (X.drewN q) := fun {X} h q =>
    ⟨h.os, h.tape, h.output, h.size, fun k hk hn => h.block k hk (fun e => hn (by
      rcases e with e | e | e
      · exact .inl e
      · rcases hfs with u | u
        · exact .inr (by rw [e]; exact u)
        · omega
      · exact .inr e))⟩
  have HW := Lib.hid hw6
  have hm := A6.cap
  unfold maxLen at hm
  clear own5 grow5 hat5 C5 head5 A5 own hat0 head6 A6 C6 hfl hfs
  go_wp2_with fail
  rw [← HW.out]
  clear hw6 HW k2 g2
  go_wp2_with fail
  go_loopw [5] (fun i wr => ∃ (i' : Nat) (H' : Nat → Nat), i = .int .i64 (i' : Int) ∧ i' < n + 1 ∧ Has wr tb TT #[a0, a1, .slice (some ⟨f, 0, none⟩) (n + 1 : Nat) c, a3, a4] ∧ HeapAt wr f c (n + 1) H' ∧ Up (n + 1) i' H' ∧ HInj (n + 1) H' ∧ (∀ y, HMem (n + 1) H' y ↔ HMem n H y ∨ y = x) ∧ Chg (fun b => b = tb ∨ b = f ∨ ∃ c0, fo = some (b, c0)) w wr) (fun i _ => (intOf i).toNat)
  case atStart => exact ⟨n, _, by simp, by omega, HF6.out.1, HF6.out.2.1, Up.start ho, hi.push hx, fun y => HMem.push, HF6.out.2.2.1.mono (fun b _ q => by rcases q with q | q; exact .inl q; exact .inr (.inr q))⟩
  case round =>
    obtain ⟨i, H', rfl, hin, hh, ha, hu, hj, hmm, hc⟩ := hrel
    have HA := Lib.hid (And.intro hh (And.intro ha (And.intro hu (And.intro hj (And.intro hmm hc)))))
    have ci := ha.cell hin
    have i0' : (0 : Int) ≤ (i : Int) := Int.natCast_nonneg _
    have i1' : (i : Int) < (n : Int) + 1 := by omega
    by_cases h0 : i = 0
    · subst h0
      clear hh ha hu hj hmm hc
      go_wp2_with fail
      go_quiet (fail)
      go_wp2
      go_end0
      exact ⟨f, c, H', rfl, HA.out.1, HA.out.2.1, HA.out.2.2.1.done (.inl rfl), HA.out.2.2.2.1, HA.out.2.2.2.2.1, HF6.out.2.2.2, hftb, HE HA.out.2.2.2.2.2 _⟩
    · obtain ⟨p, hp⟩ : ∃ p, p = (i - 1) / 2 := ⟨_, rfl⟩
      have hpi : p < i := by omega
      have cp := ha.cell (show p < n + 1 by omega)
      have q0 : (0 : Int) < (i : Int) := by omega
      have qn : 0 < i := by omega
      have q1 : ((i : Int) - 1) / 2 = (p : Int) := by omega
      have q2 : Int.tdiv ((i : Int) - 1) 2 = (p : Int) := by rw [Int.tdiv_eq_ediv_of_nonneg (by omega)]; exact q1
      have q3 : (p : Int) < (n : Int) + 1 := by omega
      have q4 : (0 : Int) ≤ (p : Int) := Int.natCast_nonneg _
      have fi := ha.free i
      have fp := ha.free p
      have HP := Lib.hid hp
      by_cases hlt : H' i < H' p
      · have hlt' : (H' i : Int) < (H' p : Int) := by omega
        clear hh ha hu hj hmm hc hp
        go_wp2_with fail
        go_quiet (fail)
        go_wp2_with fail
        go_region
        all_goals
          go_wp2_with fail
          have hp := HP.out
          have A := ((HA.out.2.1.of_block (w' := wr.drewN (nq + 1)) rfl).set hin (H' p)).set (show p < n + 1 by omega) (H' i)
          have B := Has.setOther (Has.setOther (show Has (wr.drewN (nq + 1)) tb TT _ from HA.out.1) i (Ne.symm hftb) (.int .i64 (H' p : Int))) p (Ne.symm hftb) (.int .i64 (H' i : Int))
          have U := HA.out.2.2.1.step (by omega) hin (by rw [← hp]; exact hlt)
          rw [← hp] at U
          refine ⟨⟨p, swp H' i p, rfl, by omega, B, A, U, HA.out.2.2.2.1.swap hin (by omega) (by omega), fun y => (swp_mem hin (by omega) (by omega) y).trans (HA.out.2.2.2.2.1 y), ((HA.out.2.2.2.2.2.dr (nq + 1)).set (.inr (.inl rfl)) i _).set (.inr (.inl rfl)) p _⟩, ?_⟩
          simp [intOf]
          omega
      · have hlt' : ¬ (H' i : Int) < (H' p : Int) := by omega
        clear hh ha hu hj hmm hc hp
        go_wp2_with fail
        go_quiet (fail)
        go_wp2
        go_end0
        have hp := HP.out
        exact ⟨f, c, H', rfl, HA.out.1, HA.out.2.1, HA.out.2.2.1.done (.inr (by rw [← hp]; omega)), HA.out.2.2.2.1, HA.out.2.2.2.2.1, HF6.out.2.2.2, hftb, HE HA.out.2.2.2.2.2 _⟩
set_option maxRecDepth 100000 in
set_option maxHeartbeats 3200000 in
theorem pop_n (TT : TypeId) (tb n f c : Nat) (H : Nat → Nat) (a0 a1 a3 a4 : Value) (w : World) (h : Has w tb TT #[a0, a1, .slice (some ⟨f, 0, none⟩) (n + 1 : Nat) c, a3, a4]) (ha : HeapAt w f c (n + 1) H) (hft : f ≠ tb) (ho : HOrd (n + 1) H) (hi : HInj (n + 1) H) (hn : n < 70000) :
    Calls Try.prog 37 #[.pointer (some ⟨tb, 2, none⟩)] w fun e w' => ∃ H', e = .returned (.int .i64 (H 0 : Int)) ∧ Has w' tb TT #[a0, a1, .slice (some ⟨f, 0, none⟩) n c, a3, a4] ∧ HeapAt w' f c n H' ∧ HOrd n H' ∧ HInj n H' ∧ (∀ y, HMem n H' y ↔ HMem (n + 1) H y ∧ y ≠ H 0) ∧ Chg (fun b => b = tb ∨ b = f) w w' := by
  have c2 := h.cell 2
  have f2 := h.free 2
  have k0 := ha.cell (show 0 < n + 1 by omega)
  have kn := ha.cell (show n < n + 1 by omega)
  have g0 := ha.free 0
  have hcap := ha.cap
  unfold maxLen at hcap
  simp at c2
  obtain ⟨w6, hw6⟩ : ∃ w6, w6 = w.setCell ⟨f, 0, none⟩ (.int .i64 (H n : Int)) := ⟨_, rfl⟩
  have h6 : Has w6 tb TT #[a0, a1, .slice (some ⟨f, 0, none⟩) (n + 1 : Nat) c, a3, a4] := by rw [hw6]; exact Has.setOther h 0 (Ne.symm hft) _
  have ha6 : HeapAt w6 f c n (upd H 0 (H n)) := by rw [hw6]; exact (ha.set (by omega) _).shrink
  have C6 : Chg (fun b => b = tb ∨ b = f) w w6 := by rw [hw6]; exact (Chg.refl _ w).set (.inr rfl) 0 _
  have HS := Lib.hid (And.intro h6 (And.intro ha6 C6))
  have HW := Lib.hid hw6
  clear h ha h6 ha6 C6 hw6
  have hn0 : (0 : Int) ≤ (n : Int) := Int.natCast_nonneg _
  have hci : (n : Int) ≤ (c : Int) := by omega
  go_enter Try.func37, Try.ntmps37
  go_wp2_with fail
  rw [← HW.out]
  clear HW c2 f2 k0 kn g0
  go_loopw [5] (fun i wr => ∃ (i' : Nat) (H' : Nat → Nat), i = .int .i64 (i' : Int) ∧ (i' < n ∨ (n = 0 ∧ i' = 0)) ∧ Has wr tb TT #[a0, a1, .slice (some ⟨f, 0, none⟩) (n + 1 : Nat) c, a3, a4] ∧ HeapAt wr f c n H' ∧ Down n i' H' ∧ HInj n H' ∧ (∀ y, HMem n H' y ↔ HMem (n + 1) H y ∧ y ≠ H 0) ∧ Chg (fun b => b = tb ∨ b = f) w wr) (fun i _ => n - (intOf i).toNat)
  case atStart => exact ⟨0, _, rfl, by omega, HS.out.1, HS.out.2.1, Down.start ho, hi.pop, fun y => HMem.pop hi, HS.out.2.2⟩
  case round =>
    obtain ⟨i, H', rfl, hin, hh, ha, hd, hj, hmm, hc⟩ := hrel
    have HA := Lib.hid (And.intro hh (And.intro ha (And.intro hd (And.intro hj (And.intro hmm hc)))))
    have i0' : (0 : Int) ≤ (i : Int) := Int.natCast_nonneg _
    have i1' : (i : Int) < 70000 := by omega
    obtain ⟨a, hka⟩ : ∃ a : Nat, a = 2 * i + 1 := ⟨_, rfl⟩
    have ea : 2 * (i : Int) + 1 = (a : Int) := by omega
    have c2 := hh.cell 2
    have f2 := hh.free 2
    simp at c2
    have a0' : (0 : Int) ≤ (a : Int) := Int.natCast_nonneg _
    have HKA := Lib.hid hka
    have fin : Hid (HOrd n H' → ∀ q, ∃ H', Has ((wr.drewN q).setCell ⟨tb, 2, none⟩ (.slice (some ⟨f, 0, none⟩) n c)) tb TT #[a0, a1, .slice (some ⟨f, 0, none⟩) n c, a3, a4] ∧ HeapAt ((wr.drewN q).setCell ⟨tb, 2, none⟩ (.slice (some ⟨f, 0, none⟩) n c)) f c n H' ∧ HOrd n H' ∧ HInj n H' ∧ (∀ y, HMem n H' y ↔ HMem (n + 1) H y ∧ y ≠ H 0) ∧ Chg (fun b => b = tb ∨ b = f) w ((wr.drewN q).setCell ⟨tb, 2, none⟩ (.slice (some ⟨f, 0, none⟩) n c))) := fun ho' q =>
      ⟨H', Has.set (show Has (wr.drewN q) tb TT _ from HA.out.1) 2 _, (HA.out.2.1.of_block (w' := wr.drewN q) rfl).setOther (Ne.symm hft) _ _, ho', HA.out.2.2.2.1, HA.out.2.2.2.2.1, (HA.out.2.2.2.2.2.dr q).set (.inl rfl) _ _⟩
    have step : Hid (∀ k, Child n i k H' → k < n → H' k < H' i → ∀ q, (∃ (i' : Nat) (H1 : Nat → Nat), Value.int .i64 (k : Int) = .int .i64 (i' : Int) ∧ (i' < n ∨ (n = 0 ∧ i' = 0)) ∧ Has (((wr.drewN q).setCell ⟨f, i, none⟩ (.int .i64 (H' k : Int))).setCell ⟨f, k, none⟩ (.int .i64 (H' i : Int))) tb TT #[a0, a1, .slice (some ⟨f, 0, none⟩) (n + 1 : Nat) c, a3, a4] ∧ HeapAt (((wr.drewN q).setCell ⟨f, i, none⟩ (.int .i64 (H' k : Int))).setCell ⟨f, k, none⟩ (.int .i64 (H' i : Int))) f c n H1 ∧ Down n i' H1 ∧ HInj n H1 ∧ (∀ y, HMem n H1 y ↔ HMem (n + 1) H y ∧ y ≠ H 0) ∧ Chg (fun b => b = tb ∨ b = f) w (((wr.drewN q).setCell ⟨f, i, none⟩ (.int .i64 (H' k : Int))).setCell ⟨f, k, none⟩ (.int .i64 (H' i : Int)))) ∧ n - (intOf (.int .i64 (k : Int))).toNat < n - (intOf (.int .i64 (i : Int))).toNat) := fun k ck hk hlt q => by
      have hik : i < k := by have := ck.1; omega
      have A := ((HA.out.2.1.of_block (w' := wr.drewN q) rfl).set (show i < n by omega) (H' k)).set hk (H' i)
      have B := Has.setOther (Has.setOther (show Has (wr.drewN q) tb TT _ from HA.out.1) i (Ne.symm hft) (.int .i64 (H' k : Int))) k (Ne.symm hft) (.int .i64 (H' i : Int))
      have U := HA.out.2.2.1.step ck hk hlt
      refine ⟨⟨k, swp H' i k, rfl, by omega, B, A, U, HA.out.2.2.2.1.swap (by omega) hk (by omega), fun y => (swp_mem (by omega) hk (by omega) y).trans (HA.out.2.2.2.2.1 y), ((HA.out.2.2.2.2.2.dr q).set (.inr rfl) i _).set (.inr rfl) k _⟩, ?_⟩
      simp [intOf]
      omega
    by_cases h1 : a + 1 < n
    · have h1' : (a : Int) + 1 < (n : Int) := by omega
      have h1a : (a : Int) < (n : Int) := by omega
      obtain ⟨b, hb⟩ : ∃ b, b = a + 1 := ⟨_, rfl⟩
      have eb : (a : Int) + 1 = (b : Int) := by omega
      have ca := ha.cell (show a < n by omega)
      have cb := ha.cell (show b < n by omega)
      have ci := ha.cell (show i < n by omega)
      have fa := ha.free a
      have fb := ha.free b
      have fi := ha.free i
      have b1 : (b : Int) < (n : Int) := by omega
      have b0' : (0 : Int) ≤ (b : Int) := Int.natCast_nonneg _
      have iI : (i : Int) < (n : Int) := by omega
      have bN : ¬ n ≤ b := by omega
      have aN : ¬ n ≤ a := by omega
      rw [eb] at h1'
      have HB := Lib.hid hb
      clear hh ha hd hj hmm hc hka hb
      by_cases h2 : H' b < H' a
      · have h2' : (H' b : Int) < (H' a : Int) := by omega
        have CH : Child n i b H' := ⟨by have := HB.out; have := HKA.out; omega, fun cc h3 h4 => ⟨by omega, by
          have := HB.out; have := HKA.out
          rcases h4 with h4 | h4
          · obtain rfl : cc = a := by omega
            omega
          · obtain rfl : cc = b := by omega
            exact Nat.le_refl _⟩⟩
        by_cases h3 : H' i ≤ H' b
        · have h3' : (H' i : Int) ≤ (H' b : Int) := by omega
          go_wp2_with fail
          go_quiet (fail)
          go_wp2_with fail
          go_quiet (fail)
          go_wp2
          go_ret
          obtain ⟨H1, q⟩ := fin.out (HA.out.2.2.1.done CH (.inr h3)) _
          exact ⟨H1, rfl, q⟩
        · have h3' : ¬ (H' i : Int) ≤ (H' b : Int) := by omega
          have ik : i < b := by have := CH.1; omega
          go_wp2_with fail
          go_quiet (fail)
          go_wp2_with fail
          go_quiet (fail)
          go_wp2_with fail
          go_region
          all_goals
            go_wp2_with fail
            exact step.out b CH (by omega) (by omega) _
      · have h2' : ¬ (H' b : Int) < (H' a : Int) := by omega
        have CH : Child n i a H' := ⟨by have := HB.out; have := HKA.out; omega, fun cc h3 h4 => ⟨by omega, by
          have := HB.out; have := HKA.out
          rcases h4 with h4 | h4
          · obtain rfl : cc = a := by omega
            exact Nat.le_refl _
          · obtain rfl : cc = b := by omega
            omega⟩⟩
        by_cases h3 : H' i ≤ H' a
        · have h3' : (H' i : Int) ≤ (H' a : Int) := by omega
          go_wp2_with fail
          go_quiet (fail)
          go_wp2_with fail
          go_quiet (fail)
          go_wp2
          go_ret
          obtain ⟨H1, q⟩ := fin.out (HA.out.2.2.1.done CH (.inr h3)) _
          exact ⟨H1, rfl, q⟩
        · have h3' : ¬ (H' i : Int) ≤ (H' a : Int) := by omega
          have ik : i < a := by have := CH.1; omega
          go_wp2_with fail
          go_quiet (fail)
          go_wp2_with fail
          go_quiet (fail)
          go_wp2_with fail
          go_region
          all_goals
            go_wp2_with fail
            exact step.out a CH (by omega) (by omega) _
    · obtain ⟨b, hb⟩ : ∃ b, b = a + 1 := ⟨_, rfl⟩
      have eb : (a : Int) + 1 = (b : Int) := by omega
      have h1' : ¬ ((b : Int) < (n : Int)) := by omega
      have b0' : (0 : Int) ≤ (b : Int) := Int.natCast_nonneg _
      have b7 : (b : Int) < 150000 := by omega
      have h1n : ¬ b < n := by omega
      have HB := Lib.hid hb
      by_cases h0 : n ≤ a
      · have h0' : (n : Int) ≤ (a : Int) := by omega
        have CH : Child n i a H' := ⟨by have := HKA.out; omega, fun cc h3 h4 => by have := HKA.out; omega⟩
        clear hh ha hd hj hmm hc hka hb h1
        go_wp2_with fail
        go_quiet (fail)
        go_wp2_with fail
        go_quiet (fail)
        go_wp2
        go_ret
        obtain ⟨H1, q⟩ := fin.out (HA.out.2.2.1.done CH (.inl h0)) _
        exact ⟨H1, rfl, q⟩
      · have h1a : (a : Int) < (n : Int) := by omega
        have ca := ha.cell (show a < n by omega)
        have ci := ha.cell (show i < n by omega)
        have fa := ha.free a
        have fi := ha.free i
        have iI : (i : Int) < (n : Int) := by omega
        have CH : Child n i a H' := ⟨by have := HKA.out; omega, fun cc h3 h4 => ⟨by omega, by
          have := HKA.out
          obtain rfl : cc = a := by omega
          exact Nat.le_refl _⟩⟩
        clear hh ha hd hj hmm hc hka hb h1
        by_cases h3 : H' i ≤ H' a
        · have h3' : (H' i : Int) ≤ (H' a : Int) := by omega
          go_wp2_with fail
          go_quiet (fail)
          go_wp2_with fail
          go_quiet (fail)
          go_wp2
          go_ret
          obtain ⟨H1, q⟩ := fin.out (HA.out.2.2.1.done CH (.inr h3)) _
          exact ⟨H1, rfl, q⟩
        · have h3' : ¬ (H' i : Int) ≤ (H' a : Int) := by omega
          have ik : i < a := by have := CH.1; omega
          go_wp2_with fail
          go_quiet (fail)
          go_wp2_with fail
          go_quiet (fail)
          go_wp2_with fail
          go_region
          all_goals
            go_wp2_with fail
            exact step.out a CH (by omega) (by omega) _
end Go.Proofs.Ytckbffbjdcnklaa
