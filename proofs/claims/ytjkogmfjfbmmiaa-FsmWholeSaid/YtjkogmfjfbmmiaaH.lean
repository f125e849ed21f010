/- The plain side of FsmWhole, and the walk of FsmWhole. -/
import Derived.Test.YtjkogmfjfbmmiaaE
import Derived.Maps.AppendAt
import Derived.OwnWalk
import Derived.Deep.RegionHeld3
namespace Go.Proofs.Ytjkogmfjfbmmiaa
open Go.RowKit
set_option linter.unusedSimpArgs false
set_option linter.unusedVariables false

/-- The state behind i packets; who sends packet i; its flags. -/
def sq (d : Nat) (first : Bool) (i : Nat) : Int :=
  if i = 0 then 0 else if i = 1 then 1 else if i = 2 then 2 else if i ≤ 3 + d then 3 else if i ≤ 5 + d then (if first then 5 else 4) else if i = 6 + d then 6 else 7
def whoL (k : Nat) : List Bool := [false, true, false] ++ (List.range k).map fun i : Nat => (i : Int) % 2 == 0
def flgL (k : Nat) : List Int := [2, 18, 16] ++ List.replicate k 24
def whoF (d : Nat) (first : Bool) : List Bool := whoL d ++ [first, !first, !first, first]
def flgF (d : Nat) : List Int := flgL d ++ [17, 16, 17, 16]

theorem whole_plain : ∀ (d : Fin 10) (first : Bool) (i : Fin 17), i.val < 7 + d.val →
    stN (sq d.val first i.val) ((whoF d.val first).getD i.val false) (hasB ((flgF d.val).getD i.val 0) 2) (hasB ((flgF d.val).getD i.val 0) 16) (hasB ((flgF d.val).getD i.val 0) 4) (hasB ((flgF d.val).getD i.val 0) 1) = sq d.val first (i.val + 1) ∧
    stB (sq d.val first i.val) ((whoF d.val first).getD i.val false) (hasB ((flgF d.val).getD i.val 0) 2) (hasB ((flgF d.val).getD i.val 0) 16) (hasB ((flgF d.val).getD i.val 0) 4) (hasB ((flgF d.val).getD i.val 0) 1) = true ∧
    0 ≤ sq d.val first i.val ∧ sq d.val first i.val ≤ 7 ∧ 1 ≤ sq d.val first (i.val + 1) ∧ sq d.val first (i.val + 1) ≤ 7 := by
  decide +kernel

theorem whoL_succ (k : Nat) : whoL (k + 1) = whoL k ++ [(k : Int) % 2 == 0] := by
  simp [whoL, List.range_succ]
theorem flgL_succ (k : Nat) : flgL (k + 1) = flgL k ++ [24] := by
  simp [flgL, List.replicate_succ', List.append_assoc]
theorem len_whoL (k : Nat) : (whoL k).length = 3 + k := by simp [whoL]; omega
theorem len_flgL (k : Nat) : (flgL k).length = 3 + k := by simp [flgL]; omega

theorem info4 : (Try.prog.info? 4).map (fun i => (i.zero, i.size, i.bytes)) = some (some (.bool false), 1, 1) := by kernel_rfl
theorem info3 : (Try.prog.info? 3).map (fun i => (i.zero, i.size, i.bytes)) = some (some (.int .i64 0), 1, 8) := by kernel_rfl

/-- A slice of the call's own, at the head of block g. -/
def Own (w : World) (v : Value) (g : Nat) (e : TypeId) (n : Nat) (xs : List Value) : Prop := v.ownBlock = some g ∧ w.ownsRow 0 e 1 v n xs

theorem four_new (w : World) (xs : List Value) (t : TypeId) : ∀ j u, xs[j]? = some u → (w.alloc (.cells xs.toArray t)).cell? ((⟨w.heap.size, 0, none⟩ : Addr).add j) = some u := by
  intro j u h
  have hadd : (⟨w.heap.size, 0, none⟩ : Addr).add j = ⟨w.heap.size, j, none⟩ := by unfold Addr.add; split <;> simp_all
  rw [hadd]
  simp [h]

theorem own_shape {w : World} {base : Nat} {e size n g : Nat} {v : Value} {xs : List Value} (h : w.ownsRow base e size v n xs) (ho : v.ownBlock = some g) : ∃ c, v = .slice (some ⟨g, 0, none⟩) n c := by
  rcases h.2 with ⟨rfl, _⟩ | ⟨g', cap, cur, rfl, _⟩
  · simp [Value.ownBlock] at ho
  · simp [Value.ownBlock] at ho
    subst ho
    exact ⟨cap, rfl⟩
theorem step_at (st : Int) (h0 : 0 ≤ st) (h1 : st ≤ 7) (b : Bool) (f N : Int) (hN : stN st b (hasB f 2) (hasB f 16) (hasB f 4) (hasB f 1) = N) (hB : stB st b (hasB f 2) (hasB f 16) (hasB f 4) (hasB f 1) = true) (w : World) :
    Calls Try.prog 8 #[.int .i64 st, .bool b, .int .i64 f] w fun e w' => e = .returned (.tuple #[.int .i64 N, .bool true]) ∧ Below w.heap.size w w' := by
  have h := step_c st h0 h1 b f w
  rw [hN, hB] at h
  exact h
theorem step_rst (st : Int) (h0 : 1 ≤ st) (h1 : st ≤ 7) (b : Bool) (w : World) :
    Calls Try.prog 8 #[.int .i64 st, .bool b, .int .i64 4] w fun e w' => e = .returned (.tuple #[.int .i64 0, .bool true]) ∧ Below w.heap.size w w' := by
  have h4 : hasB 4 4 = true := by decide
  exact step_at st (by omega) h1 b 4 0 (by simp [stN, h4]) (by simp [stB, h4]; omega) w
theorem after_append {w wr w2 : World} {o : Obj} {g : Nat} {v' : Value} (hbr : Below w.heap.size w wr) (hg : w.heap.size ≤ g) (h : (wr.alloc o).grownBy w2 (some g)) (hloc : v'.ownBlock = some g ∨ v'.ownBlock = some (wr.heap.size + 1)) :
    ∃ g', v'.ownBlock = some g' ∧ w.heap.size ≤ g' ∧ (g' = g ∨ g' = wr.heap.size + 1) ∧ Below w.heap.size w w2 ∧ wr.heap.size + 1 ≤ w2.heap.size := by
  have hsz := hbr.size
  have hb2 : Below w.heap.size w w2 := (hbr.alloc hbr.size o).grown h (by simp; omega) (fun k hk => by cases hk; exact hg)
  have hs2 := h.size
  simp at hs2
  rcases hloc with e | e
  · exact ⟨g, e, hg, .inl rfl, hb2, hs2⟩
  · exact ⟨_, e, by omega, .inr rfl, hb2, hs2⟩
theorem keep_row {wr w2 : World} {o : Obj} {g g9 : Nat} {v9 : Value} {e n : Nat} {xs : List Value} (h : (wr.alloc o).grownBy w2 (some g)) (hr : wr.ownsRow 0 e 1 v9 n xs) (ho : v9.ownBlock = some g9) (hne : g9 ≠ g) : w2.ownsRow 0 e 1 v9 n xs :=
  (hr.alloc o).kept h (.inr (by rw [ho]; simpa using hne))

set_option maxRecDepth 100000 in
set_option maxHeartbeats 3200000 in
theorem whole_w (first : Bool) (x y : Int) (d : Nat) (hx0 : 0 ≤ x) (hx1 : x ≤ 255) (hy0 : 0 ≤ y) (hy1 : y ≤ 255) (hd : d < 10) (hd0 : x % 10 ≤ d) (hd1 : (d : Int) ≤ x % 10) (w : World) :
    Calls Try.prog 4 #[.bool first, .int .u8 x, .int .u8 y] w fun e w' => e = .returned (.bool true) ∧ Below w.heap.size w w' := by
  obtain ⟨i4, hi4, hz4, hs4, hb4⟩ := info_parts info4
  obtain ⟨i3, hi3, hz3, hs3, hb3⟩ := info_parts info3
  go_enter Try.func4, Try.ntmps4
  go_wp2_with (go_at_call 7; refine (examples_c _).mono ?_; rintro e w1 ⟨rfl, hb1⟩)
  go_loopw [8, 9, 10] (fun a b i wr => ∃ (k g8 g9 : Nat), k ≤ d ∧ i = .int .i64 k ∧ Own wr a g8 4 (3 + k) ((whoL k).map Value.bool) ∧ Own wr b g9 3 (3 + k) ((flgL k).map (Value.int .i64)) ∧ w.heap.size ≤ g8 ∧ w.heap.size ≤ g9 ∧ g8 ≠ g9 ∧ Below w.heap.size w wr) (fun _ _ i _ => d - (intOf i).toNat)
  case atStart =>
    refine ⟨0, w1.heap.size, w1.heap.size + 1, by omega, rfl, ⟨rfl, ?_⟩, ⟨rfl, ?_⟩, ?_, ?_, ?_, ?_⟩
    · have h := Has.new w1 #[.bool false, .bool true, .bool false] 4
      exact ⟨rfl, .inr ⟨w1.heap.size, 3, _, rfl, Nat.zero_le _, h.alloc _, by omega, by unfold maxLen; omega, rfl, rfl⟩⟩
    · have h := Has.new (w1.alloc (.cells #[.bool false, .bool true, .bool false] 4)) #[.int .i64 2, .int .i64 18, .int .i64 16] 3
      exact ⟨rfl, .inr ⟨w1.heap.size + 1, 3, #[.int .i64 2, .int .i64 18, .int .i64 16], rfl, Nat.zero_le _, by simpa [Has] using h, by omega, by unfold maxLen; omega, rfl, rfl⟩⟩
    · exact hb1.size
    · have := hb1.size; omega
    · omega
    · exact (hb1.alloc hb1.size _).alloc (by have := hb1.size; simp; omega) _
  case round =>
    obtain ⟨k, g8, g9, hk, rfl, ⟨ho8, hr8⟩, ⟨ho9, hr9⟩, hg8, hg9, hne, hbr⟩ := hrel
    have hsz := hbr.size
    by_cases hlt : k < d
    · have h1 := hr8.alloc (.cells #[.bool ((k : Int) % 2 == 0)] 4)
      go_wp2_with (at_builtin; refine wpList_append_own_at _ rfl _ _ 23 rfl 0 4 i4 (.bool false) 1 1 Try.underlying23 hi4 hz4 hs4 hb4 rfl (by decide) _ _ _ rfl h1 ⟨wr.heap.size, 0, none⟩ 1 1 [.bool ((k : Int) % 2 == 0)] rfl rfl (cell_one_new _ _ _) ?c2 ?c3 ?c4 ?c5 ?_)
      case c2 => simp [Value.oneCell']
      case c3 => unfold maxLen; omega
      case c4 => omega
      case c5 => omega
      intro v8 w2 hown8 hgrow8 hnil8 hloc8
      have hlt9 : g9 < wr.heap.size := (hr9.lt _ ho9).2
      have hr9b := keep_row hgrow8 hr9 ho9 (Ne.symm hne)
      obtain ⟨h8, hk8, hge8, hwh8, hbr2, hsz2⟩ := after_append hbr hg8 hgrow8 hloc8
      have hne2 : h8 ≠ g9 := by omega
      clear h1 hr8 hr9 ho8 hnil8 hgrow8 hloc8 hwh8
      have h1 := hr9b.alloc (.cells #[.int .i64 24] 3)
      go_wp2_with (at_builtin; refine wpList_append_own_at _ rfl _ _ 28 rfl 0 3 i3 (.int .i64 0) 1 8 Try.underlying28 hi3 hz3 hs3 hb3 rfl (by decide) _ _ _ rfl h1 ⟨w2.heap.size, 0, none⟩ 1 1 [.int .i64 24] rfl rfl (cell_one_new _ _ _) ?c2 ?c3 ?c4 ?c5 ?_)
      case c2 => simp [Value.oneCell']
      case c3 => unfold maxLen; omega
      case c4 => omega
      case c5 => omega
      intro v9 w3 hown9 hgrow9 hnil9 hloc9
      have hlt8 : h8 < w2.heap.size := (hown8.lt _ hk8).2
      have hr8c := keep_row hgrow9 hown8 hk8 hne2
      obtain ⟨h9, hk9, hge9, hwh9, hbr3, hsz3⟩ := after_append hbr2 hg9 hgrow9 hloc9
      have hne3 : h8 ≠ h9 := by omega
      clear h1 hown8 hr9b ho9 hnil9 hgrow9 hloc9 hwh9
      have e8 : (whoL (k + 1)).map Value.bool = (whoL k).map Value.bool ++ [.bool ((k : Int) % 2 == 0)] := by rw [whoL_succ]; simp
      have e9 : (flgL (k + 1)).map (Value.int .i64) = (flgL k).map (Value.int .i64) ++ [.int .i64 24] := by rw [flgL_succ]; simp
      have E8 := Lib.hid e8
      have E9 := Lib.hid e9
      clear e8 e9
      go_wp2
      go_roundw
      case rel => exact ⟨k + 1, h8, h9, by omega, by go_num, ⟨hk8, by rw [E8.out]; exact hr8c⟩, ⟨hk9, by rw [E9.out]; exact hown9⟩, hge8, hge9, hne3, hbr3⟩
      case measure => simp [intOf]; omega
    · obtain rfl : k = d := by omega
      have h1 := hr8.alloc (.cells #[.bool first, .bool !first, .bool !first, .bool first] 4)
      go_wp2_with (at_builtin; refine wpList_append_own_at _ rfl _ _ 23 rfl 0 4 i4 (.bool false) 1 1 Try.underlying23 hi4 hz4 hs4 hb4 rfl (by decide) _ _ _ rfl h1 ⟨wr.heap.size, 0, none⟩ 4 4 [.bool first, .bool !first, .bool !first, .bool first] rfl rfl (four_new _ _ _) ?c2 ?c3 ?c4 ?c5 ?_)
      case c2 => simp [Value.oneCell']
      case c3 => unfold maxLen; omega
      case c4 => omega
      case c5 => omega
      intro v8 w2 hown8 hgrow8 hnil8 hloc8
      have hlt9 : g9 < wr.heap.size := (hr9.lt _ ho9).2
      have hr9b := keep_row hgrow8 hr9 ho9 (Ne.symm hne)
      obtain ⟨h8, hk8, hge8, hwh8, hbr2, hsz2⟩ := after_append hbr hg8 hgrow8 hloc8
      have hne2 : h8 ≠ g9 := by omega
      clear h1 hr8 hr9 ho8 hnil8 hgrow8 hloc8 hwh8
      have h1 := hr9b.alloc (.cells #[.int .i64 17, .int .i64 16, .int .i64 17, .int .i64 16] 3)
      go_wp2_with (at_builtin; refine wpList_append_own_at _ rfl _ _ 28 rfl 0 3 i3 (.int .i64 0) 1 8 Try.underlying28 hi3 hz3 hs3 hb3 rfl (by decide) _ _ _ rfl h1 ⟨w2.heap.size, 0, none⟩ 4 4 [.int .i64 17, .int .i64 16, .int .i64 17, .int .i64 16] rfl rfl (four_new _ _ _) ?c2 ?c3 ?c4 ?c5 ?_)
      case c2 => simp [Value.oneCell']
      case c3 => unfold maxLen; omega
      case c4 => omega
      case c5 => omega
      intro v9 w3 hown9 hgrow9 hnil9 hloc9
      have hlt8 : h8 < w2.heap.size := (hown8.lt _ hk8).2
      have hr8c := keep_row hgrow9 hown8 hk8 hne2
      obtain ⟨h9, hk9, hge9, hwh9, hbr3, hsz3⟩ := after_append hbr2 hg9 hgrow9 hloc9
      have hlt9c : h9 < w3.heap.size := (hown9.lt _ hk9).2
      have hlt8c : h8 < w3.heap.size := by omega
      clear h1 hown8 hr9b ho9 hnil9 hgrow9 hloc9 hwh9 hg8 hg9 hne hbr hlt9 hne2 hbr2 hsz hsz2
      have HC8 : Hid (∀ j, j < 7 + k → w3.cell? ⟨h8, j, none⟩ = some (.bool ((whoF k first).getD j false))) := by
        intro j hj
        have e : (whoF k first).map Value.bool = (whoL k).map Value.bool ++ [.bool first, .bool !first, .bool !first, .bool first] := by simp [whoF]
        have hl : (whoF k first).length = 7 + k := by simp [whoF, len_whoL]; omega
        have := hr8c.cells hk8 j (.bool ((whoF k first).getD j false)) (by rw [← e]; simp [List.getElem?_map, List.getElem?_eq_getElem (show j < (whoF k first).length by omega), List.getD])
        simpa [add_none] using this
      have HC9 : Hid (∀ j, j < 7 + k → w3.cell? ⟨h9, j, none⟩ = some (.int .i64 ((flgF k).getD j 0))) := by
        intro j hj
        have e : (flgF k).map (Value.int .i64) = (flgL k).map (Value.int .i64) ++ [.int .i64 17, .int .i64 16, .int .i64 17, .int .i64 16] := by simp [flgF]
        have hl : (flgF k).length = 7 + k := by simp [flgF, len_flgL]; omega
        have := hown9.cells hk9 j (.int .i64 ((flgF k).getD j 0)) (by rw [← e]; simp [List.getElem?_map, List.getElem?_eq_getElem (show j < (flgF k).length by omega), List.getD])
        simpa [add_none] using this
      have hv8 : ∃ c8, v8 = .slice (some ⟨h8, 0, none⟩) (7 + k) c8 := by
        obtain ⟨c, hc⟩ := own_shape hr8c hk8
        exact ⟨c, by rw [hc]; congr 1; omega⟩
      have hv9 : ∃ c9, v9 = .slice (some ⟨h9, 0, none⟩) (7 + k) c9 := by
        obtain ⟨c, hc⟩ := own_shape hown9 hk9
        exact ⟨c, by rw [hc]; congr 1; omega⟩
      obtain ⟨c8, hv8⟩ := hv8
      obtain ⟨c9, hv9⟩ := hv9
      rw [hv8, hv9]
      clear hown9 hr8c hk8 hk9 hv8 hv9
      go_wp2_with fail
      go_loopw [11, 12] (fun s i wr => ∃ (k2 : Nat), k2 ≤ 7 + k ∧ i = .int .i64 k2 ∧ s = .int .i64 (sq k first k2) ∧ Below w3.heap.size w3 wr) (fun _ i _ => 20 - (intOf i).toNat)
      case atStart => exact ⟨0, by omega, rfl, rfl, Below.refl _ _⟩
      case round =>
        obtain ⟨j, hj, rfl, rfl, hbr⟩ := hrel
        by_cases hlt : j < 7 + k
        · have hc8 := (hbr.cell (p := ⟨h8, j, none⟩) hlt8c).trans (HC8.out j hlt)
          have hc9 := (hbr.cell (p := ⟨h9, j, none⟩) hlt9c).trans (HC9.out j hlt)
          have pl := whole_plain ⟨k, hd⟩ first ⟨j, by omega⟩ hlt
          simp only at pl
          obtain ⟨pN, pB, p0, p7, q1, q7⟩ := pl
          obtain ⟨bv, hbv⟩ : ∃ bv, bv = (whoF k first).getD j false := ⟨_, rfl⟩
          obtain ⟨fv, hfv⟩ : ∃ fv, fv = (flgF k).getD j 0 := ⟨_, rfl⟩
          obtain ⟨st, hst⟩ : ∃ st, st = sq k first j := ⟨_, rfl⟩
          obtain ⟨su, hsu⟩ : ∃ su, su = sq k first (j + 1) := ⟨_, rfl⟩
          rw [← hbv] at hc8 pN pB
          rw [← hfv] at hc9 pN pB
          rw [← hst] at pN pB p0 p7 ⊢
          rw [← hsu] at pN q1 q7
          have HSU := Lib.hid hsu
          have PN := Lib.hid pN
          have PB := Lib.hid pB
          clear hbv hfv hst hsu pN pB
          have gl : j ≤ 20 := by omega
          have HS : Hid (∀ W : World, Below wr.heap.size wr W → W.cell? ⟨h8, j, none⟩ = some (.bool bv) ∧ W.cell? ⟨h9, j, none⟩ = some (.int .i64 fv) ∧ Below wr.heap.size wr W) := fun W q => ⟨(q.cell (Nat.lt_of_lt_of_le hlt8c hbr.size)).trans hc8, (q.cell (Nat.lt_of_lt_of_le hlt9c hbr.size)).trans hc9, q⟩
          clear hc8 hc9
          go_wp2_with fail
          go_region_held3 (fun W => W.cell? ⟨h8, j, none⟩ = some (.bool bv) ∧ W.cell? ⟨h9, j, none⟩ = some (.int .i64 fv) ∧ Below wr.heap.size wr W) (first | exact HS.out _ (Below.drew (Below.refl _ _)) | exact HS.out _ (Below.trans (Below.drew (Below.refl _ _)) hS))
            (first | (go_at_call 8; refine (step_at st p0 p7 bv fv su PN.out PB.out _).mono ?_; rintro e wS ⟨rfl, hS⟩))
          have hbr4 : Below w3.heap.size w3 wS := hbr.trans ((Below.trans (Below.drew (Below.refl _ _)) hS).mono hbr.size)
          rename_i hx
          clear hx HS hS hbr
          go_wp2_with fail
          · refine (step_rst su q1 q7 _ _).mono ?_
            rintro e wT ⟨rfl, hT⟩
            have hbr5 : Below w3.heap.size w3 wT := hbr4.trans (hT.mono hbr4.size)
            clear hT hbr4
            go_wp2
            go_roundw
            case rel => exact ⟨j + 1, by omega, by go_num, by rw [HSU.out], hbr5⟩
            case measure => simp [intOf]; omega
          · go_roundw
            case rel => exact ⟨j + 1, by omega, by go_num, by rw [HSU.out], hbr4⟩
            case measure => simp [intOf]; omega
        · obtain rfl : j = 7 + k := by omega
          have e7 : (sq k first (7 + k) == 7) = true := by
            have : sq k first (7 + k) = 7 := by unfold sq; repeat (first | rw [if_neg (by omega)])
            rw [this]; rfl
          generalize sq k first (7 + k) = st at e7 ⊢
          go_wp2
          go_ret
          exact ⟨rfl, hbr3.trans (hbr.mono hbr3.size)⟩
end Go.Proofs.Ytjkogmfjfbmmiaa
