/- A table in memory (instance P): the iterators handles and All. -/
import Derived.Test.YtckbffbjdcnklaaRF
import Derived.Test.YtckbffbjdcnklaaPTw1
namespace Go.Proofs.Ytckbffbjdcnklaa.P
open Go.RowKit Go.Shelf
set_option linter.unusedSimpArgs false
set_option linter.unusedVariables false
attribute [local go_sem] Oper.semAt_some

/-- The handles below k that something has. -/
def hs (R : Nat → Option Row) (k : Nat) : List Nat := (List.range k).filter fun h => (R h).isSome
theorem hs_yes {R : Nat → Option Row} {k : Nat} (h : (R k).isSome = true) : hs R (k + 1) = hs R k ++ [k] := by simp [hs, List.range_succ, List.filter_append, h]
theorem hs_no {R : Nat → Option Row} {k : Nat} (h : (R k).isSome = false) : hs R (k + 1) = hs R k := by simp [hs, List.range_succ, List.filter_append, h]
theorem hs_pre {R : Nat → Option Row} {k n : Nat} (h : k ≤ n) : hs R k <+: hs R n := by
  induction n with
  | zero => obtain rfl : k = 0 := by omega
            exact List.prefix_refl _
  | succ n ih =>
    by_cases e : k = n + 1
    · subst e; exact List.prefix_refl _
    · refine (ih (by omega)).trans ?_
      cases q : (R n).isSome
      · rw [hs_no q]; exact List.prefix_refl _
      · rw [hs_yes q]; exact List.prefix_append _ _
theorem hs_mem {R : Nat → Option Row} {pre : List Nat} {x n : Nat} (h : pre ++ [x] <+: hs R n) : ∃ r, R x = some r ∧ x < n := by
  have : x ∈ hs R n := h.subset (by simp)
  simp [hs] at this
  obtain ⟨h1, h2⟩ := this
  obtain ⟨r, hr⟩ := Option.isSome_iff_exists.1 h2
  exact ⟨r, hr, h1⟩
/-- The table's row of rows, as an iterator reads it. -/
structure Mem (W : World) (tb g cap m : Nat) (R : Nat → Option Row) : Prop where
  hd : ∃ a fr ma mb, Has W tb 105 #[a, .slice (some ⟨g, 0, none⟩) (m + 1 : Nat) cap, fr, ma, mb]
  rows : RowsAt W g cap m R
  hm : m ≤ 70000
section
variable {w0 : Base} {w w' : World} {tb g cap am bm room m cnt : Nat} {R : Nat → Option Row} {fa : ByteArray → Option Nat} {fb : Int → Option Nat} {fr : Value}
theorem TS.mem (h : TS w0 w tb g cap am bm room m cnt R fa fb fr) : Mem w tb g cap m R := ⟨⟨_, _, _, _, h.head⟩, h.rows, h.hm⟩
theorem Mem.kept (h : Mem w tb g cap m R) {Z : Nat → Prop} (k : KZ Z w w') (h1 : Z tb) (h2 : Z g) : Mem w' tb g cap m R := by
  obtain ⟨⟨a, f, b, c, q⟩, r, e⟩ := h
  exact ⟨⟨a, f, b, c, (k.block _ q.lt h1).trans q⟩, r.of_block (k.block _ r.lt h2), e⟩
theorem Mem.cell1 (h : Mem w tb g cap m R) : w.cell? ⟨tb, 1, none⟩ = some (.slice (some ⟨g, 0, none⟩) (m + 1) cap) := by
  obtain ⟨⟨a, f, b, c, q⟩, _⟩ := h
  have := q.cell 1
  simpa using this
set_option maxRecDepth 100000 in
set_option maxHeartbeats 1000000 in
/-- handles: an iterator value; the receiver is boxed. -/
theorem hnd_c (w : World) (tb : Nat) : Calls Try.prog 56 #[.pointer (some ⟨tb, 0, none⟩)] w fun e w' => e = .returned (.func (.func 61) #[] #[.pointer (some ⟨w.heap.size, 0, none⟩)]) ∧ w' = w.alloc (.cells #[.pointer (some ⟨tb, 0, none⟩)] 59) := by
  go_enter Try.func56, Try.ntmps56
  go_wp2
  go_ret
  exact ⟨rfl, rfl⟩
set_option maxHeartbeats 1000000 in
/-- All: an iterator value; the receiver is boxed. -/
theorem all_c (w : World) (tb : Nat) : Calls Try.prog 33 #[.pointer (some ⟨tb, 0, none⟩)] w fun e w' => e = .returned (.func (.func 55) #[] #[.pointer (some ⟨w.heap.size, 0, none⟩)]) ∧ w' = w.alloc (.cells #[.pointer (some ⟨tb, 0, none⟩)] 59) := by
  go_enter Try.func33, Try.ntmps33
  go_wp2
  go_ret
  exact ⟨rfl, rfl⟩
set_option maxRecDepth 100000 in
set_option maxHeartbeats 2000000 in
theorem hnd_seq (Z : Nat → Prop) (bx : Nat) (hbx : Has w bx 59 #[.pointer (some ⟨tb, 0, none⟩)]) (h : Mem w tb g cap m R) (z1 : Z bx) (z2 : Z tb) (z3 : Z g) :
    SeqN Try.prog 61 #[.pointer (some ⟨bx, 0, none⟩)] (fun x : Nat => #[Value.int .i64 (x : Int)]) Z (hs R (m + 1)) w := by
  intro n l B J Jx W hW hB hJ hJx hY h0
  have k0 : KZ Z w W := .of_below hW
  have M0 := Lib.hid (h.kept k0 z2 z3)
  have X0 : Hid (Has W bx 59 #[.pointer (some ⟨tb, 0, none⟩)]) := (k0.block _ hbx.lt z1).trans hbx
  have hm := h.hm
  have c1 := M0.out.cell1
  have c0 := Has.cell X0.out 0
  simp at c0
  clear hW hJ hJx h hbx k0
  refine callsIn_wide.2 (callsIn_wide (n := 5) |>.1 ?_)
  refine callsIn_of_wp Try.func61 rfl trivial ?_ rfl
  simp only [Try.ntmps61, List.size_toArray, List.length_cons, List.length_nil, Nat.reduceAdd, Nat.reduceSub, Array.replicate_succ, Array.replicate_zero, List.push_toArray, List.append_toArray, List.nil_append, List.cons_append]
  gi_wp2
  gi_loopw [9] (fun p wr => ∃ k : Nat, p = .int .i64 (k : Int) ∧ k ≤ m + 1 ∧ J (hs R k) wr ∧ KZ Z W wr) (fun p _ => m + 1 - (intOf p).toNat)
  case atStart => exact ⟨0, rfl, by omega, h0, KZ.refl _ _⟩
  case round =>
    clear c0 c1 h0
    obtain ⟨k, rfl, hk, hJ, hK⟩ := hrel
    have M1 := M0.out.kept hK z2 z3
    have X1 : Has wr bx 59 #[.pointer (some ⟨tb, 0, none⟩)] := (hK.block _ X0.out.lt z1).trans X0.out
    have c1 := M1.cell1
    have c0 := Has.cell X1 0
    simp at c0
    by_cases hlt : k < m + 1
    · have h1 : (k : Int) < (m : Int) + 1 := by omega
      have h2 : (0 : Int) ≤ (k : Int) := Int.natCast_nonneg _
      have c3 := M1.rows.cell (x := k) (k := 3) (by omega) (by omega)
      cases hr : R k with
      | none =>
        rw [hr] at c3
        have c4 : wr.cell? ⟨g, k * 4 + 3, none⟩ = some (.bool false) := c3
        have hsn : hs R (k + 1) = hs R k := hs_no (by rw [hr]; rfl)
        clear c3 hr M1 X1
        gi_wp2
        refine ⟨fun _ h => (by cases h), ?_⟩
        gi_wp2
        go_roundw
        case rel => exact ⟨k + 1, rfl, by omega, by rw [hsn]; exact hJ, hK⟩
        case measure => simp [intOf]; omega
      | some r =>
        rw [hr] at c3
        have c4 : wr.cell? ⟨g, k * 4 + 3, none⟩ = some (.bool true) := c3
        have hsy : hs R (k + 1) = hs R k ++ [k] := hs_yes (by rw [hr]; rfl)
        have hpp : hs R k ++ [k] <+: hs R (m + 1) := by rw [← hsy]; exact hs_pre (by omega)
        have HJ := Lib.hid hY
        obtain ⟨fn, tmps, assign, body, hy, hR⟩ := hY 4 (hs R k) k wr hJ hpp
        clear c3 hr M1 X1 hY
        gi_wp2
        refine hR.mono ?_
        rintro e W3 ⟨hk3, (⟨rfl, hJ3⟩ | ⟨rfl, hJx3⟩)⟩
        · gi_wp2
          go_roundw
          case rel => exact ⟨k + 1, rfl, by omega, by rw [hsy]; exact hJ3, hK.trans (hk3.mono (fun _ h => .inl h))⟩
          case measure => simp [intOf]; omega
        · gi_wp2
          refine bodyPost_ret (results_none rfl _ _ _) rfl ?_
          exact ⟨⟨_, rfl⟩, .inr ⟨_, hpp, hJx3⟩⟩
    · obtain rfl : k = m + 1 := by omega
      have h1 : ¬ (((m + 1 : Nat) : Int) < (m : Int) + 1) := by omega
      gi_wp2
      go_end0
      exact ⟨⟨_, rfl⟩, .inl hJ⟩
/-- All's function. -/
theorem all_seq (bx : Nat) (Z : Nat → Prop) (hbx : Has w bx 59 #[.pointer (some ⟨tb, 0, none⟩)]) (h : Mem w tb g cap m R) (z1 : Z bx) (z2 : Z tb) (z3 : Z g) :
    SeqN Try.prog 55 #[.pointer (some ⟨bx, 0, none⟩)] (fun x : Nat => #[Value.int .i64 (x : Int), fld (R x) 2]) Z (hs R (m + 1)) w := by
  intro n l B J Jx W hW hB hJ hJx hY h0
  have hwW := hW.size
  have k0 : KZ (fun k => Z k ∨ B ≤ k) w W := .of_below hW
  have M0 := Lib.hid (h.kept k0 (.inl z2) (.inl z3))
  have X0 : Hid (Has W bx 59 #[.pointer (some ⟨tb, 0, none⟩)]) := (k0.block _ hbx.lt (.inl z1)).trans hbx
  have c0 := Has.cell X0.out 0
  have bl := X0.out.lt
  simp at c0
  clear hW k0
  refine callsIn_wide.2 (callsIn_wide (n := 5) |>.1 ?_)
  refine callsIn_of_wp_marks Try.func55 rfl trivial ?_ rfl
  simp only [Try.ntmps55, List.size_toArray, List.length_cons, List.length_nil, Nat.reduceAdd, Nat.reduceSub, Array.replicate_succ, Array.replicate_zero, List.push_toArray, List.append_toArray, List.nil_append, List.cons_append]
  gi_wp2
  refine ⟨trivial, (callsIn_wide.2 (hnd_c _ _)).mono ?_⟩
  rintro e w' ⟨rfl, rfl⟩
  gi_wp2
  obtain ⟨wi, hwi⟩ : ∃ wi, wi = (W.alloc (.cells #[.func (.yield l) #[] #[]] 46)).alloc (.cells #[.pointer (some ⟨tb, 0, none⟩)] 59) := ⟨_, rfl⟩
  rw [← hwi]
  have si : wi.heap.size = W.heap.size + 1 + 1 := by rw [hwi]; simp
  have b0 : Below W.heap.size W (W.alloc (.cells #[.func (.yield l) #[] #[]] 46)) := (Below.refl _ _).alloc (Nat.le_refl _) _
  have hbW : Below W.heap.size W wi := by rw [hwi]; exact b0.alloc (by simp) _
  have yb : Has wi W.heap.size 46 #[.func (.yield l) #[] #[]] := by
    rw [hwi]
    exact (Has.new W _ _).alloc _
  have rb : Has wi (W.heap.size + 1) 59 #[.pointer (some ⟨tb, 0, none⟩)] := by
    rw [hwi]
    have := Has.new (W.alloc (.cells #[.func (.yield l) #[] #[]] 46)) #[.pointer (some ⟨tb, 0, none⟩)] 59
    simpa using this
  have xb : Has wi bx 59 #[.pointer (some ⟨tb, 0, none⟩)] := (hbW.block _ bl).trans X0.out
  have MI : Mem wi tb g cap m R := M0.out.kept (Z := fun _ => True) (.of_below hbW) trivial trivial
  have tl : tb < wi.heap.size := by obtain ⟨⟨_, _, _, _, q⟩, _⟩ := MI; exact q.lt
  have gl : g < wi.heap.size := MI.rows.lt
  obtain ⟨ZI, hZI⟩ : ∃ ZI : Nat → Prop, ZI = fun k => k < wi.heap.size ∧ (Z k ∨ B ≤ k) := ⟨_, rfl⟩
  have i1 : ZI W.heap.size := by rw [hZI]; exact ⟨by omega, .inr hB⟩
  have i2 : ZI (W.heap.size + 1) := by rw [hZI]; exact ⟨by omega, .inr (by omega)⟩
  have i3 : ZI bx := by rw [hZI]; exact ⟨by omega, .inl z1⟩
  have i4 : ZI tb := by rw [hZI]; exact ⟨tl, .inl z2⟩
  have i5 : ZI g := by rw [hZI]; exact ⟨gl, .inl z3⟩
  have il : ∀ k, ZI k → k < wi.heap.size := fun k h => by rw [hZI] at h; exact h.1
  have ii : ∀ k, ZI k → Z k ∨ B ≤ k := fun k h => by rw [hZI] at h; exact h.2
  have Jw : J [] wi := by rw [hwi]; exact hJ.alloc _ (hJ.alloc _ h0)
  have HMI := Lib.hid MI
  clear hZI hwi hbW b0 h0 MI X0 M0 hbx h c0
  refine wp_rangeN (gf := 61) (lb := #[.pointer (some ⟨W.heap.size + 1, 0, none⟩)]) rfl (enters_of Try.func61 (by kernel_rfl) rfl)
    (hnd_seq ZI (W.heap.size + 1) rb HMI.out i2 i4 i5) (Below.refl _ _) il (fun _ => rfl)
    (fun pre X => J pre X ∧ KZ ZI wi X) (fun c pre X => c = .ret ∧ Jx pre X)
    (fun s X Y row hs hg hr => ⟨ownFrom_up hJ (B' := wi.heap.size) (by omega) s X Y row hs.1 hg hr, ⟨Nat.le_trans hs.2.size hg.size, fun k hk hz => (hg.block k (Nat.lt_of_lt_of_le hk hs.2.size) (fun e => by have := (hr k e.symm).1; omega)).trans (hs.2.block k hk hz)⟩⟩)
    (fun c s X Y row hs hg hr => ⟨hs.1, ownFrom_up hJx (B' := wi.heap.size) (by omega) s X Y row hs.2 hg hr⟩)
    ⟨Jw, KZ.refl _ _⟩
    ?round ?done ?stop
  case round =>
    intro l' n' pre x X0 hpp
    gi_wp2
    refine ⟨trivial, ?_⟩
    clear X0
    rintro X ⟨hJ1, hKZ⟩
    have M1 := HMI.out.kept hKZ i4 i5
    have y1 : Has X W.heap.size 46 #[.func (.yield l) #[] #[]] := (hKZ.block _ yb.lt i1).trans yb
    have x1 : Has X bx 59 #[.pointer (some ⟨tb, 0, none⟩)] := (hKZ.block _ xb.lt i3).trans xb
    have c1 := M1.cell1
    have cy := y1.cell 0
    have cx := x1.cell 0
    simp at cy cx
    obtain ⟨r, hr, hxm⟩ := hs_mem hpp
    have cr := M1.rows.cell (x := x) (k := 2) (by omega) (by omega)
    have hx0 : (0 : Int) ≤ (x : Int) := Int.natCast_nonneg _
    have hx1 : (x : Int) < (m : Int) + 1 := by omega
    rw [hr] at cr
    have cr' : X.cell? ⟨g, x * 4 + 2, none⟩ = some (.string r.v) := cr
    have hv : fld (R x) 2 = .string r.v := by rw [hr]; rfl
    have gX : X.grownBy X.drew none := ⟨rfl, rfl, rfl, Nat.le_refl _, fun _ _ _ => rfl⟩
    obtain ⟨fn, tmps, assign, body, hy, hR⟩ := hY (n' - 1) pre x X.drew (hJ pre X _ none hJ1 gX (fun _ e => by cases e)) hpp
    rw [hv] at hy
    clear cr hr
    have toI : ∀ {W3 : World}, KZ (fun k => Z k ∨ B ≤ k) X.drew W3 → KZ (fun k => ZI k ∨ wi.heap.size ≤ k) X W3 := fun h => ⟨h.size, fun k hk hz => h.block k hk (by rcases hz with q | q; exact ii k q; exact .inr (by omega))⟩
    have keep : ∀ {W3 : World}, KZ (fun k => Z k ∨ B ≤ k) X.drew W3 → KZ ZI wi W3 := fun h => hKZ.trans ((toI h).mono (fun _ q => .inl q))
    have hmo : Try.prog.follows .mixedOrders = true := by kernel_rfl
    gi_wp2
    refine wpIn_region_any hmo ?_
    change wpAnyIn _ _ _ _ _ _ _ _ _ (World.drew _)
    refine any_round (F := Fence.wide) (by kernel_rfl) _ _ _ _ ?_
    refine wpAnyIn_take (i := 1) (v := .int .i64 (x : Int)) rfl rfl (by kernel_rfl) (by kernel_rfl) (by kernel_rfl) (fun _ _ _ h => h) ⟨Or.inl ⟨by rfl, ?_⟩, fun _ => rfl⟩ ?_
    · intro W0; go_simp
    refine wpAnyIn_take (i := 6) (v := .int .i64 (x : Int)) rfl rfl (by kernel_rfl) (by kernel_rfl) (by kernel_rfl) (fun _ _ _ h => h) ⟨Or.inl ⟨by rfl, ?_⟩, fun _ => rfl⟩ ?_
    · intro W0; go_simp
    refine wpAnyIn_ready (rs := [0, 2]) (by kernel_rfl) (by simp) (AllReadyIn.cons rfl (fun K hK => ?_) (AllReadyIn.cons rfl (fun K hK => ?_) AllReadyIn.nil))
    · go_simp
      refine hK _ _ ?_
      clear hK K
      refine wpAnyIn_ready (rs := [2]) (by kernel_rfl) (by simp) (AllReadyIn.cons rfl (fun K hK => ?_) AllReadyIn.nil)
      go_simp
      refine hK _ _ ?_
      clear hK K
      refine wpAnyIn_take (i := 3) (v := .pointer (some ⟨tb, 0, none⟩)) rfl rfl (by kernel_rfl) (by kernel_rfl) (by kernel_rfl) (fun _ _ _ h => h) ⟨Or.inl ⟨by rfl, ?_⟩, fun _ => rfl⟩ ?_
      · intro W0; go_simp
      refine wpAnyIn_take (i := 4) (v := .pointer (some ⟨tb, 1, none⟩)) rfl rfl (by kernel_rfl) (by kernel_rfl) (by kernel_rfl) (fun _ _ _ h => h) ⟨Or.inl ⟨by rfl, ?_⟩, fun _ => rfl⟩ ?_
      · intro W0; go_simp
      refine wpAnyIn_ready (rs := [5]) (by kernel_rfl) (by simp) (AllReadyIn.cons rfl (fun K hK => ?_) AllReadyIn.nil)
      go_simp
      refine hK _ _ ?_
      clear hK K
      refine wpAnyIn_take (i := 7) (v := .pointer (some ⟨g, x * 4, none⟩)) rfl rfl (by kernel_rfl) (by kernel_rfl) (by kernel_rfl) (fun _ _ _ h => h) ⟨Or.inl ⟨by rfl, ?_⟩, fun _ => rfl⟩ ?_
      · intro W0; go_simp
      refine wpAnyIn_take (i := 8) (v := .pointer (some ⟨g, x * 4 + 2, none⟩)) rfl rfl (by kernel_rfl) (by kernel_rfl) (by kernel_rfl) (fun _ _ _ h => h) ⟨Or.inl ⟨by rfl, ?_⟩, fun _ => rfl⟩ ?_
      · intro W0; go_simp
      refine wpAnyIn_ready (rs := [9]) (by kernel_rfl) (by simp) (AllReadyIn.cons rfl (fun K hK => ?_) AllReadyIn.nil)
      go_simp
      refine hK _ _ ?_
      clear hK K
      refine wpAnyIn_ready (rs := [10]) (by kernel_rfl) (by simp) (AllReadyIn.cons rfl (fun K hK => ?_) AllReadyIn.nil)
      go_simp
      refine ⟨fun h => (by cases h), hR.mono ?_⟩
      rintro e W3 ⟨hk3, (⟨rfl, hj3⟩ | ⟨rfl, hj3⟩)⟩
      · refine hK _ _ ?_
        clear hK K
        refine wpAnyIn_take (i := 11) (v := .bool false) rfl rfl (by kernel_rfl) (by kernel_rfl) (by kernel_rfl) (fun _ _ _ h => h) ⟨Or.inl ⟨by rfl, ?_⟩, fun _ => rfl⟩ ?_
        · intro W0; go_simp
        refine wpAnyIn_done (by kernel_rfl) ?_ _
        gi_wp2
        exact ⟨toI hk3, hj3, keep hk3⟩
      · refine hK _ _ ?_
        clear hK K
        refine wpAnyIn_take (i := 11) (v := .bool true) rfl rfl (by kernel_rfl) (by kernel_rfl) (by kernel_rfl) (fun _ _ _ h => h) ⟨Or.inl ⟨by rfl, ?_⟩, fun _ => rfl⟩ ?_
        · intro W0; go_simp
        refine wpAnyIn_done (by kernel_rfl) ?_ _
        gi_wp2
        exact ⟨toI hk3, rfl, hj3⟩
    · go_simp
      refine hK _ _ ?_
      clear hK K
      refine wpAnyIn_take (i := 3) (v := .pointer (some ⟨tb, 0, none⟩)) rfl rfl (by kernel_rfl) (by kernel_rfl) (by kernel_rfl) (fun _ _ _ h => h) ⟨Or.inl ⟨by rfl, ?_⟩, fun _ => rfl⟩ ?_
      · intro W0; go_simp
      refine wpAnyIn_take (i := 4) (v := .pointer (some ⟨tb, 1, none⟩)) rfl rfl (by kernel_rfl) (by kernel_rfl) (by kernel_rfl) (fun _ _ _ h => h) ⟨Or.inl ⟨by rfl, ?_⟩, fun _ => rfl⟩ ?_
      · intro W0; go_simp
      refine wpAnyIn_ready (rs := [0, 5]) (by kernel_rfl) (by simp) (AllReadyIn.cons rfl (fun K hK => ?_) (AllReadyIn.cons rfl (fun K hK => ?_) AllReadyIn.nil))
      · go_simp
        refine hK _ _ ?_
        clear hK K
        refine wpAnyIn_ready (rs := [5]) (by kernel_rfl) (by simp) (AllReadyIn.cons rfl (fun K hK => ?_) AllReadyIn.nil)
        go_simp
        refine hK _ _ ?_
        clear hK K
        refine wpAnyIn_take (i := 7) (v := .pointer (some ⟨g, x * 4, none⟩)) rfl rfl (by kernel_rfl) (by kernel_rfl) (by kernel_rfl) (fun _ _ _ h => h) ⟨Or.inl ⟨by rfl, ?_⟩, fun _ => rfl⟩ ?_
        · intro W0; go_simp
        refine wpAnyIn_take (i := 8) (v := .pointer (some ⟨g, x * 4 + 2, none⟩)) rfl rfl (by kernel_rfl) (by kernel_rfl) (by kernel_rfl) (fun _ _ _ h => h) ⟨Or.inl ⟨by rfl, ?_⟩, fun _ => rfl⟩ ?_
        · intro W0; go_simp
        refine wpAnyIn_ready (rs := [9]) (by kernel_rfl) (by simp) (AllReadyIn.cons rfl (fun K hK => ?_) AllReadyIn.nil)
        go_simp
        refine hK _ _ ?_
        clear hK K
        refine wpAnyIn_ready (rs := [10]) (by kernel_rfl) (by simp) (AllReadyIn.cons rfl (fun K hK => ?_) AllReadyIn.nil)
        go_simp
        refine ⟨fun h => (by cases h), hR.mono ?_⟩
        rintro e W3 ⟨hk3, (⟨rfl, hj3⟩ | ⟨rfl, hj3⟩)⟩
        · refine hK _ _ ?_
          clear hK K
          refine wpAnyIn_take (i := 11) (v := .bool false) rfl rfl (by kernel_rfl) (by kernel_rfl) (by kernel_rfl) (fun _ _ _ h => h) ⟨Or.inl ⟨by rfl, ?_⟩, fun _ => rfl⟩ ?_
          · intro W0; go_simp
          refine wpAnyIn_done (by kernel_rfl) ?_ _
          gi_wp2
          exact ⟨toI hk3, hj3, keep hk3⟩
        · refine hK _ _ ?_
          clear hK K
          refine wpAnyIn_take (i := 11) (v := .bool true) rfl rfl (by kernel_rfl) (by kernel_rfl) (by kernel_rfl) (fun _ _ _ h => h) ⟨Or.inl ⟨by rfl, ?_⟩, fun _ => rfl⟩ ?_
          · intro W0; go_simp
          refine wpAnyIn_done (by kernel_rfl) ?_ _
          gi_wp2
          exact ⟨toI hk3, rfl, hj3⟩
      · go_simp
        refine hK _ _ ?_
        clear hK K
        refine wpAnyIn_take (i := 7) (v := .pointer (some ⟨g, x * 4, none⟩)) rfl rfl (by kernel_rfl) (by kernel_rfl) (by kernel_rfl) (fun _ _ _ h => h) ⟨Or.inl ⟨by rfl, ?_⟩, fun _ => rfl⟩ ?_
        · intro W0; go_simp
        refine wpAnyIn_take (i := 8) (v := .pointer (some ⟨g, x * 4 + 2, none⟩)) rfl rfl (by kernel_rfl) (by kernel_rfl) (by kernel_rfl) (fun _ _ _ h => h) ⟨Or.inl ⟨by rfl, ?_⟩, fun _ => rfl⟩ ?_
        · intro W0; go_simp
        refine wpAnyIn_ready (rs := [0, 9]) (by kernel_rfl) (by simp) (AllReadyIn.cons rfl (fun K hK => ?_) (AllReadyIn.cons rfl (fun K hK => ?_) AllReadyIn.nil))
        · go_simp
          refine hK _ _ ?_
          clear hK K
          refine wpAnyIn_ready (rs := [9]) (by kernel_rfl) (by simp) (AllReadyIn.cons rfl (fun K hK => ?_) AllReadyIn.nil)
          go_simp
          refine hK _ _ ?_
          clear hK K
          refine wpAnyIn_ready (rs := [10]) (by kernel_rfl) (by simp) (AllReadyIn.cons rfl (fun K hK => ?_) AllReadyIn.nil)
          go_simp
          refine ⟨fun h => (by cases h), hR.mono ?_⟩
          rintro e W3 ⟨hk3, (⟨rfl, hj3⟩ | ⟨rfl, hj3⟩)⟩
          · refine hK _ _ ?_
            clear hK K
            refine wpAnyIn_take (i := 11) (v := .bool false) rfl rfl (by kernel_rfl) (by kernel_rfl) (by kernel_rfl) (fun _ _ _ h => h) ⟨Or.inl ⟨by rfl, ?_⟩, fun _ => rfl⟩ ?_
            · intro W0; go_simp
            refine wpAnyIn_done (by kernel_rfl) ?_ _
            gi_wp2
            exact ⟨toI hk3, hj3, keep hk3⟩
          · refine hK _ _ ?_
            clear hK K
            refine wpAnyIn_take (i := 11) (v := .bool true) rfl rfl (by kernel_rfl) (by kernel_rfl) (by kernel_rfl) (fun _ _ _ h => h) ⟨Or.inl ⟨by rfl, ?_⟩, fun _ => rfl⟩ ?_
            · intro W0; go_simp
            refine wpAnyIn_done (by kernel_rfl) ?_ _
            gi_wp2
            exact ⟨toI hk3, rfl, hj3⟩
        · go_simp
          refine hK _ _ ?_
          clear hK K
          refine wpAnyIn_ready (rs := [0]) (by kernel_rfl) (by simp) (AllReadyIn.cons rfl (fun K hK => ?_) AllReadyIn.nil)
          go_simp
          refine hK _ _ ?_
          clear hK K
          refine wpAnyIn_ready (rs := [10]) (by kernel_rfl) (by simp) (AllReadyIn.cons rfl (fun K hK => ?_) AllReadyIn.nil)
          go_simp
          refine ⟨fun h => (by cases h), hR.mono ?_⟩
          rintro e W3 ⟨hk3, (⟨rfl, hj3⟩ | ⟨rfl, hj3⟩)⟩
          · refine hK _ _ ?_
            clear hK K
            refine wpAnyIn_take (i := 11) (v := .bool false) rfl rfl (by kernel_rfl) (by kernel_rfl) (by kernel_rfl) (fun _ _ _ h => h) ⟨Or.inl ⟨by rfl, ?_⟩, fun _ => rfl⟩ ?_
            · intro W0; go_simp
            refine wpAnyIn_done (by kernel_rfl) ?_ _
            gi_wp2
            exact ⟨toI hk3, hj3, keep hk3⟩
          · refine hK _ _ ?_
            clear hK K
            refine wpAnyIn_take (i := 11) (v := .bool true) rfl rfl (by kernel_rfl) (by kernel_rfl) (by kernel_rfl) (fun _ _ _ h => h) ⟨Or.inl ⟨by rfl, ?_⟩, fun _ => rfl⟩ ?_
            · intro W0; go_simp
            refine wpAnyIn_done (by kernel_rfl) ?_ _
            gi_wp2
            exact ⟨toI hk3, rfl, hj3⟩
  case done =>
    rintro D X hD ⟨hj, _⟩ hK
    gi_wp2
    refine ⟨by simp, .inl ⟨_, _, rfl, run_takeDeferred hK, ?_⟩⟩
    exact ⟨_, results_none rfl _ _ _, ⟨_, rfl⟩, .inl (hJ.putObj _ hj (by omega) hK rfl)⟩
  case stop =>
    rintro D c pre X hD hp ⟨rfl, hj⟩ hK
    gi_wp2
    refine ⟨by simp, .inl ⟨_, _, rfl, run_takeDeferred hK, ?_⟩⟩
    exact ⟨_, results_none rfl _ _ _, ⟨_, rfl⟩, .inr ⟨_, hp, hJx.putObj _ hj (by omega) hK rfl⟩⟩
end
end Go.Proofs.Ytckbffbjdcnklaa.P
