/- The program's octets and checksums: iterators over a text's bytes and words; Get, Sum. The program's Get, Sum, Check. The program's Sum, Fold, Check, Join. The program's Check, Join, Put, Set. The program's headers: sizes, Parse (chapter 4). -/
import Derived.Test.YtngdebpaheejlaaGreatDoorZc
import Derived.Lib.QuoteBits
import Derived.Laws.IdiomStrings
import Derived.Deep.OwnRows
namespace Go.Proofs.YtngdebpaheejlaaGreatDoor
open Go.RowKit Go.Shelf
set_option linter.unusedSimpArgs false
set_option linter.unusedVariables false
attribute [local go_sem] bs_app bs_size bs_bt bs_extract numB_len zz_bs z_bs Oper.semAt_some
theorem i64_or_nat (a b : Nat) (ha : a < 9223372036854775808) (hb : b < 9223372036854775808) : bits .or .i64 (a : Int) (b : Int) = ((a ||| b : Nat) : Int) := by
  have hx : a ||| b < 2 ^ 63 := Nat.or_lt_two_pow (by omega) (by omega)
  show IntKind.i64.wrap ((BitVec.ofInt 64 (a : Int) ||| BitVec.ofInt 64 (b : Int)).toNat : Int) = _
  rw [BitVec.toNat_or, ofInt_u64 a (by omega), ofInt_u64 b (by omega)]
  exact Lib.wrap_i64_small _ (by omega)
theorem i64_and_nat (a b : Nat) (ha : a < 9223372036854775808) (hb : b < 9223372036854775808) : bits .and .i64 (a : Int) (b : Int) = ((a &&& b : Nat) : Int) := by
  have hx : a &&& b < 2 ^ 63 := Nat.and_lt_two_pow _ (by omega)
  show IntKind.i64.wrap ((BitVec.ofInt 64 (a : Int) &&& BitVec.ofInt 64 (b : Int)).toNat : Int) = _
  rw [BitVec.toNat_and, ofInt_u64 a (by omega), ofInt_u64 b (by omega)]
  exact Lib.wrap_i64_small _ (by omega)
theorem join8 (s x : Nat) (hs : s < 281474976710656) (hx : x < 256) : bits .or .i64 ((s : Int) * 256) (x : Int) = ((s * 256 + x : Nat) : Int) := by
  have e : (s : Int) * 256 = ((s * 256 : Nat) : Int) := by simp
  rw [e, i64_or_nat _ _ (by omega) (by omega)]
  congr 1
  have := Nat.two_pow_add_eq_or_of_lt (i := 8) (b := x) hx s
  rw [show s * 256 = 2 ^ 8 * s by omega, ← this]
theorem take_bt {l : List Nat} {k : Nat} (h : k < l.length) : l.take (k + 1) = l.take k ++ [bt l k] := by
  rw [List.take_add_one]
  simp [bt, List.getD, h]
theorem take_prefix' {α : Type} (l : List α) (k : Nat) : l.take k <+: l := List.take_prefix k l
theorem octets_c (l : List Nat) (w : World) : Calls Tryz.prog 165 #[.string (bs l)] w fun e w' => e = .returned (.func (.func 195) #[] #[.pointer (some ⟨w.heap.size, 0, none⟩)]) ∧ w' = w.alloc (.cells #[.string (bs l)] 9) := by
  go_enter Tryz.func165, Tryz.ntmps165
  go_wp2
  go_ret
  exact ⟨rfl, rfl⟩
set_option maxRecDepth 100000 in
set_option maxHeartbeats 2000000 in
theorem octets_seq {w : World} (Z : Nat → Prop) (bx : Nat) (l : List Nat) (hl : Byt l) (hlen : l.length ≤ 4000) (hbx : Has w bx 9 #[.string (bs l)]) (z1 : Z bx) :
    SeqN Tryz.prog 195 #[.pointer (some ⟨bx, 0, none⟩)] (fun x : Nat => #[Value.int .i64 (x : Int)]) Z l w := by
  intro n y B J Jx W hW hB hJ hJx hY h0
  have k0 : KZ Z w W := .of_below hW
  have X0 : Hid (Has W bx 9 #[.string (bs l)]) := (k0.block _ hbx.lt z1).trans hbx
  have c0 := Has.cell X0.out 0
  simp at c0
  clear hW hJ hJx hbx k0
  refine callsIn_wide.2 (callsIn_wide (n := 5) |>.1 ?_)
  refine callsIn_of_wp Tryz.func195 rfl trivial ?_ rfl
  simp only [Tryz.ntmps195, List.size_toArray, List.length_cons, List.length_nil, Nat.reduceAdd, Nat.reduceSub, Array.replicate_succ, Array.replicate_zero, List.push_toArray, List.append_toArray, List.nil_append, List.cons_append]
  gi_wp2
  gi_loopw [6] (fun p wr => ∃ k : Nat, p = .int .i64 (k : Int) ∧ k ≤ l.length ∧ J (l.take k) wr ∧ KZ Z W wr) (fun p _ => l.length - (intOf p).toNat)
  case atStart => exact ⟨0, rfl, by omega, by simpa using h0, KZ.refl _ _⟩
  case round =>
    clear c0 h0
    obtain ⟨k, rfl, hk, hJ, hK⟩ := hrel
    have X1 : Has wr bx 9 #[.string (bs l)] := (hK.block _ X0.out.lt z1).trans X0.out
    have c0 := Has.cell X1 0
    simp at c0
    by_cases hlt : k < l.length
    · have h1 : (k : Int) < (l.length : Int) := by omega
      have htk := take_bt hlt
      have hpp : l.take k ++ [bt l k] <+: l := by rw [← htk]; exact List.take_prefix _ _
      have HTK := Lib.hid htk
      have hbk := bt_lt hl k
      obtain ⟨fn, tmps, assign, body, hy, hR⟩ := hY 4 (l.take k) (bt l k) wr hJ hpp
      clear X1 hY htk
      gi_wp2
      refine hR.mono ?_
      rintro e W3 ⟨hk3, (⟨rfl, hJ3⟩ | ⟨rfl, hJx3⟩)⟩
      · gi_wp2
        go_roundw
        case rel => exact ⟨k + 1, rfl, by omega, by rw [HTK.out]; exact hJ3, hK.trans (hk3.mono (fun _ h => .inl h))⟩
        case measure => simp [intOf]; omega
      · gi_wp2
        refine bodyPost_ret (results_none rfl _ _ _) rfl ?_
        exact ⟨⟨_, rfl⟩, .inr ⟨_, hpp, hJx3⟩⟩
    · obtain rfl : k = l.length := by omega
      have h1 : ¬ ((l.length : Int) < (l.length : Int)) := by omega
      gi_wp2
      go_end0
      exact ⟨⟨_, rfl⟩, .inl (by simpa using hJ)⟩
theorem words2_c (l : List Nat) (w : World) : Calls Tryz.prog 166 #[.string (bs l)] w fun e w' => e = .returned (.func (.func 196) #[] #[.pointer (some ⟨w.heap.size, 0, none⟩)]) ∧ w' = w.alloc (.cells #[.string (bs l)] 9) := by
  go_enter Tryz.func166, Tryz.ntmps166
  go_wp2
  go_ret
  exact ⟨rfl, rfl⟩
def wordsL (l : List Nat) (j : Nat) : List Nat := (List.range j).map (wordAt l)
theorem wordsL_succ (l : List Nat) (j : Nat) : wordsL l (j + 1) = wordsL l j ++ [wordAt l j] := by simp [wordsL, List.range_succ]
theorem wordsL_pre (l : List Nat) {j n : Nat} (h : j ≤ n) : wordsL l j <+: wordsL l n := by
  induction n with
  | zero => obtain rfl : j = 0 := by omega
            exact List.prefix_refl _
  | succ n ih =>
    by_cases e : j = n + 1
    · subst e; exact List.prefix_refl _
    · rw [wordsL_succ]; exact (ih (by omega)).trans (List.prefix_append _ _)
set_option maxRecDepth 100000 in
set_option maxHeartbeats 2000000 in
theorem words2_seq {w : World} (Z : Nat → Prop) (bx : Nat) (l : List Nat) (hl : Byt l) (hlen : l.length ≤ 4000) (hbx : Has w bx 9 #[.string (bs l)]) (z1 : Z bx) :
    SeqN Tryz.prog 196 #[.pointer (some ⟨bx, 0, none⟩)] (fun x : Nat => #[Value.int .i64 (x : Int)]) Z (wordsL l (nw l)) w := by
  intro n y B J Jx W hW hB hJ hJx hY h0
  have k0 : KZ Z w W := .of_below hW
  have X0 : Hid (Has W bx 9 #[.string (bs l)]) := (k0.block _ hbx.lt z1).trans hbx
  have c0 := Has.cell X0.out 0
  simp at c0
  clear hW hJ hJx hbx k0
  refine callsIn_wide.2 (callsIn_wide (n := 5) |>.1 ?_)
  refine callsIn_of_wp Tryz.func196 rfl trivial ?_ rfl
  simp only [Tryz.ntmps196, List.size_toArray, List.length_cons, List.length_nil, Nat.reduceAdd, Nat.reduceSub, Array.replicate_succ, Array.replicate_zero, List.push_toArray, List.append_toArray, List.nil_append, List.cons_append]
  gi_wp2
  gi_loopw [3] (fun p wr => ∃ k : Nat, p = .int .i64 ((2 * k : Nat) : Int) ∧ k ≤ nw l ∧ J (wordsL l k) wr ∧ KZ Z W wr) (fun p _ => 2 * nw l - (intOf p).toNat)
  case atStart => exact ⟨0, rfl, by omega, h0, KZ.refl _ _⟩
  case round =>
    clear c0 h0
    obtain ⟨k, rfl, hk, hJ, hK⟩ := hrel
    have X1 : Has wr bx 9 #[.string (bs l)] := (hK.block _ X0.out.lt z1).trans X0.out
    have c0 := Has.cell X1 0
    simp at c0
    have hk2 := hk
    unfold nw at hk2
    by_cases hlt : 2 * k < l.length
    · have h1 : 2 * (k : Int) < (l.length : Int) := by omega
      have hpp : wordsL l k ++ [wordAt l k] <+: wordsL l (nw l) := by rw [← wordsL_succ]; exact wordsL_pre l (by unfold nw; omega)
      have HTK := Lib.hid (wordsL_succ l k)
      have ha := bt_lt hl (2 * k)
      have hb := bt_lt hl (2 * k + 1)
      have hs : Hid (wordAt l k = 256 * bt l (2 * k) + bt l (2 * k + 1)) := rfl
      obtain ⟨x, hx⟩ : ∃ x, wordAt l k = x := ⟨_, rfl⟩
      rw [hx] at hpp HTK hs
      clear hx
      obtain ⟨fn, tmps, assign, body, hy, hR⟩ := hY 4 (wordsL l k) x wr hJ hpp
      by_cases h2 : 2 * k + 1 < l.length
      · have h2i : 2 * (k : Int) + 1 < (l.length : Int) := by omega
        generalize hxa : bt l (2 * k) = a at ha hs
        generalize hxb : bt l (2 * k + 1) = b at hb hs
        have hj := join8 a b (by omega) hb
        have hab : ((a * 256 + b : Nat) : Int) = (x : Int) := by rw [hs.out]; omega
        rw [hab] at hj
        clear X1 hY hab
        gi_wp2
        refine hR.mono ?_
        rintro e W3 ⟨hk3, (⟨rfl, hJ3⟩ | ⟨rfl, hJx3⟩)⟩
        · gi_wp2
          go_roundw
          case rel => exact ⟨k + 1, by go_num, by unfold nw; omega, by rw [HTK.out]; exact hJ3, hK.trans (hk3.mono (fun _ h => .inl h))⟩
          case measure => simp [intOf]; unfold nw; omega
        · gi_wp2
          refine bodyPost_ret (results_none rfl _ _ _) rfl ?_
          exact ⟨⟨_, rfl⟩, .inr ⟨_, hpp, hJx3⟩⟩
      · have h2i : ¬ 2 * (k : Int) + 1 < (l.length : Int) := by omega
        have hb0 : bt l (2 * k + 1) = 0 := by unfold bt; simp [List.getD, h2]
        rw [hb0] at hs
        generalize hxa : bt l (2 * k) = a at ha hs
        have hax : (a : Int) * 256 = (x : Int) := by rw [hs.out]; omega
        clear X1 hY hb hb0
        gi_wp2
        refine hR.mono ?_
        rintro e W3 ⟨hk3, (⟨rfl, hJ3⟩ | ⟨rfl, hJx3⟩)⟩
        · gi_wp2
          go_roundw
          case rel => exact ⟨k + 1, by go_num, by unfold nw; omega, by rw [HTK.out]; exact hJ3, hK.trans (hk3.mono (fun _ h => .inl h))⟩
          case measure => simp [intOf]; unfold nw; omega
        · gi_wp2
          refine bodyPost_ret (results_none rfl _ _ _) rfl ?_
          exact ⟨⟨_, rfl⟩, .inr ⟨_, hpp, hJx3⟩⟩
    · obtain rfl : k = nw l := by unfold nw; omega
      have h1 : ¬ (2 * ((nw l : Nat) : Int) < (l.length : Int)) := by omega
      gi_wp2
      go_end0
      exact ⟨⟨_, rfl⟩, .inl hJ⟩
end Go.Proofs.YtngdebpaheejlaaGreatDoor
namespace Go.Proofs.YtngdebpaheejlaaGreatDoor
open Go.RowKit Go.Shelf
set_option linter.unusedSimpArgs false
set_option linter.unusedVariables false
attribute [local go_sem] bs_app bs_size bs_bt bs_extract numB_len zz_bs z_bs Oper.semAt_some
theorem valB_snoc (l : List Nat) (x : Nat) : valB (l ++ [x]) = valB l * 256 + x := by simp [valB]
theorem byt_take {l : List Nat} (h : Byt l) (k : Nat) : Byt (l.take k) := fun x hx => h x (List.mem_of_mem_take hx)
theorem byt_drop {l : List Nat} (h : Byt l) (k : Nat) : Byt (l.drop k) := fun x hx => h x (List.mem_of_mem_drop hx)
theorem val_eq {l : List Nat} (a : Nat) : ∀ i, a + i ≤ l.length → valB ((l.take (a + i)).drop a) = valAt l a i
  | 0, h => by simp [valAt, valB, List.drop_take]
  | i + 1, h => by
    have e : (l.take (a + (i + 1))).drop a = (l.take (a + i)).drop a ++ [bt l (a + i)] := by
      rw [show a + (i + 1) = (a + i) + 1 by omega, take_bt (by omega), List.drop_append_of_le_length (by simp; omega)]
    rw [e, valB_snoc, val_eq a i (by omega)]
    rfl
theorem valAt_app (l : List Nat) (a i : Nat) : valAt l a (i + 1) = valAt l a i * 256 + bt l (a + i) := rfl
theorem valB_lt {l : List Nat} (h : Byt l) : ∀ k, k ≤ l.length → valB (l.take k) < 256 ^ k
  | 0, _ => by simp [valB]
  | k + 1, hk => by
    have h1 := valB_lt h k (by omega)
    have h2 := bt_lt h k
    rw [take_bt (by omega), valB_snoc, Nat.pow_succ]
    omega
theorem valB_pre {l pre : List Nat} {x : Nat} (h : Byt l) (hp : pre ++ [x] <+: l) (h4 : l.length ≤ 4) : valB pre < 281474976710656 ∧ x < 256 ∧ pre.length < l.length := by
  have h1 : pre <+: l := (List.prefix_append _ _).trans hp
  have h2 := hp.length_le
  simp at h2
  have e := List.prefix_iff_eq_take.1 h1
  refine ⟨?_, h x (hp.subset (by simp)), by omega⟩
  rw [e]
  exact Nat.lt_of_lt_of_le (valB_lt h pre.length (by omega)) (Nat.le_trans (Nat.pow_le_pow_right (by decide) (show pre.length ≤ 6 by omega)) (by decide))
theorem has_yes (l : List Nat) (at_ size : Nat) (h1 : 1 ≤ size) (h2 : size ≤ 4) (hlen : l.length ≤ 4000) (hx : at_ + size ≤ l.length) (w : World) :
    Calls Tryz.prog 164 #[.string (bs l), .int .i64 at_, .int .i64 size] w fun e w' => e = .returned (.bool true) ∧ w = w' := by
  have hi : (at_ : Int) ≤ (l.length : Int) - (size : Int) := by omega
  go_enter Tryz.func164, Tryz.ntmps164
  go_wp2
  go_ret
  exact ⟨by simp [hi], rfl⟩
set_option maxRecDepth 100000 in
set_option maxHeartbeats 3200000 in
theorem pget_c (l : List Nat) (hl : Byt l) (at_ size : Nat) (h1 : 1 ≤ size) (h2 : size ≤ 4) (hlen : l.length ≤ 4000) (hx : at_ + size ≤ l.length) (w : World) :
    Calls Tryz.prog 109 #[.string (bs l), .int .i64 at_, .int .i64 size] w fun e w' => e = .returned (.tuple #[.int .i64 (valAt l at_ size : Nat), .bool true]) ∧ Below w.heap.size w w' := by
  have HH := Lib.hid (has_yes l at_ size h1 h2 hlen hx)
  obtain ⟨L, hL⟩ : ∃ L, (l.take (at_ + size)).drop at_ = L := ⟨_, rfl⟩
  have hL2 : List.take size (List.drop at_ l) = L := by rw [← hL, List.drop_take]; congr 1; omega
  have bL : Byt L := by rw [← hL]; exact byt_drop (byt_take hl _) _
  have lL : L.length = size := by rw [← hL]; simp; omega
  have vL : Hid (valAt l at_ size = valB L) := by show _ = _; rw [← hL]; exact (val_eq at_ size hx).symm
  refine (callsIn_wide (n := 5)).1 ?_
  refine callsIn_of_wp_marks Tryz.func109 rfl trivial ?_ rfl
  simp only [Tryz.ntmps109, List.size_toArray, List.length_cons, List.length_nil, Nat.reduceAdd, Nat.reduceSub, Array.replicate_succ, Array.replicate_zero, List.push_toArray, List.append_toArray, List.nil_append, List.cons_append]
  gi_wp2
  refine ⟨trivial, (callsIn_wide.2 (HH.out _)).mono ?_⟩
  rintro e w' ⟨rfl, rfl⟩
  gi_wp2
  refine ⟨trivial, (callsIn_wide.2 (octets_c _ _)).mono ?_⟩
  rintro e w' ⟨rfl, rfl⟩
  gi_wp2
  try (first | rw [hL] | rw [hL2])
  have hM : Has ((w.alloc (.cells #[.int .i64 0] 3)).alloc (.cells #[.string (bs L)] 9)) w.heap.size 3 #[.int .i64 0] := (Has.new w _ _).alloc _
  have hX : Has ((w.alloc (.cells #[.int .i64 0] 3)).alloc (.cells #[.string (bs L)] 9)) (w.heap.size + 1) 9 #[.string (bs L)] := by have := Has.new (w.alloc (.cells #[.int .i64 0] 3)) #[.string (bs L)] 9; simpa using this
  have BZ : Below w.heap.size w ((w.alloc (.cells #[.int .i64 0] 3)).alloc (.cells #[.string (bs L)] 9)) := ((Below.refl _ _).alloc (Nat.le_refl _) _).alloc (by simp) _
  obtain ⟨wz, hwz⟩ : ∃ wz, wz = (w.alloc (.cells #[.int .i64 0] 3)).alloc (.cells #[.string (bs L)] 9) := ⟨_, rfl⟩
  have sz : wz.heap.size = w.heap.size + 1 + 1 := by rw [hwz]; simp
  rw [← hwz] at hM hX BZ ⊢
  have SQ := octets_seq (fun b => b < w.heap.size + 2 ∧ b ≠ w.heap.size) (w.heap.size + 1) L bL (by omega) hX ⟨by omega, by omega⟩
  clear hwz hL hL2 hX
  refine wp_rangeN (gf := 195) (lb := #[.pointer (some ⟨w.heap.size + 1, 0, none⟩)]) rfl (enters_of Tryz.func195 (by kernel_rfl) rfl) SQ (Below.refl _ _) (fun b h => by omega) (fun _ => rfl)
    (fun pre X => Has X w.heap.size 3 #[.int .i64 (valB pre : Nat)] ∧ KZ (fun b => b < w.heap.size + 2 ∧ b ≠ w.heap.size) wz X ∧ Below w.heap.size w X) (fun _ _ _ => False)
    (fun s X Y row hs hg hr => ⟨at_less hs.1 hg hr (by omega), ⟨Nat.le_trans hs.2.1.size hg.size, fun k hk hz => (hg.block k (Nat.lt_of_lt_of_le hk hs.2.1.size) (fun e => by have := (hr k e.symm).1; omega)).trans (hs.2.1.block k hk hz)⟩, ownFrom_below (β := List Nat) (Nat.le_refl _) (by omega) s X Y row hs.2.2 hg hr⟩)
    (fun _ _ _ _ _ h _ _ => h) ⟨hM, KZ.refl _ _, BZ⟩ ?round ?done ?stop
  case round =>
    intro y m pre x X0 hpre
    gi_wp2
    refine ⟨trivial, ?_⟩
    clear X0
    rintro X ⟨hm, hz, hb⟩
    have c0 := hm.cell 0
    have f0 := hm.free 0
    obtain ⟨v1, v2, v3⟩ := valB_pre bL hpre (by omega)
    have hj := join8 (valB pre) x v1 v2
    have hsn := Lib.hid (valB_snoc pre x)
    simp at c0
    generalize valB pre = s at c0 v1 hj hsn hm
    gi_wp2
    refine ⟨(KZ.refl _ X).set (by omega) 0 _, ?_, hz.set (by omega) 0 _, hb.setCell (p := ⟨w.heap.size, 0, none⟩) (Nat.le_refl _) _⟩
    rw [hsn.out]
    have := hm.set 0 (.int .i64 ((s * 256 + x : Nat) : Int))
    simpa using this
  case done =>
    rintro D X hD ⟨hm, hz, hb⟩ hK
    have c0 := hm.cell 0
    simp at c0
    rw [← vL.out] at c0
    gi_wp2
    refine ⟨by simp, .inl ⟨_, _, rfl, run_takeDeferred hK, ?_⟩⟩
    exact ⟨_, results_tmp2 rfl _ _ _, rfl, hb.trans (belowK_b (w := wz) (by omega) X D _ _ hD hK rfl rfl)⟩
  case stop =>
    rintro D c pre X hD hp h hK
    exact h.elim
end Go.Proofs.YtngdebpaheejlaaGreatDoor
namespace Go.Proofs.YtngdebpaheejlaaGreatDoor
open Go.RowKit Go.Shelf
set_option linter.unusedSimpArgs false
set_option linter.unusedVariables false
attribute [local go_sem] bs_app bs_size bs_bt bs_extract numB_len zz_bs z_bs Oper.semAt_some
set_option maxRecDepth 100000 in
theorem pfold_c (n : Nat) (hn : n < 18446744073709551616) (w : World) : Calls Tryz.prog 167 #[.int .u64 n] w fun e w' => e = .returned (.int .u16 (fold16 n : Nat)) ∧ w = w' := by
  go_enter Tryz.func167, Tryz.ntmps167
  go_wp2_with fail
  go_loopw [0] (fun i wr => ∃ m : Nat, m ≤ n ∧ i = .int .u64 m ∧ Hid (fold16 m = fold16 n) ∧ w = wr) (fun i _ => (intOf i).toNat)
  case atStart => exact ⟨n, by omega, rfl, rfl, rfl⟩
  case round =>
    obtain ⟨m, hm, rfl, HM, rfl⟩ := hrel
    by_cases h : 65535 < m
    · have hi : (65535 : Int) < (m : Int) := by omega
      obtain ⟨q, hq⟩ : ∃ q, m % 65536 + m / 65536 = q := ⟨_, rfl⟩
      have hqi : (m : Int) % 65536 + (m : Int) / 65536 = (q : Int) := by omega
      have hlt : q < m := by omega
      have ha : bits BinOp.and IntKind.u64 (m : Int) 65535 = (m : Int) % 65536 := by
        rw [show (65535 : Int) = ((65535 : Nat) : Int) from rfl, Go.u64_and_nat _ _ (by omega) (by omega), nat_mask16]
        simp
      have HQ : Hid (fold16 q = fold16 n) := by
        show fold16 q = _
        rw [← hq, fold16_step m h]; exact HM.out
      clear hq
      go_wp2_with fail
      go_roundw
      case rel => exact ⟨q, by omega, rfl, HQ.out, by trivial⟩
      case measure => simp [intOf]; omega
    · have hi : ¬ (65535 : Int) < (m : Int) := by omega
      have hF : Hid (fold16 n = m) := by
        show fold16 n = m
        rw [← HM.out, fold16_small m (by omega)]
      go_wp2_with fail
      go_ret
      rw [hF.out]
      exact ⟨rfl, rfl⟩
def sumL (l : List Nat) : Nat := l.foldl (fun n b => n + b) 0
theorem sumL_snoc (l : List Nat) (x : Nat) : sumL (l ++ [x]) = sumL l + x := by simp [sumL]
theorem sumL_words (l : List Nat) : ∀ j, sumL (wordsL l j) = sumTo l j
  | 0 => rfl
  | j + 1 => by rw [wordsL_succ, sumL_snoc, sumL_words l j]; rfl
theorem words_pre {l pre : List Nat} {x : Nat} (h : Byt l) (hp : pre ++ [x] <+: wordsL l (nw l)) : sumL pre = sumTo l pre.length ∧ x ≤ 65535 ∧ pre.length < nw l := by
  have h2 := hp.length_le
  simp [wordsL] at h2
  have e := List.prefix_iff_eq_take.1 ((List.prefix_append pre [x]).trans hp)
  have e2 : (wordsL l (nw l)).take pre.length = wordsL l pre.length := by
    unfold wordsL
    rw [← List.map_take, List.take_range, Nat.min_eq_left (by omega)]
  refine ⟨by conv => lhs; rw [e, e2, sumL_words], ?_, by omega⟩
  have hx : x ∈ wordsL l (nw l) := hp.subset (by simp)
  simp [wordsL] at hx
  obtain ⟨j, _, rfl⟩ := hx
  exact wordAt_le h j
set_option maxRecDepth 100000 in
set_option maxHeartbeats 3200000 in
theorem psum_c (l : List Nat) (hl : Byt l) (hlen : l.length ≤ 4000) (w : World) :
    Calls Tryz.prog 110 #[.string (bs l)] w fun e w' => e = .returned (.int .u16 (fold16 (sumW l) : Nat)) ∧ Below w.heap.size w w' := by
  refine (callsIn_wide (n := 5)).1 ?_
  refine callsIn_of_wp_marks Tryz.func110 rfl trivial ?_ rfl
  simp only [Tryz.ntmps110, List.size_toArray, List.length_cons, List.length_nil, Nat.reduceAdd, Nat.reduceSub, Array.replicate_succ, Array.replicate_zero, List.push_toArray, List.append_toArray, List.nil_append, List.cons_append]
  gi_wp2
  refine ⟨trivial, (callsIn_wide.2 (words2_c _ _)).mono ?_⟩
  rintro e w' ⟨rfl, rfl⟩
  gi_wp2
  have hM : Has ((w.alloc (.cells #[.int .u64 0] 244)).alloc (.cells #[.string (bs l)] 9)) w.heap.size 244 #[.int .u64 0] := (Has.new w _ _).alloc _
  have hX : Has ((w.alloc (.cells #[.int .u64 0] 244)).alloc (.cells #[.string (bs l)] 9)) (w.heap.size + 1) 9 #[.string (bs l)] := by have := Has.new (w.alloc (.cells #[.int .u64 0] 244)) #[.string (bs l)] 9; simpa using this
  have BZ : Below w.heap.size w ((w.alloc (.cells #[.int .u64 0] 244)).alloc (.cells #[.string (bs l)] 9)) := ((Below.refl _ _).alloc (Nat.le_refl _) _).alloc (by simp) _
  obtain ⟨wz, hwz⟩ : ∃ wz, wz = (w.alloc (.cells #[.int .u64 0] 244)).alloc (.cells #[.string (bs l)] 9) := ⟨_, rfl⟩
  have sz : wz.heap.size = w.heap.size + 1 + 1 := by rw [hwz]; simp
  rw [← hwz] at hM hX BZ ⊢
  have SQ := words2_seq (fun b => b < w.heap.size + 2 ∧ b ≠ w.heap.size) (w.heap.size + 1) l hl hlen hX ⟨by omega, by omega⟩
  clear hwz hX
  refine wp_rangeN (gf := 196) (lb := #[.pointer (some ⟨w.heap.size + 1, 0, none⟩)]) rfl (enters_of Tryz.func196 (by kernel_rfl) rfl) SQ (Below.refl _ _) (fun b h => by omega) (fun _ => rfl)
    (fun pre X => Has X w.heap.size 244 #[.int .u64 (sumL pre : Nat)] ∧ KZ (fun b => b < w.heap.size + 2 ∧ b ≠ w.heap.size) wz X ∧ Below w.heap.size w X) (fun _ _ _ => False)
    (fun s X Y row hs hg hr => ⟨at_less hs.1 hg hr (by omega), ⟨Nat.le_trans hs.2.1.size hg.size, fun k hk hz => (hg.block k (Nat.lt_of_lt_of_le hk hs.2.1.size) (fun e => by have := (hr k e.symm).1; omega)).trans (hs.2.1.block k hk hz)⟩, ownFrom_below (β := List Nat) (Nat.le_refl _) (by omega) s X Y row hs.2.2 hg hr⟩)
    (fun _ _ _ _ _ h _ _ => h) ⟨hM, KZ.refl _ _, BZ⟩ ?round ?done ?stop
  case round =>
    intro y m pre x X0 hpre
    gi_wp2
    refine ⟨trivial, ?_⟩
    clear X0
    rintro X ⟨hm, hz, hb⟩
    have c0 := hm.cell 0
    have f0 := hm.free 0
    obtain ⟨v1, v2, v3⟩ := words_pre hl hpre
    have v4 := sumTo_le hl pre.length
    rw [← v1] at v4
    have hn : nw l ≤ 2000 := by unfold nw; omega
    have hsn := Lib.hid (sumL_snoc pre x)
    simp at c0
    clear v1
    generalize sumL pre = s at c0 v4 hsn hm
    gi_wp2
    refine ⟨(KZ.refl _ X).set (by omega) 0 _, ?_, hz.set (by omega) 0 _, hb.setCell (p := ⟨w.heap.size, 0, none⟩) (Nat.le_refl _) _⟩
    rw [hsn.out]
    have := hm.set 0 (.int .u64 ((s + x : Nat) : Int))
    simpa using this
  case done =>
    rintro D X hD ⟨hm, hz, hb⟩ hK
    have e1 : sumL (wordsL l (nw l)) = sumW l := sumL_words l _
    have v4 : sumW l ≤ 2000 * 65535 := Nat.le_trans (sumTo_le hl _) (Nat.mul_le_mul_right _ (by unfold nw; omega))
    rw [e1] at hm
    have c0 := hm.cell 0
    simp at c0
    have HF := Lib.hid (pfold_c (sumW l) (by omega))
    clear e1
    gi_wp2
    refine ⟨trivial, (callsIn_wide.2 (HF.out _)).mono ?_⟩
    rintro e w9 ⟨rfl, rfl⟩
    gi_wp2
    refine ⟨by simp, .inl ⟨_, _, rfl, run_takeDeferred hK, ?_⟩⟩
    exact ⟨_, results_tmp rfl _ _ _, rfl, hb.trans (belowK_b (w := wz) (by omega) X D _ _ hD hK rfl rfl)⟩
  case stop =>
    rintro D c pre X hD hp h hK
    exact h.elim
end Go.Proofs.YtngdebpaheejlaaGreatDoor
namespace Go.Proofs.YtngdebpaheejlaaGreatDoor
open Go.RowKit Go.Shelf
set_option linter.unusedSimpArgs false
set_option linter.unusedVariables false
attribute [local go_sem] bs_app bs_size bs_bt bs_extract numB_len zz_bs z_bs
theorem not16 (x : Nat) (hx : x ≤ 65535) : bits BinOp.xor IntKind.u16 65535 (x : Int) = ((65535 - x : Nat) : Int) := by
  rw [show (65535 : Int) = ((65535 : Nat) : Int) from rfl, u16_xor_nat _ _ (by omega) (by omega)]
  congr 1
  apply Nat.eq_of_testBit_eq
  intro i
  rw [Nat.testBit_xor]
  have h := Nat.testBit_two_pow_sub_succ (x := x) (n := 16) (by omega) i
  rw [show 65535 - x = 2 ^ 16 - (x + 1) by omega, h]
  rw [show (65535 : Nat) = 2 ^ 16 - 1 from rfl, Nat.testBit_two_pow_sub_one]
  by_cases hi : i < 16
  · simp [hi]
  · have : x.testBit i = false := Nat.testBit_lt_two_pow (Nat.lt_of_lt_of_le (show x < 2 ^ 16 by omega) (Nat.pow_le_pow_right (by decide) (by omega)))
    simp [hi, this]
theorem pcheck_c (l : List Nat) (hl : Byt l) (hlen : l.length ≤ 4000) (w : World) : Calls Tryz.prog 193 #[.string (bs l)] w fun e w' => e = .returned (.int .u16 (chk l : Nat)) ∧ Below w.heap.size w w' := by
  have hf := fold16_le (sumW l)
  obtain ⟨f, hF⟩ : ∃ f, fold16 (sumW l) = f := ⟨_, rfl⟩
  have H := Lib.hid (psum_c l hl hlen w)
  unfold chk
  rw [hF] at hf H ⊢
  have e1 := not16 f hf
  clear hF
  go_enter Tryz.func193, Tryz.ntmps193
  go_wp2_with fail
  refine H.out.mono ?_
  rintro e w1 ⟨rfl, hb⟩
  go_wp2_with fail
  go_ret
  refine ⟨?_, hb⟩
  rw [← e1]
  first | rfl | (simp; done)
set_option maxRecDepth 100000 in
theorem pjoin_c (a b g : Nat) (ha : a ≤ 65535) (hb : b ≤ 65535) (w : World) (hg : Has w g 34 #[.int .u16 a, .int .u16 b]) : Calls Tryz.prog 171 #[.slice (some ⟨g, 0, none⟩) 2 2] w fun e w' => e = .returned (.int .u16 (fold16 (a + b) : Nat)) ∧ w = w' := by
  have c0 := hg.cell 0
  have c1 := hg.cell 1
  simp at c0 c1
  have HF := Lib.hid (pfold_c (a + b) (by omega))
  rw [show ((a + b : Nat) : Int) = (a : Int) + b by omega] at HF
  go_enter Tryz.func171, Tryz.ntmps171
  go_wp2_with fail
  go_loopw [3, 8] (fun s i wr => (i = .int .i64 0 ∧ s = .int .u64 0 ∨ i = .int .i64 1 ∧ s = .int .u64 a ∨ i = .int .i64 2 ∧ s = .int .u64 ((a : Int) + b)) ∧ w = wr) (fun _ i _ => 2 - (intOf i).toNat)
  case atStart => exact ⟨.inl ⟨rfl, rfl⟩, rfl⟩
  case round =>
    obtain ⟨⟨rfl, rfl⟩ | ⟨rfl, rfl⟩ | ⟨rfl, rfl⟩, rfl⟩ := hrel
    · go_wp2_with fail
      go_roundw
      case rel => exact ⟨.inr (.inl ⟨rfl, rfl⟩), by trivial⟩
      case measure => simp [intOf]
    · go_wp2_with fail
      go_roundw
      case rel => exact ⟨.inr (.inr ⟨rfl, rfl⟩), by trivial⟩
      case measure => simp [intOf]
    · go_wp2_with fail
      refine (HF.out _).mono ?_
      rintro e w' ⟨rfl, rfl⟩
      go_wp2_with fail
      go_ret
      exact ⟨rfl, rfl⟩
/-- The bytes that are laid so far. -/
def rowA (n size j : Nat) : Array Value := ((List.range size).map fun i => if i < j then Value.int .u8 ((n / 256 ^ (size - 1 - i) % 256 : Nat) : Int) else .int .u8 0).toArray
theorem rowA_get (n size j i : Nat) (h : i < size) : (rowA n size j)[i]? = some (if i < j then Value.int .u8 ((n / 256 ^ (size - 1 - i) % 256 : Nat) : Int) else .int .u8 0) := by
  simp [rowA, h]
theorem rowA_set (n size j : Nat) (h : j < size) : (rowA n size j).setIfInBounds j (.int .u8 ((n / 256 ^ (size - 1 - j) % 256 : Nat) : Int)) = rowA n size (j + 1) := by
  apply Array.ext'
  apply List.ext_getElem?
  intro i
  simp only [rowA, Array.toList_setIfInBounds, List.getElem?_set, List.getElem?_map, List.length_map, List.length_range, List.getElem?_range']
  by_cases e : j = i
  · subst e; simp [h]
  · by_cases h2 : i < size
    · by_cases h3 : i < j
      · simp [e, h2, h3, show i < j + 1 by omega]
      · simp [e, h2, h3, show ¬ i < j + 1 by omega]
    · simp [e, h2]
theorem made_u8 (n nw : Nat) : madeCells #[.int .u8 0] nw = rowA n nw 0 := by
  apply Array.ext'
  apply List.ext_getElem?
  intro j
  simp only [madeCells, rowA, Array.toList_map, Array.toList_range, List.getElem?_map]
  by_cases h : j < nw <;> simp [h, Nat.mod_one]
theorem info5 : (Tryz.prog.info? 5).map (fun i => (i.zero, i.size, i.bytes)) = some (some (.int .u8 0), 1, 1) := by kernel_rfl
theorem conv_row (n size g : Nat) (W : World) (h : Has W g 5 (rowA n size size)) : (convert 309 9 (.slice (some ⟨g, 0, none⟩) size size)).run Tryz.prog W = .ok (.string (bs (numB size n))) W := by
  have := run_convert_bytes_back (P := Tryz.prog) W 309 9 5 ⟨g, 0, none⟩ size ((numB size n).map UInt8.ofNat) Tryz.underlying309 Tryz.underlying5 Tryz.underlying9 (fun j hj => ?_)
  · simpa [bs, numB_len] using this
  · have hjs : j < size := by simpa [numB_len] using hj
    rw [add_none]
    simp only [Nat.zero_add]
    rw [h.cell j, rowA_get _ _ _ _ hjs, if_pos hjs]
    congr 2
    simp [numB]
set_option maxRecDepth 100000 in
set_option maxHeartbeats 800000 in
theorem pput_1 (n : Nat) (hn : n < 256) (w : World) :
    Calls Tryz.prog 181 #[.int .i64 1, .int .i64 n] w fun e w' => e = .returned (.tuple #[.string (bs (numB 1 n)), .bool true]) ∧ Below w.heap.size w w' := by
  have hmk : ∀ W : World, (Instr.makeSlice 309 (.int .i64 1) (.int .i64 1)).run Tryz.prog W = .ok (.slice (some ⟨W.heap.size, 0, none⟩) 1 1) (W.alloc (.cells (rowA n 1 0) 5)) := fun W => by
    rw [← made_u8 n]
    exact run_make_row' (P := Tryz.prog) 309 5 (.int .u8 0) 1 Tryz.underlying309 info5 rfl .i64 .i64 1 (by decide) (by decide) W
  have hdiv : (n : Int) / 256 = 0 := by omega
  have HC := Lib.hid (conv_row n 1 w.heap.size)
  have A0 := Has.new w (rowA n 1 0) 5
  have B0 : Below w.heap.size w (w.alloc (.cells (rowA n 1 0) 5)) := (Below.refl _ _).alloc (Nat.le_refl _) _
  go_enter Tryz.func181, Tryz.ntmps181
  go_wp2_with fail
  go_loopw [29] (fun i wr => ∃ j : Nat, j ≤ 1 ∧ i = .int .i64 j ∧ Has wr w.heap.size 5 (rowA n 1 j) ∧ Below w.heap.size w wr) (fun i _ => 1 - (intOf i).toNat)
  case atStart => exact ⟨0, by omega, rfl, A0, B0⟩
  case round =>
    obtain ⟨j, hj, rfl, hH, hb⟩ := hrel
    clear A0 B0
    rcases (show j = 0 ∨ j = 1 by omega) with rfl | rfl
    · have hst := rowA_set n 1 0 (by decide)
      have e9 : ((n / 256 ^ (1 - 1 - 0) % 256 : Nat) : Int) = (n : Int) := by
        rw [show (256 : Nat) ^ (1 - 1 - 0) = 1 by decide]
        omega
      rw [e9] at hst
      have HST := Lib.hid hst
      have c0 := hH.cell 0
      have f0 := hH.free 0
      rw [rowA_get _ _ _ _ (by decide)] at c0
      simp at c0
      have hH2 := Lib.hid hH
      clear hst e9 hH
      go_wp2_with fail
      go_roundw
      case rel => exact ⟨1, by decide, rfl, by rw [← HST.out]; exact hH2.out.set 0 _, hb.setCell (p := ⟨w.heap.size, 0 + 0, none⟩) (Nat.le_refl _) _⟩
      case measure => simp [intOf]
    · have hcv := HC.out wr hH
      go_wp2_with fail
      go_ret2
      exact ⟨rfl, hb⟩
set_option maxRecDepth 100000 in
set_option maxHeartbeats 800000 in
theorem pput_2 (n : Nat) (hn : n < 65536) (w : World) :
    Calls Tryz.prog 181 #[.int .i64 2, .int .i64 n] w fun e w' => e = .returned (.tuple #[.string (bs (numB 2 n)), .bool true]) ∧ Below w.heap.size w w' := by
  have hmk : ∀ W : World, (Instr.makeSlice 309 (.int .i64 2) (.int .i64 2)).run Tryz.prog W = .ok (.slice (some ⟨W.heap.size, 0, none⟩) 2 2) (W.alloc (.cells (rowA n 2 0) 5)) := fun W => by
    rw [← made_u8 n]
    exact run_make_row' (P := Tryz.prog) 309 5 (.int .u8 0) 1 Tryz.underlying309 info5 rfl .i64 .i64 2 (by decide) (by decide) W
  have hdiv : (n : Int) / 65536 = 0 := by omega
  have HC := Lib.hid (conv_row n 2 w.heap.size)
  have A0 := Has.new w (rowA n 2 0) 5
  have B0 : Below w.heap.size w (w.alloc (.cells (rowA n 2 0) 5)) := (Below.refl _ _).alloc (Nat.le_refl _) _
  go_enter Tryz.func181, Tryz.ntmps181
  go_wp2_with fail
  go_loopw [29] (fun i wr => ∃ j : Nat, j ≤ 2 ∧ i = .int .i64 j ∧ Has wr w.heap.size 5 (rowA n 2 j) ∧ Below w.heap.size w wr) (fun i _ => 2 - (intOf i).toNat)
  case atStart => exact ⟨0, by omega, rfl, A0, B0⟩
  case round =>
    obtain ⟨j, hj, rfl, hH, hb⟩ := hrel
    clear A0 B0
    rcases (show j = 0 ∨ j = 1 ∨ j = 2 by omega) with rfl | rfl | rfl
    · have hst := rowA_set n 2 0 (by decide)
      have e9 : ((n / 256 ^ (2 - 1 - 0) % 256 : Nat) : Int) = (n : Int) / 256 := by
        rw [show (256 : Nat) ^ (2 - 1 - 0) = 256 by decide]
        omega
      rw [e9] at hst
      have HST := Lib.hid hst
      have c0 := hH.cell 0
      have f0 := hH.free 0
      rw [rowA_get _ _ _ _ (by decide)] at c0
      simp at c0
      have hH2 := Lib.hid hH
      clear hst e9 hH
      go_wp2_with fail
      go_roundw
      case rel => exact ⟨1, by decide, rfl, by rw [← HST.out]; exact hH2.out.set 0 _, hb.setCell (p := ⟨w.heap.size, 0 + 0, none⟩) (Nat.le_refl _) _⟩
      case measure => simp [intOf]
    · have hst := rowA_set n 2 1 (by decide)
      have e9 : ((n / 256 ^ (2 - 1 - 1) % 256 : Nat) : Int) = (n : Int) % 256 := by
        rw [show (256 : Nat) ^ (2 - 1 - 1) = 1 by decide]
        omega
      rw [e9] at hst
      have HST := Lib.hid hst
      have c0 := hH.cell 1
      have f0 := hH.free 1
      rw [rowA_get _ _ _ _ (by decide)] at c0
      simp at c0
      have hH2 := Lib.hid hH
      clear hst e9 hH
      go_wp2_with fail
      go_roundw
      case rel => exact ⟨2, by decide, rfl, by rw [← HST.out]; exact hH2.out.set 1 _, hb.setCell (p := ⟨w.heap.size, 0 + 1, none⟩) (Nat.le_refl _) _⟩
      case measure => simp [intOf]
    · have hcv := HC.out wr hH
      go_wp2_with fail
      go_ret2
      exact ⟨rfl, hb⟩
set_option maxRecDepth 100000 in
set_option maxHeartbeats 800000 in
theorem pput_4 (n : Nat) (hn : n < 4294967296) (w : World) :
    Calls Tryz.prog 181 #[.int .i64 4, .int .i64 n] w fun e w' => e = .returned (.tuple #[.string (bs (numB 4 n)), .bool true]) ∧ Below w.heap.size w w' := by
  have hmk : ∀ W : World, (Instr.makeSlice 309 (.int .i64 4) (.int .i64 4)).run Tryz.prog W = .ok (.slice (some ⟨W.heap.size, 0, none⟩) 4 4) (W.alloc (.cells (rowA n 4 0) 5)) := fun W => by
    rw [← made_u8 n]
    exact run_make_row' (P := Tryz.prog) 309 5 (.int .u8 0) 1 Tryz.underlying309 info5 rfl .i64 .i64 4 (by decide) (by decide) W
  have hdiv : (n : Int) / 4294967296 = 0 := by omega
  have HC := Lib.hid (conv_row n 4 w.heap.size)
  have A0 := Has.new w (rowA n 4 0) 5
  have B0 : Below w.heap.size w (w.alloc (.cells (rowA n 4 0) 5)) := (Below.refl _ _).alloc (Nat.le_refl _) _
  go_enter Tryz.func181, Tryz.ntmps181
  go_wp2_with fail
  go_loopw [29] (fun i wr => ∃ j : Nat, j ≤ 4 ∧ i = .int .i64 j ∧ Has wr w.heap.size 5 (rowA n 4 j) ∧ Below w.heap.size w wr) (fun i _ => 4 - (intOf i).toNat)
  case atStart => exact ⟨0, by omega, rfl, A0, B0⟩
  case round =>
    obtain ⟨j, hj, rfl, hH, hb⟩ := hrel
    clear A0 B0
    rcases (show j = 0 ∨ j = 1 ∨ j = 2 ∨ j = 3 ∨ j = 4 by omega) with rfl | rfl | rfl | rfl | rfl
    · have hst := rowA_set n 4 0 (by decide)
      have e9 : ((n / 256 ^ (4 - 1 - 0) % 256 : Nat) : Int) = (n : Int) / 16777216 := by
        rw [show (256 : Nat) ^ (4 - 1 - 0) = 16777216 by decide]
        omega
      rw [e9] at hst
      have HST := Lib.hid hst
      have c0 := hH.cell 0
      have f0 := hH.free 0
      rw [rowA_get _ _ _ _ (by decide)] at c0
      simp at c0
      have hH2 := Lib.hid hH
      clear hst e9 hH
      go_wp2_with fail
      go_roundw
      case rel => exact ⟨1, by decide, rfl, by rw [← HST.out]; exact hH2.out.set 0 _, hb.setCell (p := ⟨w.heap.size, 0 + 0, none⟩) (Nat.le_refl _) _⟩
      case measure => simp [intOf]
    · have hst := rowA_set n 4 1 (by decide)
      have e9 : ((n / 256 ^ (4 - 1 - 1) % 256 : Nat) : Int) = (n : Int) / 65536 % 256 := by simp
      rw [e9] at hst
      have HST := Lib.hid hst
      have c0 := hH.cell 1
      have f0 := hH.free 1
      rw [rowA_get _ _ _ _ (by decide)] at c0
      simp at c0
      have hH2 := Lib.hid hH
      clear hst e9 hH
      go_wp2_with fail
      go_roundw
      case rel => exact ⟨2, by decide, rfl, by rw [← HST.out]; exact hH2.out.set 1 _, hb.setCell (p := ⟨w.heap.size, 0 + 1, none⟩) (Nat.le_refl _) _⟩
      case measure => simp [intOf]
    · have hst := rowA_set n 4 2 (by decide)
      have e9 : ((n / 256 ^ (4 - 1 - 2) % 256 : Nat) : Int) = (n : Int) / 256 % 256 := by simp
      rw [e9] at hst
      have HST := Lib.hid hst
      have c0 := hH.cell 2
      have f0 := hH.free 2
      rw [rowA_get _ _ _ _ (by decide)] at c0
      simp at c0
      have hH2 := Lib.hid hH
      clear hst e9 hH
      go_wp2_with fail
      go_roundw
      case rel => exact ⟨3, by decide, rfl, by rw [← HST.out]; exact hH2.out.set 2 _, hb.setCell (p := ⟨w.heap.size, 0 + 2, none⟩) (Nat.le_refl _) _⟩
      case measure => simp [intOf]
    · have hst := rowA_set n 4 3 (by decide)
      have e9 : ((n / 256 ^ (4 - 1 - 3) % 256 : Nat) : Int) = (n : Int) % 256 := by
        rw [show (256 : Nat) ^ (4 - 1 - 3) = 1 by decide]
        omega
      rw [e9] at hst
      have HST := Lib.hid hst
      have c0 := hH.cell 3
      have f0 := hH.free 3
      rw [rowA_get _ _ _ _ (by decide)] at c0
      simp at c0
      have hH2 := Lib.hid hH
      clear hst e9 hH
      go_wp2_with fail
      go_roundw
      case rel => exact ⟨4, by decide, rfl, by rw [← HST.out]; exact hH2.out.set 3 _, hb.setCell (p := ⟨w.heap.size, 0 + 3, none⟩) (Nat.le_refl _) _⟩
      case measure => simp [intOf]
    · have hcv := HC.out wr hH
      go_wp2_with fail
      go_ret2
      exact ⟨rfl, hb⟩
theorem has_no (l : List Nat) (at_ size : Nat) (h1 : 1 ≤ size) (h2 : size ≤ 4) (hlen : l.length ≤ 4000) (ha : at_ ≤ 4000) (hx : l.length < at_ + size) (w : World) :
    Calls Tryz.prog 164 #[.string (bs l), .int .i64 at_, .int .i64 size] w fun e w' => e = .returned (.bool false) ∧ w = w' := by
  by_cases q : l.length < size
  · have hi : (l.length : Int) < (size : Int) := by omega
    go_enter Tryz.func164, Tryz.ntmps164
    go_wp2
    go_ret
    exact ⟨rfl, rfl⟩
  · have hi : ¬ (at_ : Int) ≤ (l.length : Int) - (size : Int) := by omega
    have hq : ¬ (l.length : Int) < (size : Int) := by omega
    go_enter Tryz.func164, Tryz.ntmps164
    go_wp2
    go_ret
    exact ⟨by simp [hi], rfl⟩
theorem pget_no (l : List Nat) (at_ size : Nat) (h1 : 1 ≤ size) (h2 : size ≤ 4) (hlen : l.length ≤ 4000) (ha : at_ ≤ 4000) (hx : l.length < at_ + size) (w : World) :
    Calls Tryz.prog 109 #[.string (bs l), .int .i64 at_, .int .i64 size] w fun e w' => e = .returned (.tuple #[.int .i64 0, .bool false]) ∧ w = w' := by
  have HH := Lib.hid (has_no l at_ size h1 h2 hlen ha hx)
  go_enter Tryz.func109, Tryz.ntmps109
  go_wp2_with fail
  refine (HH.out _).mono ?_
  rintro e w' ⟨rfl, rfl⟩
  go_wp2_with fail
  go_ret2
  exact ⟨rfl, rfl⟩
def setZ (size : Nat) (l : List Nat) (at_ n : Nat) : List Nat := l.take at_ ++ numB size n ++ l.drop (at_ + size)
theorem setZ_len (size : Nat) (l : List Nat) (at_ n : Nat) (h : at_ + size ≤ l.length) : (setZ size l at_ n).length = l.length := by
  unfold setZ
  simp [numB_len]
  omega
theorem setZ_byt (size : Nat) {l : List Nat} (h : Byt l) (at_ n : Nat) : Byt (setZ size l at_ n) :=
  byt_app (byt_app (byt_take h _) (numB_byt _ _)) (byt_drop h _)
set_option maxRecDepth 100000 in
set_option maxHeartbeats 800000 in
theorem pset_1 (l : List Nat) (hl : Byt l) (at_ n : Nat) (hn : n < 256) (hlen : l.length ≤ 4000) (hx : at_ + 1 ≤ l.length) (w : World) :
    Calls Tryz.prog 170 #[.string (bs l), .int .i64 at_, .int .i64 1, .int .i64 n] w fun e w' => e = .returned (.tuple #[.string (bs (setZ 1 l at_ n)), .bool true]) ∧ Below w.heap.size w w' := by
  have HH := Lib.hid (has_yes l at_ 1 (by omega) (by omega) hlen hx)
  have hL := numB_len 1 n
  go_enter Tryz.func170, Tryz.ntmps170
  go_wp2_with fail
  refine (pput_1 n hn _).mono ?_
  rintro e w1 ⟨rfl, hb⟩
  go_wp2_with fail
  refine (HH.out _).mono ?_
  rintro e w' ⟨rfl, rfl⟩
  go_wp2_with fail
  go_quiet (fail)
  go_wp2
  go_ret2
  exact ⟨by simp [setZ], ⟨hb.os, hb.tape, hb.output, hb.size, hb.block⟩⟩
set_option maxRecDepth 100000 in
set_option maxHeartbeats 800000 in
theorem pset_2 (l : List Nat) (hl : Byt l) (at_ n : Nat) (hn : n < 65536) (hlen : l.length ≤ 4000) (hx : at_ + 2 ≤ l.length) (w : World) :
    Calls Tryz.prog 170 #[.string (bs l), .int .i64 at_, .int .i64 2, .int .i64 n] w fun e w' => e = .returned (.tuple #[.string (bs (setZ 2 l at_ n)), .bool true]) ∧ Below w.heap.size w w' := by
  have HH := Lib.hid (has_yes l at_ 2 (by omega) (by omega) hlen hx)
  have hL := numB_len 2 n
  go_enter Tryz.func170, Tryz.ntmps170
  go_wp2_with fail
  refine (pput_2 n hn _).mono ?_
  rintro e w1 ⟨rfl, hb⟩
  go_wp2_with fail
  refine (HH.out _).mono ?_
  rintro e w' ⟨rfl, rfl⟩
  go_wp2_with fail
  go_quiet (fail)
  go_wp2
  go_ret2
  exact ⟨by simp [setZ], ⟨hb.os, hb.tape, hb.output, hb.size, hb.block⟩⟩
set_option maxRecDepth 100000 in
set_option maxHeartbeats 800000 in
theorem pset_4 (l : List Nat) (hl : Byt l) (at_ n : Nat) (hn : n < 4294967296) (hlen : l.length ≤ 4000) (hx : at_ + 4 ≤ l.length) (w : World) :
    Calls Tryz.prog 170 #[.string (bs l), .int .i64 at_, .int .i64 4, .int .i64 n] w fun e w' => e = .returned (.tuple #[.string (bs (setZ 4 l at_ n)), .bool true]) ∧ Below w.heap.size w w' := by
  have HH := Lib.hid (has_yes l at_ 4 (by omega) (by omega) hlen hx)
  have hL := numB_len 4 n
  go_enter Tryz.func170, Tryz.ntmps170
  go_wp2_with fail
  refine (pput_4 n hn _).mono ?_
  rintro e w1 ⟨rfl, hb⟩
  go_wp2_with fail
  refine (HH.out _).mono ?_
  rintro e w' ⟨rfl, rfl⟩
  go_wp2_with fail
  go_quiet (fail)
  go_wp2
  go_ret2
  exact ⟨by simp [setZ], ⟨hb.os, hb.tape, hb.output, hb.size, hb.block⟩⟩
end Go.Proofs.YtngdebpaheejlaaGreatDoor
namespace Go.Proofs.YtngdebpaheejlaaGreatDoor
open Go.RowKit Go.Shelf
set_option linter.unusedSimpArgs false
set_option linter.unusedVariables false
attribute [local go_sem] bs_app bs_size bs_bt bs_extract numB_len zz_bs z_bs
/-- A packet whose header has no options, and is right. -/
structure Hdr (l : List Nat) : Prop where
  byt : Byt l
  lo : 20 ≤ l.length
  hi : l.length ≤ 1500
  ver : bt l 0 = 69
  tot : valAt l 2 2 = l.length
  sum : fold16 (sumW (l.take 20)) = 65535
theorem has_at {w : World} {xs : Array Value} {t : TypeId} {b : Nat} (hb : b = w.heap.size) : Has (w.alloc (.cells xs t)) b t xs := by subst hb; exact Has.new _ _ _
theorem e_bs : (⟨#[]⟩ : ByteArray) = bs [] := rfl
theorem nil_list : (bs []).toList = [] := by rw [ByteArray.toList_eq]; rfl
theorem popts_c (w : World) : Calls Tryz.prog 111 #[.string (bs [])] w fun e w' => e = .returned (.bool true) ∧ w = w' := by
  have hn := nil_list
  go_enter Tryz.func111, Tryz.ntmps111
  go_wp2_with fail
  go_loopw [0] (fun i wr => i = .string (bs []) ∧ w = wr) (fun i _ => 0)
  case atStart => exact ⟨rfl, rfl⟩
  case round =>
    obtain ⟨rfl, rfl⟩ := hrel
    go_wp2_with fail
    go_ret
    exact ⟨rfl, rfl⟩
theorem results3 {fn : Func} {t u v : Tmp} (h : fn.results = #[.tmp t, .tmp u, .tmp v]) (tmps : Array Value) (P : Program) (w : World) :
    (results fn tmps).run P w = .ok (.tuple #[tmps.getD t undef, tmps.getD u undef, tmps.getD v undef]) w := by simp [results, h]
set_option maxRecDepth 100000 in
set_option maxHeartbeats 800000 in
theorem sizes_c (l : List Nat) (h : Hdr l) (w : World) : Calls Tryz.prog 107 #[.string (bs l)] w fun e w' => e = .returned (.tuple #[.int .i64 20, .int .i64 l.length, .int .i64 0]) ∧ Below w.heap.size w w' := by
  obtain ⟨hl, h1, h2, h3, h4, _⟩ := h
  have HG := Lib.hid (pget_c l hl 2 2 (by omega) (by omega) (by omega) (by omega))
  rw [h4] at HG
  have h69 : bits BinOp.and IntKind.u8 69 15 = 5 := by decide
  clear h4
  go_enter Tryz.func107, Tryz.ntmps107
  go_wp2_with fail
  refine (HG.out _).mono ?_
  rintro e w1 ⟨rfl, hb⟩
  go_wp2_with fail
  refine bodyPost_ret (results3 rfl _ _ _) rfl ?_
  exact ⟨rfl, hb⟩
theorem size4_c (l : List Nat) (h : Hdr l) (w : World) : Calls Tryz.prog 75 #[.string (bs l)] w fun e w' => e = .returned (.tuple #[.int .i64 20, .int .i64 l.length, .bool true]) ∧ Below w.heap.size w w' := by
  go_enter Tryz.func75, Tryz.ntmps75
  go_wp2_with fail
  refine (sizes_c l h _).mono ?_
  rintro e w1 ⟨rfl, hb⟩
  go_wp2_with fail
  refine bodyPost_ret (results3 rfl _ _ _) rfl ?_
  exact ⟨rfl, hb⟩
theorem get4_c (l : List Nat) (hl : Byt l) (at_ size b : Nat) (h1 : 1 ≤ size) (h2 : size ≤ 4) (hlen : l.length ≤ 4000) (hx : at_ + size ≤ l.length) (w : World) (hb : Has w b 9 #[.string (bs l)]) :
    Calls Tryz.prog 108 #[.int .i64 at_, .int .i64 size, .pointer (some ⟨b, 0, none⟩)] w fun e w' => e = .returned (.int .i64 (valAt l at_ size : Nat)) ∧ Below w.heap.size w w' := by
  have c0 := hb.cell 0
  simp at c0
  have HG := Lib.hid (pget_c l hl at_ size h1 h2 hlen hx)
  go_enter Tryz.func108, Tryz.ntmps108
  go_wp2_with fail
  refine (HG.out _).mono ?_
  rintro e w1 ⟨rfl, hb⟩
  go_wp2_with fail
  go_ret
  exact ⟨rfl, hb⟩
def hdrV (l : List Nat) : Value := .agg #[.int .i64 (valAt l 1 1 : Nat), .int .i64 (valAt l 4 2 : Nat), .int .i64 ((valAt l 6 2 / 8192 : Nat) : Int), .int .i64 ((valAt l 6 2 % 8192 : Nat) : Int), .int .i64 (valAt l 8 1 : Nat), .int .i64 (valAt l 9 1 : Nat), .int .u32 (valAt l 12 4 : Nat), .int .u32 (valAt l 16 4 : Nat), .string (bs [])]
set_option maxRecDepth 100000 in
set_option maxHeartbeats 3200000 in
theorem parse4_c (l : List Nat) (h : Hdr l) (w : World) : Calls Tryz.prog 74 #[.string (bs l)] w fun e w' => e = .returned (.tuple #[hdrV l, .string (bs (l.drop 20)), .int .i64 0]) ∧ Below w.heap.size w w' := by
  have HS := Lib.hid (sizes_c l h)
  obtain ⟨hl, h1, h2, h3, h4, h5⟩ := h
  have HG := Lib.hid (get4_c l hl)
  have HM := Lib.hid (psum_c (l.take 20) (byt_take hl _) (by simp; omega))
  rw [h5] at HM
  have hN := Lib.hid (Has.new w #[.string (bs l)] 9)
  have hzz : ∀ W : World, (zeroValue 207).run Tryz.prog W = .ok (.agg #[.int .i64 0, .int .i64 0, .int .i64 0, .int .i64 0, .int .i64 0, .int .i64 0, .int .u32 0, .int .u32 0, .string ⟨#[]⟩]) W := fun W => by kernel_rfl
  clear h3 h4 h5
  go_enter Tryz.func74, Tryz.ntmps74
  go_wp2_with fail
  refine (HS.out _).mono ?_
  rintro e w1 ⟨rfl, hb1⟩
  have hN1 : Has w1 w.heap.size 9 #[.string (bs l)] := (hN.out.alloc _).below hb1
  have hH1 : Has w1 (w.heap.size + 1) 207 #[.int .i64 0, .int .i64 0, .int .i64 0, .int .i64 0, .int .i64 0, .int .i64 0, .int .u32 0, .int .u32 0, .string (bs [])] := Has.below (has_at (by simp)) hb1
  have B1 : Hid (Below w.heap.size w w1) := (((Below.refl _ _).alloc (Nat.le_refl _) _).alloc (by simp) _).trans (hb1.mono (by simp; omega))
  have c0 := hN1.cell 0
  have c8 := hH1.cell 8
  have f8 := hH1.free 8
  simp at c0 c8
  have hne : w.heap.size ≠ w.heap.size + 1 := by omega
  have ht20 : (l.take 20).drop 20 = [] := by simp
  clear hzz hb1 hN
  go_wp2_with fail
  refine (HM.out _).mono ?_
  rintro e w2 ⟨rfl, hb2⟩
  have hN2 : Has w2 w.heap.size 9 #[.string (bs l)] := (hN1.setOther _ hne _).below hb2
  have hH2 : Has w2 (w.heap.size + 1) 207 #[.int .i64 0, .int .i64 0, .int .i64 0, .int .i64 0, .int .i64 0, .int .i64 0, .int .u32 0, .int .u32 0, .string (bs [])] := by have := (hH1.set 8 (.string (bs []))).below hb2; simpa using this
  have B2 : Hid (Below w.heap.size w w2) := (B1.out.setCell (p := ⟨w.heap.size + 1, 8, none⟩) (by simp) _).trans (hb2.mono (by have := B1.out.size; simpa using this))
  clear c0 c8 f8 hb2 hH1 hN1 B1
  have c8 := hH2.cell 8
  simp at c8
  go_wp2_with fail
  refine (popts_c _).mono ?_
  rintro e w' ⟨rfl, rfl⟩
  go_wp2_with fail
  refine (HG.out 1 1 _ (by omega) (by omega) (by omega) (by omega) _ hN2).mono ?_
  rintro e w3 ⟨rfl, hb3⟩
  have hN3 := hN2.below hb3
  have hH3 := hH2.below hb3
  have B3 := Lib.hid (B2.out.trans (hb3.mono B2.out.size))
  clear hb3 hN2 hH2 B2 c8
  go_wp2_with fail
  refine (HG.out 4 2 _ (by omega) (by omega) (by omega) (by omega) _ hN3).mono ?_
  rintro e w4 ⟨rfl, hb4⟩
  have hN4 := hN3.below hb4
  have hH4 := hH3.below hb4
  have B4 := Lib.hid (B3.out.trans (hb4.mono B3.out.size))
  clear hb4 hN3 hH3 B3
  go_wp2_with fail
  refine (HG.out 8 1 _ (by omega) (by omega) (by omega) (by omega) _ hN4).mono ?_
  rintro e w5 ⟨rfl, hb5⟩
  have hN5 := hN4.below hb5
  have hH5 := hH4.below hb5
  have B5 := Lib.hid (B4.out.trans (hb5.mono B4.out.size))
  clear hb5 hN4 hH4 B4
  go_wp2_with fail
  refine (HG.out 9 1 _ (by omega) (by omega) (by omega) (by omega) _ hN5).mono ?_
  rintro e w6 ⟨rfl, hb6⟩
  have hN6 := hN5.below hb6
  have hH6 := hH5.below hb6
  have B6 := Lib.hid (B5.out.trans (hb6.mono B5.out.size))
  clear hb6 hN5 hH5 B5
  have c0 := hH6.cell 0
  have c1 := hH6.cell 1
  have c4 := hH6.cell 4
  have c5 := hH6.cell 5
  have f0 := hH6.free 0
  have f1 := hH6.free 1
  have f4 := hH6.free 4
  have f5 := hH6.free 5
  simp at c0 c1 c4 c5
  go_wp2_with fail
  refine (HG.out 6 2 _ (by omega) (by omega) (by omega) (by omega) _ ((((hN6.setOther _ hne _).setOther _ hne _).setOther _ hne _).setOther _ hne _)).mono ?_
  rintro e w7 ⟨rfl, hb7⟩
  have hN7 := ((((hN6.setOther 0 hne (.int .i64 (valAt l 1 1 : Nat))).setOther 1 hne (.int .i64 (valAt l 4 2 : Nat))).setOther 4 hne (.int .i64 (valAt l 8 1 : Nat))).setOther 5 hne (.int .i64 (valAt l 9 1 : Nat))).below hb7
  have hH7 := ((((hH6.set 0 (.int .i64 (valAt l 1 1 : Nat))).set 1 (.int .i64 (valAt l 4 2 : Nat))).set 4 (.int .i64 (valAt l 8 1 : Nat))).set 5 (.int .i64 (valAt l 9 1 : Nat))).below hb7
  have B7 := Lib.hid (((((B6.out.setCell (p := ⟨w.heap.size + 1, 0, none⟩) (by simp) (.int .i64 (valAt l 1 1 : Nat))).setCell (p := ⟨w.heap.size + 1, 1, none⟩) (by simp) (.int .i64 (valAt l 4 2 : Nat))).setCell (p := ⟨w.heap.size + 1, 4, none⟩) (by simp) (.int .i64 (valAt l 8 1 : Nat))).setCell (p := ⟨w.heap.size + 1, 5, none⟩) (by simp) (.int .i64 (valAt l 9 1 : Nat))).trans (hb7.mono (by have := B6.out.size; simpa using this)))
  simp at hH7
  clear hb7 hN6 hH6 B6 c0 c1 c4 c5 f0 f1 f4 f5
  obtain ⟨f, hf⟩ : ∃ f, valAt l 6 2 = f := ⟨_, rfl⟩
  have hfl : f < 65536 := by rw [← hf]; exact valAt_lt hl 6 2
  have hG6 := Lib.hid (HG.out 6 2)
  rw [hf] at hG6
  have hfa : bits BinOp.and IntKind.i64 (f : Int) 8191 = (f : Int) % 8192 := by
    rw [show (8191 : Int) = ((8191 : Nat) : Int) from rfl, i64_and_nat _ _ (by omega) (by omega), nat_mask13]
    simp
  have HFF := Lib.hid hf
  rw [hf]
  clear hf
  go_wp2_with fail
  refine (hG6.out _ (by omega) (by omega) (by omega) (by omega) _ hN7).mono ?_
  rintro e w8 ⟨rfl, hb8⟩
  have hN8 := hN7.below hb8
  have hH8 := hH7.below hb8
  have B8 := Lib.hid (B7.out.trans (hb8.mono B7.out.size))
  have c2 := hH8.cell 2
  have c3 := hH8.cell 3
  have f2 := hH8.free 2
  have f3 := hH8.free 3
  simp at c2 c3
  clear hb8 hN7 hH7 B7
  have v1 := valAt_lt hl 12 4
  have v2 := valAt_lt hl 16 4
  have HG12 := Lib.hid (HG.out 12 4)
  have HG16 := Lib.hid (HG.out 16 4)
  go_wp2_with fail
  refine (HG12.out _ (by omega) (by omega) (by omega) (by omega) _ ((hN8.setOther _ hne _).setOther _ hne _)).mono ?_
  rintro e w9 ⟨rfl, hb9⟩
  have hN9 := ((hN8.setOther 2 hne (.int .i64 ((f : Int) / 8192))).setOther 3 hne (.int .i64 ((f : Int) % 8192))).below hb9
  have hH9 := ((hH8.set 2 (.int .i64 ((f : Int) / 8192))).set 3 (.int .i64 ((f : Int) % 8192))).below hb9
  have B9 := Lib.hid (((B8.out.setCell (p := ⟨w.heap.size + 1, 2, none⟩) (by simp) (.int .i64 ((f : Int) / 8192))).setCell (p := ⟨w.heap.size + 1, 3, none⟩) (by simp) (.int .i64 ((f : Int) % 8192))).trans (hb9.mono (by have := B8.out.size; simpa using this)))
  simp at hH9
  clear hb9 hN8 hH8 B8 c2 c3 f2 f3
  obtain ⟨sr, hsr⟩ : ∃ sr, valAt l 12 4 = sr := ⟨_, rfl⟩
  obtain ⟨ds, hds⟩ : ∃ ds, valAt l 16 4 = ds := ⟨_, rfl⟩
  rw [hsr] at v1 ⊢
  rw [hds] at v2 HG16
  have HSR := Lib.hid hsr
  have HDS := Lib.hid hds
  clear hsr hds
  go_wp2_with fail
  refine (HG16.out _ (by omega) (by omega) (by omega) (by omega) _ hN9).mono ?_
  rintro e w10 ⟨rfl, hb10⟩
  have hN10 := hN9.below hb10
  have hH10 := hH9.below hb10
  have B10 := Lib.hid (B9.out.trans (hb10.mono B9.out.size))
  have c6 := hH10.cell 6
  have c7 := hH10.cell 7
  have f6 := hH10.free 6
  have f7 := hH10.free 7
  simp at c6 c7
  clear hb10 hN9 hH9 B9
  go_wp2_with fail
  have hN11 := (hN10.setOther 6 hne (.int .u32 (sr : Int))).setOther 7 hne (.int .u32 (ds : Int))
  have hH11 := (hH10.set 6 (.int .u32 (sr : Int))).set 7 (.int .u32 (ds : Int))
  have B11 := Lib.hid ((B10.out.setCell (p := ⟨w.heap.size + 1, 6, none⟩) (by simp) (.int .u32 (sr : Int))).setCell (p := ⟨w.heap.size + 1, 7, none⟩) (by simp) (.int .u32 (ds : Int)))
  simp at hH11
  obtain ⟨w11, hw11⟩ : ∃ w11, w11 = (w10.setCell ⟨w.heap.size + 1, 6, none⟩ (.int .u32 (sr : Int))).setCell ⟨w.heap.size + 1, 7, none⟩ (.int .u32 (ds : Int)) := ⟨_, rfl⟩
  rw [← hw11] at hN11 hH11 B11 ⊢
  clear hw11 hN10 hH10 B10 c6 c7 f6 f7
  have n0 := hN11.cell 0
  have c0 := hH11.cell 0
  have c1 := hH11.cell 1
  have c2 := hH11.cell 2
  have c3 := hH11.cell 3
  have c4 := hH11.cell 4
  have c5 := hH11.cell 5
  have c6 := hH11.cell 6
  have c7 := hH11.cell 7
  have c8 := hH11.cell 8
  have f0 := hH11.free 0
  have f1 := hH11.free 1
  have f2 := hH11.free 2
  have f3 := hH11.free 3
  have f4 := hH11.free 4
  have f5 := hH11.free 5
  have f6 := hH11.free 6
  have f7 := hH11.free 7
  have f8 := hH11.free 8
  simp at n0 c0 c1 c2 c3 c4 c5 c6 c7 c8
  go_wp2_with fail
  go_region
  have hH12 := (((((((((hH11.set 0 (.int .i64 (valAt l 1 1 : Nat))).set 1 (.int .i64 (valAt l 4 2 : Nat))).set 2 (.int .i64 ((f : Int) / 8192))).set 3 (.int .i64 ((f : Int) % 8192))).set 4 (.int .i64 (valAt l 8 1 : Nat))).set 5 (.int .i64 (valAt l 9 1 : Nat))).set 6 (.int .u32 (sr : Int))).set 7 (.int .u32 (ds : Int))).set 8 (.string (bs [])))
  have B12 := Lib.hid (((((((((B11.out.setCell (p := ⟨w.heap.size + 1, 0, none⟩) (by simp) (.int .i64 (valAt l 1 1 : Nat))).setCell (p := ⟨w.heap.size + 1, 1, none⟩) (by simp) (.int .i64 (valAt l 4 2 : Nat))).setCell (p := ⟨w.heap.size + 1, 2, none⟩) (by simp) (.int .i64 ((f : Int) / 8192))).setCell (p := ⟨w.heap.size + 1, 3, none⟩) (by simp) (.int .i64 ((f : Int) % 8192))).setCell (p := ⟨w.heap.size + 1, 4, none⟩) (by simp) (.int .i64 (valAt l 8 1 : Nat))).setCell (p := ⟨w.heap.size + 1, 5, none⟩) (by simp) (.int .i64 (valAt l 9 1 : Nat))).setCell (p := ⟨w.heap.size + 1, 6, none⟩) (by simp) (.int .u32 (sr : Int))).setCell (p := ⟨w.heap.size + 1, 7, none⟩) (by simp) (.int .u32 (ds : Int))).setCell (p := ⟨w.heap.size + 1, 8, none⟩) (by simp) (.string (bs [])))
  simp at hH12
  obtain ⟨w12, hw12⟩ : ∃ w12, w12 = (((((((((w11.setCell ⟨w.heap.size + 1, 0, none⟩ (.int .i64 (valAt l 1 1 : Nat))).setCell ⟨w.heap.size + 1, 1, none⟩ (.int .i64 (valAt l 4 2 : Nat))).setCell ⟨w.heap.size + 1, 2, none⟩ (.int .i64 ((f : Int) / 8192))).setCell ⟨w.heap.size + 1, 3, none⟩ (.int .i64 ((f : Int) % 8192))).setCell ⟨w.heap.size + 1, 4, none⟩ (.int .i64 (valAt l 8 1 : Nat))).setCell ⟨w.heap.size + 1, 5, none⟩ (.int .i64 (valAt l 9 1 : Nat))).setCell ⟨w.heap.size + 1, 6, none⟩ (.int .u32 (sr : Int))).setCell ⟨w.heap.size + 1, 7, none⟩ (.int .u32 (ds : Int))).setCell ⟨w.heap.size + 1, 8, none⟩ (.string (bs []))) := ⟨_, rfl⟩
  rw [← hw12] at hH12 B12 ⊢
  clear hw12 n0 c0 c1 c2 c3 c4 c5 c6 c7 c8 f0 f1 f2 f3 f4 f5 f6 f7 f8 hN11 hH11 B11
  have hH : Has w12.drew (w.heap.size + 1) 207 _ := hH12
  have B13 := Lib.hid B12.out.drew
  obtain ⟨w13, hw13⟩ : ∃ w13, w13 = w12.drew := ⟨_, rfl⟩
  rw [← hw13] at hH B13 ⊢
  have c0 := hH.cell 0
  have c1 := hH.cell 1
  have c2 := hH.cell 2
  have c3 := hH.cell 3
  have c4 := hH.cell 4
  have c5 := hH.cell 5
  have c6 := hH.cell 6
  have c7 := hH.cell 7
  have c8 := hH.cell 8
  simp at c0 c1 c2 c3 c4 c5 c6 c7 c8
  clear hw13 B12 hH12
  go_wp2_with fail
  refine bodyPost_ret (v := .tuple #[.agg #[.int .i64 (valAt l 1 1 : Nat), .int .i64 (valAt l 4 2 : Nat), .int .i64 ((f : Int) / 8192), .int .i64 ((f : Int) % 8192), .int .i64 (valAt l 8 1 : Nat), .int .i64 (valAt l 9 1 : Nat), .int .u32 (sr : Int), .int .u32 (ds : Int), .string (bs [])], .string (bs (l.drop 20)), .int .i64 0]) ?_ rfl ?_
  · simp [results, Tryz.f74, go_sem, c0, c1, c2, c3, c4, c5, c6, c7, c8]
  · refine ⟨?_, B13.out⟩
    unfold hdrV
    rw [HFF.out, HSR.out, HDS.out]
    simp
end Go.Proofs.YtngdebpaheejlaaGreatDoor
