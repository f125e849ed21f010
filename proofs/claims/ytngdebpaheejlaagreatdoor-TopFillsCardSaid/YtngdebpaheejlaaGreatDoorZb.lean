/- The document's octets: the walks of Put, Get, Set. Regions that grow; the document's Get, Set, Num, Fold, Words. The document's Sum, Check, Get, Set, Num. The document's packets: options, headers, Build. The document's segments: Build (chapters 5 and 6), Fill (chapter 8). The document's Fill; a packet's frame. A packet's frame. -/
import Derived.Test.YtngdebpaheejlaaGreatDoorProg
import Derived.Test.YtngdebpaheejlaaGreatDoorZa
import Derived.OwnWalk
import Derived.Deep.AppendLies
import Derived.Deep.QuietTactic
import Derived.BigQuiet
import Derived.Laws.AppendOwn
import Derived.Maps.AppendAt
namespace Go.Proofs.YtngdebpaheejlaaGreatDoor
open Go.RowKit
set_option linter.unusedSimpArgs false
set_option linter.unusedVariables false
theorem add_none (b off i : Nat) : (⟨b, off, none⟩ : Addr).add i = ⟨b, off + i, none⟩ := by
  unfold Addr.add
  split <;> simp_all
attribute [local go_sem] bs_app bs_size
theorem numB_len (size n : Nat) : (numB size n).length = size := by simp [numB]
theorem numB_byt (size n : Nat) : Byt (numB size n) := by
  intro x hx
  simp [numB] at hx
  obtain ⟨i, _, rfl⟩ := hx
  exact Nat.mod_lt _ (by decide)
/-- In the midst: the low bytes are laid. -/
def lowB (size n i : Nat) : List Nat := (numB size n).drop (size - i)
theorem lowB_zero (size n : Nat) : lowB size n 0 = [] := by simp [lowB, numB]
theorem lowB_step (size n i : Nat) (h : i < size) : lowB size n (i + 1) = (n / 256 ^ i % 256) :: lowB size n i := by
  unfold lowB
  rw [List.drop_eq_getElem_cons (by rw [numB_len]; omega)]
  congr 1
  · simp only [numB, List.getElem_map, List.getElem_range]
    rw [show size - 1 - (size - (i + 1)) = i by omega]
  · rw [show size - (i + 1) + 1 = size - i by omega]
theorem lowB_all (size n : Nat) : lowB size n size = numB size n := by simp [lowB]
theorem conv1 (W : World) (d : Nat) (hd : d < 256) : (convert 309 9 (.slice (some ⟨W.heap.size, 0, none⟩) 1 1)).run Tryz.prog (W.alloc (.cells #[.int .u8 (d : Int)] 5)) = .ok (.string (bs [d])) (W.alloc (.cells #[.int .u8 (d : Int)] 5)) := by
  refine run_convert_bytes_back (P := Tryz.prog) _ 309 9 5 ⟨W.heap.size, 0, none⟩ 1 [UInt8.ofNat d] Tryz.underlying309 Tryz.underlying5 Tryz.underlying9 (fun j hj => ?_)
  obtain rfl : j = 0 := by simpa using hj
  rw [add_none]
  have := (Has.new W #[.int .u8 (d : Int)] 5).cell 0
  simp only [Nat.add_zero]
  rw [this]
  have e : (UInt8.ofNat d).toNat = d := by simp; omega
  simp only [List.getElem_cons_zero, e]
  simp
theorem mod_256 (n d : Nat) (h : n % 256 = d) : d < 256 := by omega
set_option maxRecDepth 100000 in
set_option maxHeartbeats 800000 in
theorem put_1 (n : Nat) (hn : n < 256) (w : World) :
    Calls Tryz.prog 95 #[.int .i64 1, .int .i64 n] w fun e w' => e = .returned (.tuple #[.string (bs (numB 1 n)), .bool true]) ∧ Below w.heap.size w w' := by
  have c0 := Lib.hid conv1
  go_enter Tryz.func95, Tryz.ntmps95
  go_wp2_with fail
  go_loopw [7, 6, 1] (fun i s m wr => ∃ (j : Nat) (l : List Nat), j ≤ 1 ∧ i = .int .i64 j ∧ s = .string (bs l) ∧ m = .int .i64 ((n / 256 ^ j : Nat) : Int) ∧ l.length = j ∧ Hid (l = lowB 1 n j) ∧ Below w.heap.size w wr) (fun i _ _ _ => 1 - (intOf i).toNat)
  case atStart => exact ⟨0, [], by omega, rfl, rfl, by simp, rfl, (lowB_zero _ _).symm, Below.refl _ _⟩
  case round =>
    obtain ⟨j, l, hj, rfl, rfl, rfl, hl, HL, hb⟩ := hrel
    by_cases hlt : j < 1
    · obtain ⟨m, hm⟩ : ∃ m, n / 256 ^ j = m := ⟨_, rfl⟩
      have hm1 : n / 256 ^ (j + 1) = m / 256 := by rw [Nat.pow_succ, ← Nat.div_div_eq_div_mul, hm]
      have hmb : m ≤ n := by rw [← hm]; exact Nat.div_le_self _ _
      obtain ⟨d, hd⟩ : ∃ d, m % 256 = d := ⟨_, rfl⟩
      have hd2 := mod_256 m d hd
      have hdi : (m : Int) % 256 = (d : Int) := by omega
      rw [hm]
      have hmd : m = d := by omega
      have cv := c0.out wr d hd2
      have HM := Lib.hid hm1
      have HN : Hid (d :: l = lowB 1 n (j + 1)) := by
        show d :: l = _
        rw [lowB_step 1 n j hlt, hm, hd, HL.out]
      have hz1 : ¬ (9223372036854775807 < 1 + l.length) := by omega
      have hz2 : ¬ (9223372036854775807 < (bs [d]).size + (bs l).size) := by rw [bs_size, bs_size]; simp; omega
      clear hm hm1 hd
      subst hmd
      go_wp2_with fail
      go_roundw
      case rel => exact ⟨j + 1, _, by omega, by go_num, rfl, by rw [HM.out]; simp, by simp [hl], HN.out, hb.alloc hb.size _⟩
      case measure => simp [intOf]; omega
    · obtain rfl : j = 1 := by omega
      have HR : Hid (bs l = bs (numB 1 n)) := by show bs l = _; rw [HL.out, lowB_all]
      go_wp2
      go_ret2
      exact ⟨congrArg (fun x => Ending.returned (.tuple #[.string x, .bool true])) HR.out, hb⟩
set_option maxRecDepth 100000 in
set_option maxHeartbeats 800000 in
theorem put_2 (n : Nat) (hn : n < 65536) (w : World) :
    Calls Tryz.prog 95 #[.int .i64 2, .int .i64 n] w fun e w' => e = .returned (.tuple #[.string (bs (numB 2 n)), .bool true]) ∧ Below w.heap.size w w' := by
  have c0 := Lib.hid conv1
  go_enter Tryz.func95, Tryz.ntmps95
  go_wp2_with fail
  go_loopw [7, 6, 1] (fun i s m wr => ∃ (j : Nat) (l : List Nat), j ≤ 2 ∧ i = .int .i64 j ∧ s = .string (bs l) ∧ m = .int .i64 ((n / 256 ^ j : Nat) : Int) ∧ l.length = j ∧ Hid (l = lowB 2 n j) ∧ Below w.heap.size w wr) (fun i _ _ _ => 2 - (intOf i).toNat)
  case atStart => exact ⟨0, [], by omega, rfl, rfl, by simp, rfl, (lowB_zero _ _).symm, Below.refl _ _⟩
  case round =>
    obtain ⟨j, l, hj, rfl, rfl, rfl, hl, HL, hb⟩ := hrel
    by_cases hlt : j < 2
    · obtain ⟨m, hm⟩ : ∃ m, n / 256 ^ j = m := ⟨_, rfl⟩
      have hm1 : n / 256 ^ (j + 1) = m / 256 := by rw [Nat.pow_succ, ← Nat.div_div_eq_div_mul, hm]
      have hmb : m ≤ n := by rw [← hm]; exact Nat.div_le_self _ _
      obtain ⟨d, hd⟩ : ∃ d, m % 256 = d := ⟨_, rfl⟩
      have hd2 := mod_256 m d hd
      have hdi : (m : Int) % 256 = (d : Int) := by omega
      rw [hm]
      have cv := c0.out wr d hd2
      have HM := Lib.hid hm1
      have HN : Hid (d :: l = lowB 2 n (j + 1)) := by
        show d :: l = _
        rw [lowB_step 2 n j hlt, hm, hd, HL.out]
      have hz1 : ¬ (9223372036854775807 < 1 + l.length) := by omega
      have hz2 : ¬ (9223372036854775807 < (bs [d]).size + (bs l).size) := by rw [bs_size, bs_size]; simp; omega
      clear hm hm1 hd
      go_wp2_with fail
      go_roundw
      case rel => exact ⟨j + 1, _, by omega, by go_num, rfl, by rw [HM.out]; simp, by simp [hl], HN.out, hb.alloc hb.size _⟩
      case measure => simp [intOf]; omega
    · obtain rfl : j = 2 := by omega
      have HR : Hid (bs l = bs (numB 2 n)) := by show bs l = _; rw [HL.out, lowB_all]
      go_wp2
      go_ret2
      exact ⟨congrArg (fun x => Ending.returned (.tuple #[.string x, .bool true])) HR.out, hb⟩
set_option maxRecDepth 100000 in
set_option maxHeartbeats 800000 in
theorem put_4 (n : Nat) (hn : n < 4294967296) (w : World) :
    Calls Tryz.prog 95 #[.int .i64 4, .int .i64 n] w fun e w' => e = .returned (.tuple #[.string (bs (numB 4 n)), .bool true]) ∧ Below w.heap.size w w' := by
  have c0 := Lib.hid conv1
  go_enter Tryz.func95, Tryz.ntmps95
  go_wp2_with fail
  go_loopw [7, 6, 1] (fun i s m wr => ∃ (j : Nat) (l : List Nat), j ≤ 4 ∧ i = .int .i64 j ∧ s = .string (bs l) ∧ m = .int .i64 ((n / 256 ^ j : Nat) : Int) ∧ l.length = j ∧ Hid (l = lowB 4 n j) ∧ Below w.heap.size w wr) (fun i _ _ _ => 4 - (intOf i).toNat)
  case atStart => exact ⟨0, [], by omega, rfl, rfl, by simp, rfl, (lowB_zero _ _).symm, Below.refl _ _⟩
  case round =>
    obtain ⟨j, l, hj, rfl, rfl, rfl, hl, HL, hb⟩ := hrel
    by_cases hlt : j < 4
    · obtain ⟨m, hm⟩ : ∃ m, n / 256 ^ j = m := ⟨_, rfl⟩
      have hm1 : n / 256 ^ (j + 1) = m / 256 := by rw [Nat.pow_succ, ← Nat.div_div_eq_div_mul, hm]
      have hmb : m ≤ n := by rw [← hm]; exact Nat.div_le_self _ _
      obtain ⟨d, hd⟩ : ∃ d, m % 256 = d := ⟨_, rfl⟩
      have hd2 := mod_256 m d hd
      have hdi : (m : Int) % 256 = (d : Int) := by omega
      rw [hm]
      have cv := c0.out wr d hd2
      have HM := Lib.hid hm1
      have HN : Hid (d :: l = lowB 4 n (j + 1)) := by
        show d :: l = _
        rw [lowB_step 4 n j hlt, hm, hd, HL.out]
      have hz1 : ¬ (9223372036854775807 < 1 + l.length) := by omega
      have hz2 : ¬ (9223372036854775807 < (bs [d]).size + (bs l).size) := by rw [bs_size, bs_size]; simp; omega
      clear hm hm1 hd
      go_wp2_with fail
      go_roundw
      case rel => exact ⟨j + 1, _, by omega, by go_num, rfl, by rw [HM.out]; simp, by simp [hl], HN.out, hb.alloc hb.size _⟩
      case measure => simp [intOf]; omega
    · obtain rfl : j = 4 := by omega
      have HR : Hid (bs l = bs (numB 4 n)) := by show bs l = _; rw [HL.out, lowB_all]
      go_wp2
      go_ret2
      exact ⟨congrArg (fun x => Ending.returned (.tuple #[.string x, .bool true])) HR.out, hb⟩
end Go.Proofs.YtngdebpaheejlaaGreatDoor
namespace Go.Proofs.YtngdebpaheejlaaGreatDoor
open Go.RowKit
set_option linter.unusedSimpArgs false
set_option linter.unusedVariables false
attribute [local go_sem] bs_app bs_size bs_bt
/-- The worlds that grew out of one. -/
def Gr (w : World) : Type := {W : World // Below w.heap.size w W}
instance (w : World) : Nonempty (Gr w) := ⟨⟨w, Below.refl _ _⟩⟩
/-- A region that draws its order and whose callees grow the world, each with one answer: walked once. -/
theorem wp_region_grows {P : Program} {id : Nat} {Q : Exit → Act → World → Prop} {a : Act} {w : World} {l : List Oper} (hm : P.follows .mixedOrders = true) (hB : Region.lexB .any l.toArray = true)
    (h : wpQuiet P l.toArray (fun w' => ∃ V : Gr w, w' = V.1) (fun a' => ∀ w', (∃ V : Gr w, w' = V.1) → Q .normal a' w') l a) : (Code.region id l.toArray true).wp P Q a w :=
  wp_region_quiet (C := fun w' => ∃ V : Gr w, w' = V.1) hm hB ⟨⟨w.drew, (Below.refl _ _).drew⟩, rfl⟩ (by simpa using h)
theorem Below.drN {B : Nat} {w w' : World} (h : Below B w w') (m : Nat) : Below B w (w'.drewN m) := ⟨h.os, h.tape, h.output, h.size, h.block⟩
theorem grows_call {P : Program} {f : FuncId} {args : Array Value} {w : World} (V : Gr w) {v : Value} (h : Calls P f args V.1 fun e w' => e = .returned v ∧ Below V.1.heap.size V.1 w') :
    Calls P f args V.1 fun e w' => e = .returned v ∧ ∃ U : Gr w, w' = U.1 :=
  h.mono fun e w' ⟨he, hb⟩ => ⟨he, ⟨w', V.2.trans (hb.mono V.2.size)⟩, rfl⟩
theorem Gr.has {w : World} (V : Gr w) {b : Nat} {t : TypeId} {xs : Array Value} (h : Has w b t xs) : Has V.1 b t xs := h.below V.2
def fold16 (n : Nat) : Nat := if n = 0 then 0 else (n - 1) % 65535 + 1
theorem fold16_small (n : Nat) (h : n ≤ 65535) : fold16 n = n := by unfold fold16; split <;> omega
theorem fold16_step (n : Nat) (h : 65535 < n) : fold16 (n % 65536 + n / 65536) = fold16 n := by unfold fold16; split <;> split <;> omega
theorem fold16_le (n : Nat) : fold16 n ≤ 65535 := by unfold fold16; split <;> omega
set_option maxRecDepth 100000 in
theorem fold_c (n : Nat) (hn : n < 18446744073709551616) (w : World) : Calls Tryz.prog 158 #[.int .u64 n] w fun e w' => e = .returned (.int .u16 (fold16 n : Nat)) ∧ w = w' := by
  go_enter Tryz.func158, Tryz.ntmps158
  go_wp2_with fail
  go_loopw [0] (fun i wr => ∃ m : Nat, m ≤ n ∧ i = .int .u64 m ∧ Hid (fold16 m = fold16 n) ∧ w = wr) (fun i _ => (intOf i).toNat)
  case atStart => exact ⟨n, by omega, rfl, rfl, rfl⟩
  case round =>
    obtain ⟨m, hm, rfl, HM, rfl⟩ := hrel
    by_cases h : 65535 < m
    · have hi : (65535 : Int) < (m : Int) := by omega
      obtain ⟨q, hq⟩ : ∃ q, m % 65536 + m / 65536 = q := ⟨_, rfl⟩
      have hqi : (m : Int) % 65536 + (m : Int) / 65536 = (q : Int) := by omega
      have hlt : q < m := by omega
      have HQ : Hid (fold16 q = fold16 n) := by
        show fold16 q = _
        rw [← hq, fold16_step m h]; exact HM.out
      clear hq
      go_wp2_with fail
      go_roundw
      case rel => exact ⟨q, by omega, rfl, HQ.out, by trivial⟩
      case measure => simp [intOf]; omega
    · have hi : ¬ (65535 : Int) < (m : Int) := by omega
      have hF : Hid (fold16 n = m) := by
        show fold16 n = m
        rw [← HM.out, fold16_small m (by omega)]
      go_wp2_with fail
      go_ret
      rw [hF.out]
      exact ⟨rfl, rfl⟩
theorem own_ge {w : World} {base e size m : Nat} {v : Value} {xs : List Value} (h : w.ownsRow base e size v m xs) : ∀ b, v.ownBlock = some b → base ≤ b := fun b hb => by
  rcases h with ⟨_, ⟨rfl, _⟩ | ⟨g, cap, cur, rfl, h1, _⟩⟩
  · cases hb
  · cases hb; exact h1
theorem grown_below {B : Nat} {a w w' : World} {row : Option Nat} (h : Below B a w) (G : w.grownBy w' row) (hr : ∀ b, row = some b → B ≤ b) (hB : B ≤ w.heap.size) : Below B a w' :=
  h.trans ⟨G.os, G.tape, G.output, G.size, fun k hk => G.block k (by omega) (fun e => by have := hr k e.symm; omega)⟩
/-- The words of a text, their sum. -/
def wordAt (l : List Nat) (j : Nat) : Nat := 256 * bt l (2 * j) + bt l (2 * j + 1)
def sumTo (l : List Nat) : Nat → Nat
  | 0 => 0
  | j + 1 => sumTo l j + wordAt l j
def nw (l : List Nat) : Nat := (l.length + 1) / 2
def sumW (l : List Nat) : Nat := sumTo l (nw l)
theorem wordAt_le {l : List Nat} (h : Byt l) (j : Nat) : wordAt l j ≤ 65535 := by
  unfold wordAt
  have := bt_lt h (2 * j)
  have := bt_lt h (2 * j + 1)
  omega
theorem sumTo_le {l : List Nat} (h : Byt l) : ∀ j, sumTo l j ≤ j * 65535
  | 0 => by simp [sumTo]
  | j + 1 => by
    have := sumTo_le h j
    have := wordAt_le h j
    simp only [sumTo]
    omega
def wordsV (l : List Nat) (j : Nat) : List Value := (List.range j).map fun i => .int .i64 (wordAt l i : Nat)
theorem wordsV_len (l : List Nat) (j : Nat) : (wordsV l j).length = j := by simp [wordsV]
theorem wordsV_succ (l : List Nat) (j : Nat) : wordsV l (j + 1) = wordsV l j ++ [.int .i64 (wordAt l j : Nat)] := by simp [wordsV, List.range_succ]
theorem info3 : (Tryz.prog.info? 3).map (fun i => (i.zero, i.size, i.bytes)) = some (some (.int .i64 0), 1, 8) := by kernel_rfl
set_option maxRecDepth 100000 in
set_option maxHeartbeats 800000 in
theorem words_c (l : List Nat) (hl : Byt l) (hlen : l.length ≤ 4000) (w : World) : Calls Tryz.prog 157 #[.string (bs l)] w fun e w' => ∃ v, e = .returned v ∧ w'.ownsRow w.heap.size 3 1 v (nw l) (wordsV l (nw l)) ∧ Below w.heap.size w w' := by
  obtain ⟨i0, hi0, hz0, hs0, hb0⟩ := info_parts info3
  have HB := Lib.hid hl
  go_enter Tryz.func157, Tryz.ntmps157
  go_wp2_with fail
  go_loopw [3, 4] (fun v i wr => ∃ j : Nat, j ≤ nw l ∧ i = .int .i64 ((2 * j : Nat) : Int) ∧ wr.ownsRow w.heap.size 3 1 v j (wordsV l j) ∧ Below w.heap.size w wr) (fun _ i _ => 2 * nw l - (intOf i).toNat)
  case atStart => exact ⟨0, by omega, rfl, World.ownsRow_nil w _ 3 1, Below.refl _ _⟩
  case round =>
    obtain ⟨j, hj, rfl, hown, hb⟩ := hrel
    unfold nw at hj
    have ha1 := bt_lt hl (2 * j)
    have hb1 := bt_lt hl (2 * j + 1)
    have hs : Hid (256 * bt l (2 * j) + bt l (2 * j + 1) = wordAt l j) := rfl
    by_cases h : 2 * j < l.length
    · have hi : 2 * (j : Int) < (l.length : Int) := by omega
      have HI : Hid (∀ W : World, W.heap.size = W.heap.size) := fun _ => rfl
      by_cases h2 : 2 * j + 1 < l.length
      · have hi2 : 2 * (j : Int) + 1 < (l.length : Int) := by omega
        generalize hx : bt l (2 * j) = a at ha1 hs
        generalize hy : bt l (2 * j + 1) = b at hb1 hs
        go_wp2_with (at_builtin; go_loud (refine wpList_append_lies _ rfl _ _ 114 rfl w.heap.size 3 i0 _ 1 8 Tryz.underlying114 hi0 hz0 hs0 hb0 rfl (by decide) _ _ _ rfl (hown.alloc _) ⟨wr.heap.size, 0, none⟩ 1 1 [.int .i64 (256 * (a : Int) + (b : Int))] rfl rfl (cell_one_new _ _ _) (by simp [Value.oneCell']) (by omega) (by unfold maxLen; omega) (by omega) (by have := hb.size; simp; omega) (wr.heap.size + 1) (by simp) ?_); intro g cap w1 hown1 G hat hlt2; have hb9 : Below w.heap.size w w1 := grown_below (hb.alloc hb.size _) G (own_ge hown) (by have := hb.size; simp; omega))
        go_roundw
        case rel =>
          refine ⟨j + 1, by unfold nw; omega, by go_num, ?_, hb9⟩
          rw [wordsV_succ, ← hs.out]
          simpa using hown1
        case measure => simp [intOf]; unfold nw; omega
      · have hi2 : ¬ 2 * (j : Int) + 1 < (l.length : Int) := by omega
        have hb0' : bt l (2 * j + 1) = 0 := by unfold bt; simp [List.getD, h2]
        rw [hb0'] at hs
        generalize hx : bt l (2 * j) = a at ha1 hs
        go_wp2_with (at_builtin; go_loud (refine wpList_append_lies _ rfl _ _ 114 rfl w.heap.size 3 i0 _ 1 8 Tryz.underlying114 hi0 hz0 hs0 hb0 rfl (by decide) _ _ _ rfl (hown.alloc _) ⟨wr.heap.size, 0, none⟩ 1 1 [.int .i64 (256 * (a : Int))] rfl rfl (cell_one_new _ _ _) (by simp [Value.oneCell']) (by omega) (by unfold maxLen; omega) (by omega) (by have := hb.size; simp; omega) (wr.heap.size + 1) (by simp) ?_); intro g cap w1 hown1 G hat hlt2; have hb9 : Below w.heap.size w w1 := grown_below (hb.alloc hb.size _) G (own_ge hown) (by have := hb.size; simp; omega))
        go_roundw
        case rel =>
          refine ⟨j + 1, by unfold nw; omega, by go_num, ?_, hb9⟩
          rw [wordsV_succ, ← hs.out]
          simpa using hown1
        case measure => simp [intOf]; unfold nw; omega
    · have hi : ¬ 2 * (j : Int) < (l.length : Int) := by omega
      have hjn : j = nw l := by unfold nw; omega
      have HJ := Lib.hid hjn
      clear hjn
      go_wp2_with fail
      go_ret
      rw [← HJ.out]
      exact ⟨_, rfl, hown, hb⟩
end Go.Proofs.YtngdebpaheejlaaGreatDoor
namespace Go.Proofs.YtngdebpaheejlaaGreatDoor
open Go.RowKit
set_option linter.unusedSimpArgs false
set_option linter.unusedVariables false
attribute [local go_sem] bs_app bs_size bs_bt bs_extract
theorem own1_cell {w : World} {base e : Nat} {v : Value} {m : Nat} {xs : List Value} (h : w.ownsRow base e 1 v m xs) {j : Nat} (hj : j < m) : ∃ g cap, v = .slice (some ⟨g, 0, none⟩) m cap ∧ w.cell? ⟨g, j, none⟩ = xs[j]? := by
  rcases h with ⟨h0, ⟨rfl, h1⟩ | ⟨g, cap, cur, rfl, h1, h2, h3, h4, h5, h6⟩⟩
  · omega
  · refine ⟨g, cap, rfl, ?_⟩
    rw [← h6, List.getElem?_take, if_pos (by omega)]
    unfold World.cell?
    simp [h2]
theorem own_slice {w : World} {base e size : Nat} {v : Value} {m : Nat} {xs : List Value} (h : w.ownsRow base e size v m xs) : ∃ b c, v = .slice b m c := by
  rcases h with ⟨h0, ⟨rfl, h1⟩ | ⟨g, cap, cur, rfl, _⟩⟩
  · subst h1; exact ⟨_, _, rfl⟩
  · exact ⟨_, _, rfl⟩
set_option maxRecDepth 100000 in
set_option maxHeartbeats 800000 in
theorem rsum_c (l : List Nat) (hl : Byt l) (hlen : l.length ≤ 4000) (w : World) : Calls Tryz.prog 96 #[.string (bs l)] w fun e w' => e = .returned (.int .u16 (fold16 (sumW l) : Nat)) ∧ Below w.heap.size w w' := by
  go_enter Tryz.func96, Tryz.ntmps96
  go_wp2_with fail
  refine (words_c l hl hlen w).mono ?_
  rintro e w1 ⟨v, rfl, hown, hb⟩
  obtain ⟨sb, sc, rfl⟩ := own_slice hown
  have hn : nw l ≤ 2000 := by unfold nw; omega
  obtain ⟨n, hnn⟩ : ∃ n, nw l = n := ⟨_, rfl⟩
  have HN := Lib.hid hnn
  rw [hnn] at hown hn ⊢
  clear hnn
  go_wp2_with fail
  go_loopw [3, 5] (fun s i wr => ∃ j : Nat, j ≤ n ∧ i = .int .i64 j ∧ s = .int .u64 (sumTo l j : Nat) ∧ wr = w1) (fun _ i _ => n - (intOf i).toNat)
  case atStart => exact ⟨0, by omega, rfl, rfl, rfl⟩
  case round =>
    obtain ⟨j, hj, rfl, rfl, rfl⟩ := hrel
    have hs1 := sumTo_le hl j
    have hs2 := wordAt_le hl j
    by_cases h : j < n
    · have hi : (j : Int) < (n : Int) := by omega
      obtain ⟨g, cap, e, hc⟩ := own1_cell hown h
      cases e
      have hc2 : wr.cell? ⟨g, j, none⟩ = some (.int .i64 (wordAt l j : Nat)) := by rw [hc]; simp [wordsV, h]
      have hs3 : Hid (sumTo l (j + 1) = sumTo l j + wordAt l j) := rfl
      generalize sumTo l j = s at hs1 hs3 ⊢
      generalize wordAt l j = x at hs2 hs3 hc2
      clear hc
      go_wp2_with fail
      go_roundw
      case rel => exact ⟨j + 1, by omega, by go_num, by rw [hs3.out]; go_num, by trivial⟩
      case measure => simp [intOf]; omega
    · have hi : ¬ (j : Int) < (n : Int) := by omega
      obtain rfl : j = n := by omega
      have hs3 : Hid (sumTo l j = sumW l) := by show _ = _; unfold sumW; rw [HN.out]
      generalize sumTo l j = s at hs1 hs3 ⊢
      go_wp2_with fail
      refine (fold_c s (by omega) _).mono ?_
      rintro e w' ⟨rfl, rfl⟩
      go_wp2_with fail
      go_ret
      rw [← hs3.out]
      exact ⟨rfl, hb⟩
theorem rcheck_c (l : List Nat) (hl : Byt l) (hlen : l.length ≤ 4000) (w : World) : Calls Tryz.prog 52 #[.string (bs l)] w fun e w' => e = .returned (.int .u16 ((65535 - fold16 (sumW l) : Nat) : Int)) ∧ Below w.heap.size w w' := by
  have hf := fold16_le (sumW l)
  obtain ⟨f, hF⟩ : ∃ f, fold16 (sumW l) = f := ⟨_, rfl⟩
  have H := Lib.hid (rsum_c l hl hlen w)
  rw [hF] at hf H ⊢
  have e1 : ((65535 - f : Nat) : Int) = 65535 - (f : Int) := by omega
  rw [e1]
  clear hF e1
  go_enter Tryz.func52, Tryz.ntmps52
  go_wp2_with fail
  refine H.out.mono ?_
  rintro e w1 ⟨rfl, hb⟩
  go_wp2_with fail
  go_ret
  exact ⟨rfl, hb⟩
/-- The number that stands somewhere. -/
def valAt (l : List Nat) (at_ : Nat) : Nat → Nat
  | 0 => 0
  | i + 1 => valAt l at_ i * 256 + bt l (at_ + i)
theorem valAt_lt {l : List Nat} (h : Byt l) (a : Nat) : ∀ i, valAt l a i < 256 ^ i
  | 0 => by simp [valAt]
  | i + 1 => by
    have := valAt_lt h a i
    have := bt_lt h (a + i)
    simp only [valAt, Nat.pow_succ]
    omega
set_option maxRecDepth 100000 in
theorem rget_no (l : List Nat) (at_ size : Nat) (h1 : 1 ≤ size) (h2 : size ≤ 4) (hlen : l.length ≤ 4000) (ha : at_ ≤ 4000) (hx : l.length < at_ + size) (w : World) :
    Calls Tryz.prog 162 #[.string (bs l), .int .i64 at_, .int .i64 size] w fun e w' => e = .returned (.tuple #[.int .i64 0, .bool false]) ∧ w = w' := by
  go_enter Tryz.func162, Tryz.ntmps162
  go_wp2_with fail
  go_ret2
  exact ⟨rfl, rfl⟩
set_option maxRecDepth 100000 in
set_option maxHeartbeats 800000 in
theorem rget_c (l : List Nat) (hl : Byt l) (at_ size : Nat) (h1 : 1 ≤ size) (h2 : size ≤ 4) (hlen : l.length ≤ 4000) (hx : at_ + size ≤ l.length) (w : World) :
    Calls Tryz.prog 162 #[.string (bs l), .int .i64 at_, .int .i64 size] w fun e w' => e = .returned (.tuple #[.int .i64 (valAt l at_ size : Nat), .bool true]) ∧ w = w' := by
  go_enter Tryz.func162, Tryz.ntmps162
  go_wp2_with fail
  go_loopw [8, 9] (fun s i wr => ∃ j : Nat, j ≤ size ∧ i = .int .i64 j ∧ s = .int .i64 (valAt l at_ j : Nat) ∧ w = wr) (fun _ i _ => size - (intOf i).toNat)
  case atStart => exact ⟨0, by omega, rfl, rfl, rfl⟩
  case round =>
    obtain ⟨j, hj, rfl, rfl, rfl⟩ := hrel
    have hv := valAt_lt hl at_ j
    have hv2 : valAt l at_ j < 4294967296 := Nat.lt_of_lt_of_le hv (Nat.le_trans (Nat.pow_le_pow_right (by decide) (Nat.le_trans hj h2)) (by decide))
    by_cases h : j < size
    · have hi : (j : Int) < (size : Int) := by omega
      have hv3 : valAt l at_ j < 16777216 := Nat.lt_of_lt_of_le hv (Nat.le_trans (Nat.pow_le_pow_right (by decide) (show j ≤ 3 by omega)) (by decide))
      have hb := bt_lt hl (at_ + j)
      have hs : Hid (valAt l at_ (j + 1) = valAt l at_ j * 256 + bt l (at_ + j)) := rfl
      have hix : at_ + j < l.length := by omega
      clear hv hv2
      generalize valAt l at_ j = s at hv3 hs ⊢
      generalize hxx : bt l (at_ + j) = x at hb hs
      go_wp2_with fail
      go_roundw
      case rel => exact ⟨j + 1, by omega, by go_num, by rw [hs.out]; go_num, by trivial⟩
      case measure => simp [intOf]; omega
    · have hi : ¬ (j : Int) < (size : Int) := by omega
      obtain rfl : j = size := by omega
      clear hv
      obtain ⟨s, hs⟩ : ∃ s, valAt l at_ j = s := ⟨_, rfl⟩
      have HS := Lib.hid hs
      rw [hs] at hv2 ⊢
      clear hs
      go_wp2_with fail
      go_ret2
      rw [HS.out]
      exact ⟨rfl, rfl⟩
def setB (l : List Nat) (at_ n : Nat) : List Nat := l.take at_ ++ numB 2 n ++ l.drop (at_ + 2)
theorem setB_len (l : List Nat) (at_ n : Nat) (h : at_ + 2 ≤ l.length) : (setB l at_ n).length = l.length := by
  unfold setB
  simp [numB_len]
  omega
theorem setB_byt {l : List Nat} (h : Byt l) (at_ n : Nat) : Byt (setB l at_ n) := by
  intro x hx
  unfold setB at hx
  simp only [List.mem_append] at hx
  rcases hx with (hx | hx) | hx
  · exact h x (List.mem_of_mem_take hx)
  · exact numB_byt 2 n x hx
  · exact h x (List.mem_of_mem_drop hx)
set_option maxRecDepth 100000 in
set_option maxHeartbeats 800000 in
theorem rset_c (l : List Nat) (hl : Byt l) (at_ n : Nat) (hn : n < 65536) (hlen : l.length ≤ 4000) (hx : at_ + 2 ≤ l.length) (w : World) :
    Calls Tryz.prog 101 #[.string (bs l), .int .i64 at_, .int .i64 2, .int .i64 n] w fun e w' => e = .returned (.tuple #[.string (bs (setB l at_ n)), .bool true]) ∧ Below w.heap.size w w' := by
  have HG := Lib.hid (fun W => rget_c l hl at_ 2 (by omega) (by omega) hlen hx W)
  have e1 : bs l = bs l := rfl
  have hL := numB_len 2 n
  go_enter Tryz.func101, Tryz.ntmps101
  go_wp2_with fail
  refine (HG.out _).mono ?_
  rintro e w' ⟨rfl, rfl⟩
  go_wp2_with fail
  refine (put_2 n hn _).mono ?_
  rintro e w1 ⟨rfl, hb⟩
  go_wp2_with fail
  go_quiet (fail)
  go_wp2
  go_ret2
  exact ⟨by simp [setB], ⟨hb.os, hb.tape, hb.output, hb.size, hb.block⟩⟩
theorem num_1 (n : Nat) (hn : n < 256) (w : World) : Calls Tryz.prog 51 #[.int .i64 1, .int .i64 n] w fun e w' => e = .returned (.string (bs (numB 1 n))) ∧ Below w.heap.size w w' := by
  go_enter Tryz.func51, Tryz.ntmps51
  go_wp2_with fail
  refine (put_1 n hn _).mono ?_
  rintro e w1 ⟨rfl, hb⟩
  go_wp2
  go_ret
  exact ⟨rfl, hb⟩
theorem num_2 (n : Nat) (hn : n < 65536) (w : World) : Calls Tryz.prog 51 #[.int .i64 2, .int .i64 n] w fun e w' => e = .returned (.string (bs (numB 2 n))) ∧ Below w.heap.size w w' := by
  go_enter Tryz.func51, Tryz.ntmps51
  go_wp2_with fail
  refine (put_2 n hn _).mono ?_
  rintro e w1 ⟨rfl, hb⟩
  go_wp2
  go_ret
  exact ⟨rfl, hb⟩
theorem num_4 (n : Nat) (hn : n < 4294967296) (w : World) : Calls Tryz.prog 51 #[.int .i64 4, .int .i64 n] w fun e w' => e = .returned (.string (bs (numB 4 n))) ∧ Below w.heap.size w w' := by
  go_enter Tryz.func51, Tryz.ntmps51
  go_wp2_with fail
  refine (put_4 n hn _).mono ?_
  rintro e w1 ⟨rfl, hb⟩
  go_wp2
  go_ret
  exact ⟨rfl, hb⟩
theorem num_1i {x : Int} (h0 : 0 ≤ x) (h1 : x < 256) (w : World) : Calls Tryz.prog 51 #[.int .i64 1, .int .i64 x] w fun e w' => e = .returned (.string (bs (numB 1 x.toNat))) ∧ Below w.heap.size w w' := by
  obtain ⟨n, rfl⟩ := Int.eq_ofNat_of_zero_le h0
  exact num_1 n (by omega) w
theorem num_2i {x : Int} (h0 : 0 ≤ x) (h1 : x < 65536) (w : World) : Calls Tryz.prog 51 #[.int .i64 2, .int .i64 x] w fun e w' => e = .returned (.string (bs (numB 2 x.toNat))) ∧ Below w.heap.size w w' := by
  obtain ⟨n, rfl⟩ := Int.eq_ofNat_of_zero_le h0
  exact num_2 n (by omega) w
theorem num_4i {x : Int} (h0 : 0 ≤ x) (h1 : x < 4294967296) (w : World) : Calls Tryz.prog 51 #[.int .i64 4, .int .i64 x] w fun e w' => e = .returned (.string (bs (numB 4 x.toNat))) ∧ Below w.heap.size w w' := by
  obtain ⟨n, rfl⟩ := Int.eq_ofNat_of_zero_le h0
  exact num_4 n (by omega) w
end Go.Proofs.YtngdebpaheejlaaGreatDoor
namespace Go.Proofs.YtngdebpaheejlaaGreatDoor
open Go.RowKit
set_option linter.unusedSimpArgs false
set_option linter.unusedVariables false
theorem zz_bs : (⟨#[0, 0]⟩ : ByteArray) = bs [0, 0] := rfl
attribute [local go_sem] bs_app bs_size bs_bt bs_extract numB_len zz_bs
theorem opts_c (w : World) : Calls Tryz.prog 93 #[.string (bs [])] w fun e w' => e = .returned (.bool true) ∧ w = w' := by
  go_enter Tryz.func93, Tryz.ntmps93
  go_wp2_with fail
  go_loopw [3] (fun i wr => i = .int .i64 0 ∧ w = wr) (fun i _ => 0)
  case atStart => exact ⟨rfl, rfl⟩
  case round =>
    obtain ⟨rfl, rfl⟩ := hrel
    go_wp2_with fail
    go_ret
    exact ⟨rfl, rfl⟩
theorem in_c (n m : Int) (h1 : 0 ≤ n) (h2 : n ≤ m) (w : World) : Calls Tryz.prog 94 #[.int .i64 n, .int .i64 m] w fun e w' => e = .returned (.bool true) ∧ w = w' := by
  go_enter Tryz.func94, Tryz.ntmps94
  go_wp2
  go_ret
  exact ⟨rfl, rfl⟩
set_option maxRecDepth 100000 in
set_option maxHeartbeats 800000 in
theorem right_c (id ttl proto src dst : Nat) (h1 : id ≤ 65535) (h2 : ttl ≤ 255) (h3 : proto ≤ 255) (w : World) : Calls Tryz.prog 50 #[.agg #[.int .i64 0, .int .i64 id, .int .i64 0, .int .i64 0, .int .i64 ttl, .int .i64 proto, .int .u32 src, .int .u32 dst, .string (bs [])]] w fun e w' => e = .returned (.bool true) ∧ Below w.heap.size w w' := by
  have HI := Lib.hid in_c
  go_enter Tryz.func50, Tryz.ntmps50
  go_wp2_with fail
  refine (opts_c _).mono ?_
  rintro e w1 ⟨rfl, rfl⟩
  go_wp2_with (go_at_call 94; refine (HI.out _ _ (by omega) (by omega) _).mono ?_; rintro e w' ⟨rfl, rfl⟩)
  go_ret
  exact ⟨rfl, (Below.refl _ _).alloc (Nat.le_refl _) _⟩
/-- A packet's header ahead of its check, and behind it. -/
def hdA (id ttl proto n : Nat) : List Nat := numB 1 69 ++ (numB 1 0 ++ (numB 2 (20 + n) ++ (numB 2 id ++ (numB 2 0 ++ (numB 1 ttl ++ numB 1 proto)))))
def hdB (src dst : Nat) : List Nat := numB 4 src ++ numB 4 dst
def chk (l : List Nat) : Nat := 65535 - fold16 (sumW l)
def ipB (id ttl proto src dst : Nat) (body : List Nat) : List Nat := hdA id ttl proto body.length ++ (numB 2 (chk (hdA id ttl proto body.length ++ ([0, 0] ++ hdB src dst))) ++ (hdB src dst ++ body))
theorem byt_app {a b : List Nat} (h1 : Byt a) (h2 : Byt b) : Byt (a ++ b) := fun x hx => by
  rcases List.mem_append.1 hx with q | q
  · exact h1 x q
  · exact h2 x q
theorem hdA_byt (id ttl proto n : Nat) : Byt (hdA id ttl proto n) := by
  unfold hdA
  exact byt_app (numB_byt _ _) (byt_app (numB_byt _ _) (byt_app (numB_byt _ _) (byt_app (numB_byt _ _) (byt_app (numB_byt _ _) (byt_app (numB_byt _ _) (numB_byt _ _))))))
theorem hdB_byt (src dst : Nat) : Byt (hdB src dst) := byt_app (numB_byt _ _) (numB_byt _ _)
theorem hdA_len (id ttl proto n : Nat) : (hdA id ttl proto n).length = 10 := by simp [hdA, numB_len]
theorem hdB_len (src dst : Nat) : (hdB src dst).length = 8 := by simp [hdB, numB_len]
theorem zz_byt : Byt [0, 0] := by intro x hx; simp at hx; omega
set_option maxRecDepth 100000 in
set_option maxHeartbeats 1600000 in
theorem build4_c (id ttl proto src dst : Nat) (body : List Nat) (hby : Byt body) (hlen : body.length ≤ 1000) (h1 : id ≤ 65535) (h2 : ttl ≤ 255) (h3 : proto ≤ 255) (h4 : src < 4294967296) (h5 : dst < 4294967296) (w : World) :
    Calls Tryz.prog 24 #[.agg #[.int .i64 0, .int .i64 id, .int .i64 0, .int .i64 0, .int .i64 ttl, .int .i64 proto, .int .u32 src, .int .u32 dst, .string (bs [])], .string (bs body)] w fun e w' => e = .returned (.tuple #[.string (bs (ipB id ttl proto src dst body)), .int .i64 0]) ∧ Below w.heap.size w w' := by
  have HR := Lib.hid (right_c id ttl proto src dst h1 h2 h3)
  have N1 := Lib.hid num_1
  have N2 := Lib.hid num_2
  have N4 := Lib.hid num_4
  go_enter Tryz.func24, Tryz.ntmps24
  go_wp2_with fail
  refine (HR.out _).mono ?_
  rintro e w1 ⟨rfl, hb1⟩
  have HX : Has w1 w.heap.size 86 #[.int .i64 0, .int .i64 id, .int .i64 0, .int .i64 0, .int .i64 ttl, .int .i64 proto, .int .u32 src, .int .u32 dst, .string (bs [])] := (Has.new w _ _).below hb1
  have c8 := HX.cell 8
  simp at c8
  go_wp2_with fail
  have g0 : ∀ V : Gr w1, V.1.cell? ⟨w.heap.size, 0, none⟩ = some (.int .i64 0) := fun V => (V.has HX).cell 0
  have g1 : ∀ V : Gr w1, V.1.cell? ⟨w.heap.size, 1, none⟩ = some (.int .i64 id) := fun V => (V.has HX).cell 1
  have g2 : ∀ V : Gr w1, V.1.cell? ⟨w.heap.size, 2, none⟩ = some (.int .i64 0) := fun V => (V.has HX).cell 2
  have g3 : ∀ V : Gr w1, V.1.cell? ⟨w.heap.size, 3, none⟩ = some (.int .i64 0) := fun V => (V.has HX).cell 3
  have g4 : ∀ V : Gr w1, V.1.cell? ⟨w.heap.size, 4, none⟩ = some (.int .i64 ttl) := fun V => (V.has HX).cell 4
  have g5 : ∀ V : Gr w1, V.1.cell? ⟨w.heap.size, 5, none⟩ = some (.int .i64 proto) := fun V => (V.has HX).cell 5
  have g6 : ∀ V : Gr w1, V.1.cell? ⟨w.heap.size, 6, none⟩ = some (.int .u32 src) := fun V => (V.has HX).cell 6
  have g7 : ∀ V : Gr w1, V.1.cell? ⟨w.heap.size, 7, none⟩ = some (.int .u32 dst) := fun V => (V.has HX).cell 7
  have g8 : ∀ V : Gr w1, V.1.cell? ⟨w.heap.size, 8, none⟩ = some (.string (bs [])) := fun V => (V.has HX).cell 8
  refine wp_region_grows (by kernel_rfl) (by kernel_rfl) ?_
  repeat (go_big_quiet_step (first
    | (go_at_call 51; with_reducible refine grows_call _ (num_1i ?_ ?_ _) <;> omega)
    | (go_at_call 51; with_reducible refine grows_call _ (num_2i ?_ ?_ _) <;> omega)))
  refine wpQuiet_nil ?_
  intro w2 hw'
  have hb2 : Below w1.heap.size w1 w2 := by obtain ⟨V, rfl⟩ := hw'; exact V.2
  clear hw'
  have HX2 := HX.below hb2
  obtain ⟨A, hA⟩ : ∃ A, hdA id ttl proto body.length = A := ⟨_, rfl⟩
  rw [show numB 1 69 ++ (numB 1 0 ++ (numB 2 (20 + body.length) ++ (numB 2 id ++ (numB 2 0 ++ (numB 1 ttl ++ numB 1 proto))))) = A from hA]
  have lA : A.length = 10 := by rw [← hA]; exact hdA_len _ _ _ _
  have bA : Hid (Byt A) := by show Byt A; rw [← hA]; exact hdA_byt _ _ _ _
  have HA := Lib.hid hA
  clear g0 g1 g2 g3 g4 g5 g6 g7 g8 hA HX c8
  have g6 : ∀ V : Gr w2, V.1.cell? ⟨w.heap.size, 6, none⟩ = some (.int .u32 src) := fun V => (V.has HX2).cell 6
  have g7 : ∀ V : Gr w2, V.1.cell? ⟨w.heap.size, 7, none⟩ = some (.int .u32 dst) := fun V => (V.has HX2).cell 7
  have g8 : ∀ V : Gr w2, V.1.cell? ⟨w.heap.size, 8, none⟩ = some (.string (bs [])) := fun V => (V.has HX2).cell 8
  go_wp2_with fail
  refine wp_region_grows (by kernel_rfl) (by kernel_rfl) ?_
  repeat (go_big_quiet_step (first | (go_at_call 51; with_reducible refine grows_call _ (num_4i ?_ ?_ _) <;> omega)))
  refine wpQuiet_nil ?_
  intro w3 hw'
  have hb3 : Below w2.heap.size w2 w3 := by obtain ⟨V, rfl⟩ := hw'; exact V.2
  clear hw'
  clear g6 g7 g8
  go_wp2_with fail
  have hby1 : Byt (A ++ 0 :: 0 :: (numB 4 src ++ numB 4 dst)) := byt_app bA.out (byt_app zz_byt (hdB_byt src dst))
  refine (rcheck_c (A ++ 0 :: 0 :: (numB 4 src ++ numB 4 dst)) hby1 (by simp [lA, numB_len]) _).mono ?_
  rintro e w4 ⟨rfl, hb4⟩
  obtain ⟨c, hc⟩ : ∃ c, chk (A ++ ([0, 0] ++ hdB src dst)) = c := ⟨_, rfl⟩
  rw [show 65535 - fold16 (sumW (A ++ 0 :: 0 :: (numB 4 src ++ numB 4 dst))) = c from hc]
  have hc2 : c ≤ 65535 := by rw [← hc]; unfold chk; omega
  have HC := Lib.hid hc
  clear hc hby1
  go_wp2_with fail
  refine (num_2i (by omega) (by omega) _).mono ?_
  rintro e w5 ⟨rfl, hb5⟩
  go_wp2_with fail
  go_ret2
  refine ⟨?_, ((((((Below.refl _ _).alloc (Nat.le_refl _) _).trans (hb1.mono (by simp))).trans (hb2.mono ?_)).trans (hb3.mono ?_)).trans (hb4.mono ?_)).trans (hb5.mono ?_)⟩
  · unfold ipB
    rw [HA.out, HC.out]
    simp [hdB]
  all_goals
    have q1 := hb1.size
    have q2 := hb2.size
    have q3 := hb3.size
    have q4 := hb4.size
    simp at q1
    omega
end Go.Proofs.YtngdebpaheejlaaGreatDoor
namespace Go.Proofs.YtngdebpaheejlaaGreatDoor
open Go.RowKit
set_option linter.unusedSimpArgs false
set_option linter.unusedVariables false
theorem z_bs : (⟨#[0]⟩ : ByteArray) = bs [0] := rfl
attribute [local go_sem] bs_app bs_size bs_bt bs_extract numB_len zz_bs z_bs
theorem word_c (n : Int) (h1 : 0 ≤ n) (h2 : n ≤ 65535) (w : World) : Calls Tryz.prog 159 #[.int .i64 n] w fun e w' => e = .returned (.bool true) ∧ w = w' := by
  go_enter Tryz.func159, Tryz.ntmps159
  go_wp2
  go_ret
  exact ⟨rfl, rfl⟩
theorem num5_2 {x : Int} (h0 : 0 ≤ x) (h1 : x < 65536) (w : World) : Calls Tryz.prog 98 #[.int .i64 2, .int .i64 x] w fun e w' => e = .returned (.string (bs (numB 2 x.toNat))) ∧ Below w.heap.size w w' := by
  go_enter Tryz.func98, Tryz.ntmps98
  go_wp2_with fail
  refine (num_2i h0 h1 _).mono ?_
  rintro e w1 ⟨rfl, hb⟩
  go_wp2
  go_ret
  exact ⟨rfl, hb⟩
theorem num5_4 {x : Int} (h0 : 0 ≤ x) (h1 : x < 4294967296) (w : World) : Calls Tryz.prog 98 #[.int .i64 4, .int .i64 x] w fun e w' => e = .returned (.string (bs (numB 4 x.toNat))) ∧ Below w.heap.size w w' := by
  go_enter Tryz.func98, Tryz.ntmps98
  go_wp2_with fail
  refine (num_4i h0 h1 _).mono ?_
  rintro e w1 ⟨rfl, hb⟩
  go_wp2
  go_ret
  exact ⟨rfl, hb⟩
set_option maxRecDepth 100000 in
set_option maxHeartbeats 800000 in
theorem right5_c (sp dp fl : Nat) (h1 : sp ≤ 65535) (h2 : dp ≤ 65535) (h3 : fl ≤ 4095) (w : World) : Calls Tryz.prog 97 #[.agg #[.int .i64 sp, .int .i64 dp, .int .u32 7, .int .u32 0, .int .i64 fl, .int .i64 9, .int .i64 0, .string (bs [])]] w fun e w' => e = .returned (.bool true) ∧ Below w.heap.size w w' := by
  have HI := Lib.hid word_c
  go_enter Tryz.func97, Tryz.ntmps97
  go_wp2_with fail
  refine (opts_c _).mono ?_
  rintro e w1 ⟨rfl, rfl⟩
  go_wp2_with (go_at_call 159; refine (HI.out _ (by omega) (by omega) _).mono ?_; rintro e w' ⟨rfl, rfl⟩)
  go_ret
  exact ⟨rfl, (Below.refl _ _).alloc (Nat.le_refl _) _⟩
/-- A TCP segment without a check. -/
def tcp0 (sp dp fl : Nat) : List Nat := numB 2 sp ++ (numB 2 dp ++ (numB 4 7 ++ (numB 4 0 ++ (numB 2 (20480 + fl) ++ (numB 2 9 ++ ([0, 0] ++ numB 2 0))))))
set_option maxRecDepth 100000 in
set_option maxHeartbeats 1600000 in
theorem build5_c (sp dp fl : Nat) (h1 : sp ≤ 65535) (h2 : dp ≤ 65535) (h3 : fl ≤ 4095) (w : World) : Calls Tryz.prog 53 #[.agg #[.int .i64 sp, .int .i64 dp, .int .u32 7, .int .u32 0, .int .i64 fl, .int .i64 9, .int .i64 0, .string (bs [])], .string (bs [])] w fun e w' => e = .returned (.tuple #[.string (bs (tcp0 sp dp fl)), .int .i64 0]) ∧ Below w.heap.size w w' := by
  have HR := Lib.hid (right5_c sp dp fl h1 h2 h3)
  go_enter Tryz.func53, Tryz.ntmps53
  go_wp2_with fail
  refine (HR.out _).mono ?_
  rintro e w1 ⟨rfl, hb1⟩
  have HX : Has w1 w.heap.size 159 #[.int .i64 sp, .int .i64 dp, .int .u32 7, .int .u32 0, .int .i64 fl, .int .i64 9, .int .i64 0, .string (bs [])] := (Has.new w _ _).below hb1
  have c7 := HX.cell 7
  simp at c7
  go_wp2_with fail
  have g0 : ∀ V : Gr w1, V.1.cell? ⟨w.heap.size, 0, none⟩ = some (.int .i64 sp) := fun V => (V.has HX).cell 0
  have g1 : ∀ V : Gr w1, V.1.cell? ⟨w.heap.size, 1, none⟩ = some (.int .i64 dp) := fun V => (V.has HX).cell 1
  have g2 : ∀ V : Gr w1, V.1.cell? ⟨w.heap.size, 2, none⟩ = some (.int .u32 7) := fun V => (V.has HX).cell 2
  have g3 : ∀ V : Gr w1, V.1.cell? ⟨w.heap.size, 3, none⟩ = some (.int .u32 0) := fun V => (V.has HX).cell 3
  have g4 : ∀ V : Gr w1, V.1.cell? ⟨w.heap.size, 4, none⟩ = some (.int .i64 fl) := fun V => (V.has HX).cell 4
  have g5 : ∀ V : Gr w1, V.1.cell? ⟨w.heap.size, 5, none⟩ = some (.int .i64 9) := fun V => (V.has HX).cell 5
  have g6 : ∀ V : Gr w1, V.1.cell? ⟨w.heap.size, 6, none⟩ = some (.int .i64 0) := fun V => (V.has HX).cell 6
  have g7 : ∀ V : Gr w1, V.1.cell? ⟨w.heap.size, 7, none⟩ = some (.string (bs [])) := fun V => (V.has HX).cell 7
  refine wp_region_grows (by kernel_rfl) (by kernel_rfl) ?_
  repeat (go_big_quiet_step (first
    | (go_at_call 98; with_reducible refine grows_call _ (num5_2 ?_ ?_ _) <;> omega)
    | (go_at_call 98; with_reducible refine grows_call _ (num5_4 ?_ ?_ _) <;> omega)))
  refine wpQuiet_nil ?_
  intro w2 hw'
  have hb2 : Below w1.heap.size w1 w2 := by obtain ⟨V, rfl⟩ := hw'; exact V.2
  clear hw' g0 g1 g2 g3 g4 g5 g6 g7
  go_wp2_with fail
  go_ret2
  refine ⟨?_, ((Below.refl _ _).alloc (Nat.le_refl _) _).trans ((hb1.mono (by simp)).trans (hb2.mono (by have := hb1.size; simp at this; omega)))⟩
  simp [tcp0]
/-- A datagram without a check. -/
def udp0 (sp dp : Nat) : List Nat := numB 2 sp ++ (numB 2 dp ++ (numB 2 8 ++ [0, 0]))
set_option maxRecDepth 100000 in
set_option maxHeartbeats 1600000 in
theorem build6_c (sp dp : Nat) (h1 : sp ≤ 65535) (h2 : dp ≤ 65535) (w : World) : Calls Tryz.prog 55 #[.int .i64 sp, .int .i64 dp, .string (bs [])] w fun e w' => e = .returned (.tuple #[.string (bs (udp0 sp dp)), .int .i64 0]) ∧ Below w.heap.size w w' := by
  go_enter Tryz.func55, Tryz.ntmps55
  go_wp2_with fail
  refine (num_2i (by omega) (by omega) _).mono ?_
  rintro e w1 ⟨rfl, hb1⟩
  go_wp2_with fail
  refine (num_2i (by omega) (by omega) _).mono ?_
  rintro e w2 ⟨rfl, hb2⟩
  go_wp2_with fail
  refine (num_2i (by omega) (by omega) _).mono ?_
  rintro e w3 ⟨rfl, hb3⟩
  go_wp2_with fail
  go_ret2
  refine ⟨by simp [udp0], (hb1.trans (hb2.mono ?_)).trans (hb3.mono ?_)⟩
  all_goals
    have q1 := hb1.size
    have q2 := hb2.size
    omega
theorem place_6 (w : World) : Calls Tryz.prog 100 #[.int .i64 6] w fun e w' => e = .returned (.tuple #[.int .i64 16, .bool true]) ∧ w = w' := by
  go_enter Tryz.func100, Tryz.ntmps100
  go_wp2
  go_ret2
  exact ⟨rfl, rfl⟩
theorem place_17 (w : World) : Calls Tryz.prog 100 #[.int .i64 17] w fun e w' => e = .returned (.tuple #[.int .i64 6, .bool true]) ∧ w = w' := by
  go_enter Tryz.func100, Tryz.ntmps100
  go_wp2
  go_ret2
  exact ⟨rfl, rfl⟩
def hd8 (proto src dst n : Nat) : List Nat := numB 4 src ++ (numB 4 dst ++ ([0] ++ (numB 1 proto ++ numB 2 n)))
set_option maxRecDepth 100000 in
set_option maxHeartbeats 1600000 in
theorem head8_c (proto src dst n : Nat) (h1 : proto ≤ 255) (h2 : src < 4294967296) (h3 : dst < 4294967296) (h4 : n ≤ 65535) (w : World) : Calls Tryz.prog 161 #[.int .i64 proto, .int .u32 src, .int .u32 dst, .int .i64 n] w fun e w' => e = .returned (.string (bs (hd8 proto src dst n))) ∧ Below w.heap.size w w' := by
  have hm : (n : Int) % 65536 = n := by omega
  go_enter Tryz.func161, Tryz.ntmps161
  go_wp2_with fail
  refine (num_4i (by omega) (by omega) _).mono ?_
  rintro e w1 ⟨rfl, hb1⟩
  go_wp2_with fail
  refine (num_4i (by omega) (by omega) _).mono ?_
  rintro e w2 ⟨rfl, hb2⟩
  go_wp2_with fail
  refine (num_1i (by omega) (by omega) _).mono ?_
  rintro e w3 ⟨rfl, hb3⟩
  go_wp2_with fail
  refine (num_2i (by omega) (by omega) _).mono ?_
  rintro e w4 ⟨rfl, hb4⟩
  go_wp2_with fail
  go_ret
  refine ⟨by simp [hd8], ((hb1.trans (hb2.mono ?_)).trans (hb3.mono ?_)).trans (hb4.mono ?_)⟩
  all_goals
    have q1 := hb1.size
    have q2 := hb2.size
    have q3 := hb3.size
    omega
end Go.Proofs.YtngdebpaheejlaaGreatDoor
namespace Go.Proofs.YtngdebpaheejlaaGreatDoor
open Go.RowKit
set_option linter.unusedSimpArgs false
set_option linter.unusedVariables false
attribute [local go_sem] bs_app bs_size bs_bt bs_extract numB_len zz_bs z_bs
theorem results4 {fn : Func} {t u v x : Tmp} (h : fn.results = #[.tmp t, .tmp u, .tmp v, .tmp x]) (tmps : Array Value) (P : Program) (w : World) :
    (results fn tmps).run P w = .ok (.tuple #[tmps.getD t undef, tmps.getD u undef, tmps.getD v undef, tmps.getD x undef]) w := by simp [results, h]
set_option maxRecDepth 100000 in
set_option maxHeartbeats 800000 in
theorem parse6_bad (l : List Nat) (hl : Byt l) (h8 : 8 ≤ l.length) (hlen : l.length ≤ 4000) (hm : valAt l 4 2 < 8 ∨ l.length < valAt l 4 2) (w : World) :
    Calls Tryz.prog 211 #[.string (bs l)] w fun e w' => e = .returned (.tuple #[.int .i64 0, .int .i64 0, .string (bs []), .int .i64 5]) ∧ Below w.heap.size w w' := by
  have HG := Lib.hid (fun a h W => rget_c l hl a 2 (by omega) (by omega) hlen h W)
  obtain ⟨m, hmm⟩ : ∃ m, valAt l 4 2 = m := ⟨_, rfl⟩
  have G4 := Lib.hid (HG.out 4 (by omega))
  rw [hmm] at hm G4
  clear hmm
  go_enter Tryz.func211, Tryz.ntmps211
  go_wp2_with fail
  refine (HG.out 0 (by omega) _).mono ?_
  rintro e w' ⟨rfl, rfl⟩
  go_wp2_with fail
  refine (HG.out 2 (by omega) _).mono ?_
  rintro e w' ⟨rfl, rfl⟩
  go_wp2_with fail
  refine (G4.out _).mono ?_
  rintro e w' ⟨rfl, rfl⟩
  by_cases q : m < 8
  · have qi : (m : Int) < 8 := by omega
    go_wp2_with fail
    refine bodyPost_ret (results4 rfl _ _ _) rfl ?_
    exact ⟨rfl, Below.refl _ _⟩
  · have qi : ¬ (m : Int) < 8 := by omega
    have qj : (l.length : Int) < (m : Int) := by omega
    go_wp2_with fail
    refine bodyPost_ret (results4 rfl _ _ _) rfl ?_
    exact ⟨rfl, Below.refl _ _⟩
set_option maxRecDepth 100000 in
set_option maxHeartbeats 800000 in
theorem parse6_ok (l : List Nat) (hl : Byt l) (m : Nat) (h8 : 8 ≤ m) (hm1 : m ≤ l.length) (hlen : l.length ≤ 4000) (hm : valAt l 4 2 = m) (w : World) :
    Calls Tryz.prog 211 #[.string (bs l)] w fun e w' => e = .returned (.tuple #[.int .i64 (valAt l 0 2 : Nat), .int .i64 (valAt l 2 2 : Nat), .string (bs ((l.take m).drop 8)), .int .i64 0]) ∧ Below w.heap.size w w' := by
  have HG := Lib.hid (fun a h W => rget_c l hl a 2 (by omega) (by omega) hlen h W)
  have G4 := Lib.hid (HG.out 4 (by omega))
  rw [hm] at G4
  clear hm
  go_enter Tryz.func211, Tryz.ntmps211
  go_wp2_with fail
  refine (HG.out 0 (by omega) _).mono ?_
  rintro e w' ⟨rfl, rfl⟩
  go_wp2_with fail
  refine (HG.out 2 (by omega) _).mono ?_
  rintro e w' ⟨rfl, rfl⟩
  go_wp2_with fail
  refine (G4.out _).mono ?_
  rintro e w' ⟨rfl, rfl⟩
  have qi : ¬ (m : Int) < 8 := by omega
  have qj : ¬ (l.length : Int) < (m : Int) := by omega
  go_wp2_with fail
  go_quiet (fail)
  go_wp2_with fail
  refine bodyPost_ret (results4 rfl _ _ _) rfl ?_
  exact ⟨rfl, Below.drN (Below.refl _ _) _⟩
theorem size6_bad (l : List Nat) (hl : Byt l) (h8 : 8 ≤ l.length) (hlen : l.length ≤ 4000) (hm : valAt l 4 2 < 8 ∨ l.length < valAt l 4 2) (w : World) :
    Calls Tryz.prog 194 #[.string (bs l)] w fun e w' => e = .returned (.tuple #[.int .i64 0, .bool false]) ∧ Below w.heap.size w w' := by
  go_enter Tryz.func194, Tryz.ntmps194
  go_wp2_with fail
  refine (parse6_bad l hl h8 hlen hm _).mono ?_
  rintro e w' ⟨rfl, hb⟩
  go_wp2_with fail
  go_ret2
  exact ⟨rfl, hb⟩
theorem size6_ok (l : List Nat) (hl : Byt l) (h8 : 8 ≤ l.length) (hlen : l.length ≤ 4000) (hm : valAt l 4 2 = l.length) (w : World) :
    Calls Tryz.prog 194 #[.string (bs l)] w fun e w' => e = .returned (.tuple #[.int .i64 l.length, .bool true]) ∧ Below w.heap.size w w' := by
  have H := Lib.hid (parse6_ok l hl l.length h8 (Nat.le_refl _) hlen hm w)
  have e1 : ((l.take l.length).drop 8).length = l.length - 8 := by simp
  obtain ⟨b, hb⟩ : ∃ b, (l.take l.length).drop 8 = b := ⟨_, rfl⟩
  rw [hb] at H e1
  clear hb
  go_enter Tryz.func194, Tryz.ntmps194
  go_wp2_with fail
  refine H.out.mono ?_
  rintro e w' ⟨rfl, hb⟩
  have e2 : (8 : Int) + (b.length : Int) = (l.length : Int) := by omega
  go_wp2_with fail
  go_ret2
  exact ⟨by simp; omega, hb⟩
theorem cov_6 (l : List Nat) (hl : Byt l) (h8 : 8 ≤ l.length) (hlen : l.length ≤ 4000) (hm : valAt l 4 2 < 8 ∨ l.length < valAt l 4 2) (w : World) :
    Calls Tryz.prog 160 #[.int .i64 6, .string (bs l)] w fun e w' => e = .returned (.string (bs l)) ∧ Below w.heap.size w w' := by
  go_enter Tryz.func160, Tryz.ntmps160
  go_wp2_with fail
  refine (size6_bad l hl h8 hlen hm _).mono ?_
  rintro e w' ⟨rfl, hb⟩
  go_wp2_with fail
  go_ret
  exact ⟨rfl, hb⟩
theorem cov_17 (l : List Nat) (hl : Byt l) (h8 : 8 ≤ l.length) (hlen : l.length ≤ 4000) (hm : valAt l 4 2 = l.length) (w : World) :
    Calls Tryz.prog 160 #[.int .i64 17, .string (bs l)] w fun e w' => e = .returned (.string (bs l)) ∧ Below w.heap.size w w' := by
  have e1 : (l.take l.length).drop 0 = l := by simp
  have H := Lib.hid (size6_ok l hl h8 hlen hm w)
  obtain ⟨n, hn⟩ : ∃ n, l.length = n := ⟨_, rfl⟩
  rw [hn] at H e1
  go_enter Tryz.func160, Tryz.ntmps160
  go_wp2_with fail
  refine H.out.mono ?_
  rintro e w' ⟨rfl, hb⟩
  go_wp2_with fail
  go_ret
  refine ⟨?_, hb⟩
  first | rfl | (simp [e1]; done) | (rw [← hn]; simp)
/-- A segment's check. -/
def ck8 (proto src dst at_ : Nat) (l : List Nat) : Nat := if proto = 17 ∧ chk (hd8 proto src dst l.length ++ setB l at_ 0) = 0 then 65535 else chk (hd8 proto src dst l.length ++ setB l at_ 0)
theorem chk_le (l : List Nat) : chk l ≤ 65535 := by unfold chk; omega
theorem ck8_le (proto src dst at_ : Nat) (l : List Nat) : ck8 proto src dst at_ l ≤ 65535 := by
  unfold ck8
  have := chk_le (hd8 proto src dst l.length ++ setB l at_ 0)
  split <;> omega
theorem z1_byt : Byt [0] := by intro x hx; simp at hx; omega
theorem hd8_byt (proto src dst n : Nat) : Byt (hd8 proto src dst n) := by
  unfold hd8
  exact byt_app (numB_byt _ _) (byt_app (numB_byt _ _) (byt_app z1_byt (byt_app (numB_byt _ _) (numB_byt _ _))))
theorem hd8_len (proto src dst n : Nat) : (hd8 proto src dst n).length = 12 := by simp [hd8, numB_len]
set_option maxRecDepth 100000 in
set_option maxHeartbeats 1600000 in
theorem check8_c (proto at_ : Nat) (hp : (proto = 6 ∧ at_ = 16) ∨ (proto = 17 ∧ at_ = 6)) (src dst : Nat) (l : List Nat) (hl : Byt l) (h8 : at_ + 2 ≤ l.length) (hlen : l.length ≤ 1500) (h1 : src < 4294967296) (h2 : dst < 4294967296)
    (hpl : ∀ W : World, Calls Tryz.prog 100 #[.int .i64 proto] W fun e w' => e = .returned (.tuple #[.int .i64 at_, .bool true]) ∧ W = w')
    (hcov : ∀ W : World, Calls Tryz.prog 160 #[.int .i64 proto, .string (bs l)] W fun e w' => e = .returned (.string (bs l)) ∧ Below W.heap.size W w') (w : World) :
    Calls Tryz.prog 99 #[.int .i64 proto, .int .u32 src, .int .u32 dst, .string (bs l)] w fun e w' => e = .returned (.tuple #[.int .u16 (ck8 proto src dst at_ l : Nat), .bool true]) ∧ Below w.heap.size w w' := by
  have HP := Lib.hid hpl
  have HC := Lib.hid hcov
  have HS := Lib.hid (rset_c l hl at_ 0 (by omega) (by omega) h8)
  obtain ⟨z, hz⟩ : ∃ z, setB l at_ 0 = z := ⟨_, rfl⟩
  have hzl : z.length = l.length := by rw [← hz]; exact setB_len l at_ 0 h8
  have hzb : Byt z := by rw [← hz]; exact setB_byt hl at_ 0
  have HD := Lib.hid (head8_c proto src dst l.length (by omega) h1 h2 (by omega))
  obtain ⟨hd, hhd⟩ : ∃ hd, hd8 proto src dst l.length = hd := ⟨_, rfl⟩
  have hdl : hd.length = 12 := by rw [← hhd]; exact hd8_len _ _ _ _
  have hdb : Byt hd := by rw [← hhd]; exact hd8_byt _ _ _ _
  have HK := Lib.hid (rcheck_c (hd ++ z) (byt_app hdb hzb) (by simp [hdl, hzl]; omega))
  obtain ⟨c, hc⟩ : ∃ c, chk (hd ++ z) = c := ⟨_, rfl⟩
  have hc2 : c ≤ 65535 := by rw [← hc]; exact chk_le _
  have HF : Hid (ck8 proto src dst at_ l = if proto = 17 ∧ c = 0 then 65535 else c) := by
    show _ = _
    unfold ck8
    rw [hhd, hz, hc]
  rw [show 65535 - fold16 (sumW (hd ++ z)) = c from hc] at HK
  rw [hz] at HS
  rw [hhd] at HD
  clear hz hhd hc hpl hcov hdb hzb
  go_enter Tryz.func99, Tryz.ntmps99
  go_wp2_with fail
  refine (HP.out _).mono ?_
  rintro e w' ⟨rfl, rfl⟩
  go_wp2_with fail
  refine (HC.out _).mono ?_
  rintro e w1 ⟨rfl, hb1⟩
  go_wp2_with fail
  refine (HS.out _).mono ?_
  rintro e w2 ⟨rfl, hb2⟩
  go_wp2_with fail
  refine (HD.out _).mono ?_
  rintro e w3 ⟨rfl, hb3⟩
  go_wp2_with fail
  refine (HK.out _).mono ?_
  rintro e w4 ⟨rfl, hb4⟩
  have q1 := hb1.size
  have q2 := hb2.size
  have q3 := hb3.size
  have FB := Lib.hid (((hb1.trans (hb2.mono q1)).trans (hb3.mono (by omega))).trans (hb4.mono (by omega)))
  by_cases hp17 : proto = 17
  · subst hp17
    by_cases hc0 : c = 0
    · subst hc0
      go_wp2_with fail
      go_ret2
      exact ⟨by rw [HF.out]; rfl, FB.out⟩
    · have hci : ¬ (c : Int) = 0 := by omega
      go_wp2_with fail
      go_ret2
      exact ⟨by rw [HF.out, if_neg (by omega)]; rfl, FB.out⟩
  · have hpi : ¬ (proto : Int) = 17 := by omega
    go_wp2_with fail
    go_ret2
    exact ⟨by rw [HF.out, if_neg (by omega)]; rfl, FB.out⟩
/-- A segment with its check. -/
def fillB (proto src dst at_ : Nat) (l : List Nat) : List Nat := setB l at_ (ck8 proto src dst at_ l)
theorem fill8_c (proto at_ : Nat) (hp : (proto = 6 ∧ at_ = 16) ∨ (proto = 17 ∧ at_ = 6)) (src dst : Nat) (l : List Nat) (hl : Byt l) (h8 : at_ + 2 ≤ l.length) (hlen : l.length ≤ 1500) (h1 : src < 4294967296) (h2 : dst < 4294967296)
    (hpl : ∀ W : World, Calls Tryz.prog 100 #[.int .i64 proto] W fun e w' => e = .returned (.tuple #[.int .i64 at_, .bool true]) ∧ W = w')
    (hcov : ∀ W : World, Calls Tryz.prog 160 #[.int .i64 proto, .string (bs l)] W fun e w' => e = .returned (.string (bs l)) ∧ Below W.heap.size W w') (w : World) :
    Calls Tryz.prog 54 #[.int .i64 proto, .int .u32 src, .int .u32 dst, .string (bs l)] w fun e w' => e = .returned (.tuple #[.string (bs (fillB proto src dst at_ l)), .bool true]) ∧ Below w.heap.size w w' := by
  have HP := Lib.hid hpl
  have HC := Lib.hid (check8_c proto at_ hp src dst l hl h8 hlen h1 h2 hpl hcov)
  have hck := ck8_le proto src dst at_ l
  have HS := Lib.hid (rset_c l hl at_ (ck8 proto src dst at_ l) (by omega) (by omega) h8)
  obtain ⟨c, hc⟩ : ∃ c, ck8 proto src dst at_ l = c := ⟨_, rfl⟩
  have HF : Hid (fillB proto src dst at_ l = setB l at_ c) := by show _ = _; unfold fillB; rw [hc]
  rw [hc] at HC HS hck
  clear hc hpl hcov
  go_enter Tryz.func54, Tryz.ntmps54
  go_wp2_with fail
  refine (HC.out _).mono ?_
  rintro e w1 ⟨rfl, hb1⟩
  go_wp2_with fail
  refine (HP.out _).mono ?_
  rintro e w' ⟨rfl, rfl⟩
  go_wp2_with fail
  refine (HS.out _).mono ?_
  rintro e w2 ⟨rfl, hb2⟩
  go_wp2_with fail
  go_ret2
  rw [HF.out]
  exact ⟨rfl, hb1.trans (hb2.mono hb1.size)⟩
theorem udp0_byt (sp dp : Nat) : Byt (udp0 sp dp) := byt_app (numB_byt _ _) (byt_app (numB_byt _ _) (byt_app (numB_byt _ _) zz_byt))
theorem udp0_len (sp dp : Nat) : (udp0 sp dp).length = 8 := by simp [udp0, numB_len]
theorem udp0_val (sp dp : Nat) : valAt (udp0 sp dp) 4 2 = (udp0 sp dp).length := by
  rw [udp0_len]
  simp [udp0, valAt, bt, numB, List.range_succ]
theorem tcp0_byt (sp dp fl : Nat) : Byt (tcp0 sp dp fl) := by
  unfold tcp0
  exact byt_app (numB_byt _ _) (byt_app (numB_byt _ _) (byt_app (numB_byt _ _) (byt_app (numB_byt _ _) (byt_app (numB_byt _ _) (byt_app (numB_byt _ _) (byt_app zz_byt (numB_byt _ _)))))))
theorem tcp0_len (sp dp fl : Nat) : (tcp0 sp dp fl).length = 20 := by simp [tcp0, numB_len]
theorem tcp0_val (sp dp fl : Nat) : valAt (tcp0 sp dp fl) 4 2 < 8 := by
  simp [tcp0, valAt, bt, numB, List.range_succ]
/-- A datagram, a TCP segment, of some ends. -/
def segU (src dst sp dp : Nat) : List Nat := fillB 17 src dst 6 (udp0 sp dp)
def segT (src dst sp dp fl : Nat) : List Nat := fillB 6 src dst 16 (tcp0 sp dp fl)
def makeV (kind src dst sp dp fl ttl : Nat) : Value := .agg #[.int .u8 kind, .int .u32 src, .int .u32 dst, .int .u16 sp, .int .u16 dp, .int .u8 fl, .int .u8 ttl, .string (bs []), .bool false, .int .u32 0, .int .u32 0]
theorem segU_byt (src dst sp dp : Nat) : Byt (segU src dst sp dp) := setB_byt (udp0_byt _ _) _ _
theorem segT_byt (src dst sp dp fl : Nat) : Byt (segT src dst sp dp fl) := setB_byt (tcp0_byt _ _ _) _ _
theorem segU_len (src dst sp dp : Nat) : (segU src dst sp dp).length = 8 := by
  unfold segU fillB
  rw [setB_len _ _ _ (by rw [udp0_len]; decide), udp0_len]
theorem segT_len (src dst sp dp fl : Nat) : (segT src dst sp dp fl).length = 20 := by
  unfold segT fillB
  rw [setB_len _ _ _ (by rw [tcp0_len]; decide), tcp0_len]
set_option maxRecDepth 100000 in
set_option maxHeartbeats 1600000 in
theorem segment_u (kind src dst sp dp fl ttl : Nat) (h1 : src < 4294967296) (h2 : dst < 4294967296) (h3 : sp ≤ 65535) (h4 : dp ≤ 65535) (w : World) :
    Calls Tryz.prog 25 #[makeV kind src dst sp dp fl ttl, .int .i64 17] w fun e w' => e = .returned (.string (bs (segU src dst sp dp))) ∧ Below w.heap.size w w' := by
  have HB := Lib.hid (build6_c sp dp h3 h4)
  have HF := Lib.hid (fill8_c 17 6 (.inr ⟨rfl, rfl⟩) src dst (udp0 sp dp) (udp0_byt _ _) (by rw [udp0_len]; decide) (by rw [udp0_len]; decide) h1 h2 place_17 (cov_17 _ (udp0_byt _ _) (by rw [udp0_len]; decide) (by rw [udp0_len]; decide) (udp0_val _ _)))
  have HX := Lib.hid (Has.new w #[.int .u8 kind, .int .u32 src, .int .u32 dst, .int .u16 sp, .int .u16 dp, .int .u8 fl, .int .u8 ttl, .string (bs []), .bool false, .int .u32 0, .int .u32 0] 36)
  unfold makeV
  go_enter Tryz.func25, Tryz.ntmps25
  go_wp2_with fail
  refine (HB.out _).mono ?_
  rintro e w1 ⟨rfl, hb1⟩
  have HX1 := HX.out.below hb1
  have x8 := HX1.cell 8
  have x1 := HX1.cell 1
  have x2 := HX1.cell 2
  simp at x8 x1 x2
  go_wp2_with fail
  refine (HF.out _).mono ?_
  rintro e w2 ⟨rfl, hb2⟩
  go_wp2_with fail
  go_ret
  exact ⟨rfl, (((Below.refl _ _).alloc (Nat.le_refl _) _).trans (hb1.mono (by simp))).trans (hb2.mono (by have := hb1.size; simp at this; omega))⟩
set_option maxRecDepth 100000 in
set_option maxHeartbeats 1600000 in
theorem segment_t (kind src dst sp dp fl ttl : Nat) (h1 : src < 4294967296) (h2 : dst < 4294967296) (h3 : sp ≤ 65535) (h4 : dp ≤ 65535) (h5 : fl < 64) (w : World) :
    Calls Tryz.prog 25 #[makeV kind src dst sp dp fl ttl, .int .i64 6] w fun e w' => e = .returned (.string (bs (segT src dst sp dp fl))) ∧ Below w.heap.size w w' := by
  have HB := Lib.hid (build5_c sp dp fl h3 h4 (by omega))
  have hm : (fl : Int) % 64 = fl := by omega
  have HF := Lib.hid (fill8_c 6 16 (.inl ⟨rfl, rfl⟩) src dst (tcp0 sp dp fl) (tcp0_byt _ _ _) (by rw [tcp0_len]; decide) (by rw [tcp0_len]; decide) h1 h2 place_6 (cov_6 _ (tcp0_byt _ _ _) (by rw [tcp0_len]; decide) (by rw [tcp0_len]; decide) (.inl (tcp0_val _ _ _))))
  have HX := Lib.hid (Has.new w #[.int .u8 kind, .int .u32 src, .int .u32 dst, .int .u16 sp, .int .u16 dp, .int .u8 fl, .int .u8 ttl, .string (bs []), .bool false, .int .u32 0, .int .u32 0] 36)
  unfold makeV
  go_enter Tryz.func25, Tryz.ntmps25
  go_wp2_with fail
  refine (HB.out _).mono ?_
  rintro e w1 ⟨rfl, hb1⟩
  have HX1 := HX.out.below hb1
  have x1 := HX1.cell 1
  have x2 := HX1.cell 2
  simp at x1 x2
  go_wp2_with fail
  refine (HF.out _).mono ?_
  rintro e w2 ⟨rfl, hb2⟩
  go_wp2_with fail
  go_ret
  exact ⟨rfl, (((Below.refl _ _).alloc (Nat.le_refl _) _).trans (hb1.mono (by simp))).trans (hb2.mono (by have := hb1.size; simp at this; omega))⟩
end Go.Proofs.YtngdebpaheejlaaGreatDoor
namespace Go.Proofs.YtngdebpaheejlaaGreatDoor
open Go.RowKit
set_option linter.unusedSimpArgs false
set_option linter.unusedVariables false
attribute [local go_sem] bs_app bs_size bs_bt bs_extract numB_len zz_bs z_bs
set_option maxRecDepth 100000 in
set_option maxHeartbeats 1600000 in
theorem frame_u (src dst sp dp ttl : Nat) (h1 : src < 4294967296) (h2 : dst < 4294967296) (h3 : sp ≤ 65535) (h4 : dp ≤ 65535) (h6 : ttl ≤ 255) (w : World) :
    Calls Tryz.prog 8 #[makeV 1 src dst sp dp 0 ttl] w fun e w' => e = .returned (.string (bs (ipB 5 ttl 17 src dst (segU src dst sp dp)))) ∧ Below w.heap.size w w' := by
  obtain ⟨sg, hsg⟩ : ∃ sg, segU src dst sp dp = sg := ⟨_, rfl⟩
  have HS := Lib.hid (segment_u 1 src dst sp dp 0 ttl h1 h2 h3 h4)
  have HB := Lib.hid (build4_c 5 ttl 17 src dst sg (by rw [← hsg]; exact segU_byt _ _ _ _) (by rw [← hsg, segU_len]; decide) (by omega) h6 (by omega) h1 h2)
  rw [hsg] at HS ⊢
  clear hsg
  unfold makeV at *
  have HX := Has.new w #[.int .u8 1, .int .u32 src, .int .u32 dst, .int .u16 sp, .int .u16 dp, .int .u8 0, .int .u8 ttl, .string (bs []), .bool false, .int .u32 0, .int .u32 0] 36
  go_enter Tryz.func8, Tryz.ntmps8
  go_wp2_with fail
  obtain ⟨w1, hw1⟩ : ∃ w1, w1 = w.alloc (.cells #[.int .u8 1, .int .u32 src, .int .u32 dst, .int .u16 sp, .int .u16 dp, .int .u8 0, .int .u8 ttl, .string (bs []), .bool false, .int .u32 0, .int .u32 0] 36) := ⟨_, rfl⟩
  rw [← hw1] at HX ⊢
  have hb1 : Hid (Below w.heap.size w w1) := by show Below _ _ _; rw [hw1]; exact (Below.refl _ _).alloc (Nat.le_refl _) _
  clear hw1
  have g0 : ∀ V : Gr w1, V.1.cell? ⟨w.heap.size, 0, none⟩ = some (.int .u8 1) := fun V => (V.has HX).cell 0
  have g1 : ∀ V : Gr w1, V.1.cell? ⟨w.heap.size, 1, none⟩ = some (.int .u32 src) := fun V => (V.has HX).cell 1
  have g2 : ∀ V : Gr w1, V.1.cell? ⟨w.heap.size, 2, none⟩ = some (.int .u32 dst) := fun V => (V.has HX).cell 2
  have g3 : ∀ V : Gr w1, V.1.cell? ⟨w.heap.size, 3, none⟩ = some (.int .u16 sp) := fun V => (V.has HX).cell 3
  have g4 : ∀ V : Gr w1, V.1.cell? ⟨w.heap.size, 4, none⟩ = some (.int .u16 dp) := fun V => (V.has HX).cell 4
  have g5 : ∀ V : Gr w1, V.1.cell? ⟨w.heap.size, 5, none⟩ = some (.int .u8 0) := fun V => (V.has HX).cell 5
  have g6 : ∀ V : Gr w1, V.1.cell? ⟨w.heap.size, 6, none⟩ = some (.int .u8 ttl) := fun V => (V.has HX).cell 6
  have g7 : ∀ V : Gr w1, V.1.cell? ⟨w.heap.size, 7, none⟩ = some (.string (bs [])) := fun V => (V.has HX).cell 7
  have g8 : ∀ V : Gr w1, V.1.cell? ⟨w.heap.size, 8, none⟩ = some (.bool false) := fun V => (V.has HX).cell 8
  have g9 : ∀ V : Gr w1, V.1.cell? ⟨w.heap.size, 9, none⟩ = some (.int .u32 0) := fun V => (V.has HX).cell 9
  have g10 : ∀ V : Gr w1, V.1.cell? ⟨w.heap.size, 10, none⟩ = some (.int .u32 0) := fun V => (V.has HX).cell 10
  refine wp_region_grows (by kernel_rfl) (by kernel_rfl) ?_
  repeat (go_big_quiet_step (first
    | (go_at_call 25; with_reducible exact grows_call _ (HS.out _))
    | (go_at_call 24; exact grows_call _ (HB.out _))))
  refine wpQuiet_nil ?_
  intro w2 hw'
  have hb2 : Below w1.heap.size w1 w2 := by obtain ⟨V, rfl⟩ := hw'; exact V.2
  clear hw' g0 g1 g2 g3 g4 g5 g6 g7 g8 g9 g10
  have x0 := (HX.below hb2).cell 0
  simp at x0
  go_wp2_with fail
  go_ret
  exact ⟨rfl, hb1.out.trans (hb2.mono hb1.out.size)⟩
set_option maxRecDepth 100000 in
set_option maxHeartbeats 1600000 in
theorem frame_t (src dst sp dp fl ttl : Nat) (h1 : src < 4294967296) (h2 : dst < 4294967296) (h3 : sp ≤ 65535) (h4 : dp ≤ 65535) (h5 : fl < 64) (h6 : ttl ≤ 255) (w : World) :
    Calls Tryz.prog 8 #[makeV 0 src dst sp dp fl ttl] w fun e w' => e = .returned (.string (bs (ipB 5 ttl 6 src dst (segT src dst sp dp fl)))) ∧ Below w.heap.size w w' := by
  obtain ⟨sg, hsg⟩ : ∃ sg, segT src dst sp dp fl = sg := ⟨_, rfl⟩
  have HS := Lib.hid (segment_t 0 src dst sp dp fl ttl h1 h2 h3 h4 h5)
  have HB := Lib.hid (build4_c 5 ttl 6 src dst sg (by rw [← hsg]; exact segT_byt _ _ _ _ _) (by rw [← hsg, segT_len]; decide) (by omega) h6 (by omega) h1 h2)
  rw [hsg] at HS ⊢
  clear hsg
  unfold makeV at *
  have HX := Has.new w #[.int .u8 0, .int .u32 src, .int .u32 dst, .int .u16 sp, .int .u16 dp, .int .u8 fl, .int .u8 ttl, .string (bs []), .bool false, .int .u32 0, .int .u32 0] 36
  go_enter Tryz.func8, Tryz.ntmps8
  go_wp2_with fail
  obtain ⟨w1, hw1⟩ : ∃ w1, w1 = w.alloc (.cells #[.int .u8 0, .int .u32 src, .int .u32 dst, .int .u16 sp, .int .u16 dp, .int .u8 fl, .int .u8 ttl, .string (bs []), .bool false, .int .u32 0, .int .u32 0] 36) := ⟨_, rfl⟩
  rw [← hw1] at HX ⊢
  have hb1 : Hid (Below w.heap.size w w1) := by show Below _ _ _; rw [hw1]; exact (Below.refl _ _).alloc (Nat.le_refl _) _
  clear hw1
  have g0 : ∀ V : Gr w1, V.1.cell? ⟨w.heap.size, 0, none⟩ = some (.int .u8 0) := fun V => (V.has HX).cell 0
  have g1 : ∀ V : Gr w1, V.1.cell? ⟨w.heap.size, 1, none⟩ = some (.int .u32 src) := fun V => (V.has HX).cell 1
  have g2 : ∀ V : Gr w1, V.1.cell? ⟨w.heap.size, 2, none⟩ = some (.int .u32 dst) := fun V => (V.has HX).cell 2
  have g3 : ∀ V : Gr w1, V.1.cell? ⟨w.heap.size, 3, none⟩ = some (.int .u16 sp) := fun V => (V.has HX).cell 3
  have g4 : ∀ V : Gr w1, V.1.cell? ⟨w.heap.size, 4, none⟩ = some (.int .u16 dp) := fun V => (V.has HX).cell 4
  have g5 : ∀ V : Gr w1, V.1.cell? ⟨w.heap.size, 5, none⟩ = some (.int .u8 fl) := fun V => (V.has HX).cell 5
  have g6 : ∀ V : Gr w1, V.1.cell? ⟨w.heap.size, 6, none⟩ = some (.int .u8 ttl) := fun V => (V.has HX).cell 6
  have g7 : ∀ V : Gr w1, V.1.cell? ⟨w.heap.size, 7, none⟩ = some (.string (bs [])) := fun V => (V.has HX).cell 7
  have g8 : ∀ V : Gr w1, V.1.cell? ⟨w.heap.size, 8, none⟩ = some (.bool false) := fun V => (V.has HX).cell 8
  have g9 : ∀ V : Gr w1, V.1.cell? ⟨w.heap.size, 9, none⟩ = some (.int .u32 0) := fun V => (V.has HX).cell 9
  have g10 : ∀ V : Gr w1, V.1.cell? ⟨w.heap.size, 10, none⟩ = some (.int .u32 0) := fun V => (V.has HX).cell 10
  refine wp_region_grows (by kernel_rfl) (by kernel_rfl) ?_
  repeat (go_big_quiet_step (first
    | (go_at_call 25; with_reducible exact grows_call _ (HS.out _))
    | (go_at_call 24; exact grows_call _ (HB.out _))))
  refine wpQuiet_nil ?_
  intro w2 hw'
  have hb2 : Below w1.heap.size w1 w2 := by obtain ⟨V, rfl⟩ := hw'; exact V.2
  clear hw' g0 g1 g2 g3 g4 g5 g6 g7 g8 g9 g10
  have x0 := (HX.below hb2).cell 0
  simp at x0
  go_wp2_with fail
  go_ret
  exact ⟨rfl, hb1.out.trans (hb2.mono hb1.out.size)⟩
end Go.Proofs.YtngdebpaheejlaaGreatDoor
