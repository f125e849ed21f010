/- TwinPlays: a deed, on both. The walks: what the two tables are is left open. (Printed by genPD.py.) -/
import Derived.Test.YtckbffbjdcnklaaPG
import Derived.Deep.RegionHeld3
import Derived.Deep.DeepCutAuto
namespace Go.Proofs.Ytckbffbjdcnklaa
open Go.RowKit
set_option linter.unusedSimpArgs false
set_option linter.unusedVariables false

/-- The kind of a deed. -/
def deedK (k : Int) : Int := if k < 0 then (-(k + 1)) % 8 else k % 8
section
variable {K : Nat → Prop} {PS : Bool → Bool → World → Prop} {w : World} {tb xb : Nat} {k h b : Int} {a v : ByteArray}
abbrev Kept (K : Nat → Prop) (w w' : World) : Prop := Chg (fun b => ¬ K b) w w'
def boxed (w : World) (k h b : Int) (a v : ByteArray) : World := w.alloc (.cells #[.int .i64 k, .int .i64 h, .string a, .int .i64 b, .string v] 66)
set_option maxRecDepth 100000 in
set_option maxHeartbeats 3200000 in
theorem does_rem (s : Bool) (kk : Int) (hk1 : kk = 3 ∨ kk = 4) (hd : deedK k = kk) (hlo : -9223372036854775808 ≤ k) (hhi : k ≤ 9223372036854775807) (KU : K w.heap.size)
    (HL : ∀ (j : Bool) (W : World), PS false j W → Calls Try.prog 46 #[.pointer (some ⟨tb, 0, none⟩), .int .i64 h] W fun e W' => e = .returned (.bool s) ∧ PS true j W' ∧ Kept K W W')
    (HR : ∀ (i : Bool) (W : World), PS i false W → Calls Try.prog 47 #[.pointer (some ⟨xb, 0, none⟩), .int .i64 h] W fun e W' => e = .returned (.bool s) ∧ PS i true W' ∧ Kept K W W')
    (h0 : PS false false (boxed w k h b a v)) (hdr : ∀ i j W, PS i j W → PS i j W.drew) :
    Calls Try.prog 31 #[.pointer (some ⟨tb, 0, none⟩), .pointer (some ⟨xb, 0, none⟩), .agg #[.int .i64 k, .int .i64 h, .string a, .int .i64 b, .string v]] w fun e w' => e = .returned (.bool true) ∧ PS true true w' ∧ Kept K (boxed w k h b a v) w' := by
  have P0 := h0
  have PD := hdr _ _ _ h0
  have HL' := Lib.hid HL
  have HR' := Lib.hid HR
  have HKU := Lib.hid KU
  have HSW : Hid (∀ W : World, W.heap[w.heap.size]? = (boxed w k h b a v).heap[w.heap.size]? → W.cell? ⟨w.heap.size, 1, none⟩ = some (.int .i64 h)) :=
    fun W e => (show Has W w.heap.size 66 #[.int .i64 k, .int .i64 h, .string a, .int .i64 b, .string v] from e.trans (Has.new _ _ _)).cell 1
  have HBX : Hid (∀ W W' : World, Kept K W W' → w.heap.size < W.heap.size → W'.heap[w.heap.size]? = W.heap[w.heap.size]? ∧ w.heap.size < W'.heap.size) := fun W W' c hl => ⟨c.block _ hl (fun n => n HKU.out), Nat.lt_of_lt_of_le hl c.size⟩
  have HSZ : Hid (w.heap.size < (boxed w k h b a v).heap.size) := by show _ < (w.alloc _).heap.size; simp
  unfold deedK at hd
  unfold boxed at *
  clear HL HR KU h0 hdr
  go_enter Try.func31, Try.ntmps31
  go_upto_if 27 with fail
  go_cut [7] (fun s7 wx => ∃ q : Int, 0 ≤ q ∧ q ≤ 9223372036854775807 ∧ q % 8 = kk ∧ s7 = .int .i64 q ∧ wx = w.alloc (.cells #[.int .i64 k, .int .i64 h, .string a, .int .i64 b, .string v] 66))
  case first =>
    by_cases hK : k < 0
    · rw [if_pos hK] at hd
      have HD := Lib.hid hd
      clear hd
      go_wp2_with fail
      go_meet
      case rel => exact ⟨-(k + 1), by omega, by omega, HD.out, rfl, rfl⟩
    · rw [if_neg hK] at hd
      have HD := Lib.hid hd
      clear hd
      go_wp2_with fail
      go_meet
      case rel => exact ⟨k, by omega, by omega, HD.out, rfl, rfl⟩
  case rest =>
    obtain ⟨q, q0, q1, q2, rfl, rfl⟩ := hcut
    clear hd
    rcases hk1 with rfl | rfl
    all_goals
      clear P0
      go_wp2_with fail
      go_region_held3 (fun W => W.cell? ⟨w.heap.size, 1, none⟩ = some (.int .i64 h))
        (first | exact HSW.out _ rfl | exact HSW.out _ (HBX.out _ _ CA HSZ.out).1 | exact HSW.out _ (HBX.out _ _ CB HSZ.out).1 | exact HSW.out _ ((HBX.out _ _ CE (HBX.out _ _ CA HSZ.out).2).1.trans (HBX.out _ _ CA HSZ.out).1) | exact HSW.out _ ((HBX.out _ _ CC (HBX.out _ _ CB HSZ.out).2).1.trans (HBX.out _ _ CB HSZ.out).1))
        (first
          | (go_at_call 46; first | (refine (HL'.out _ _ PD).mono ?_; rintro e wA ⟨rfl, PA, CA⟩) | (refine (HL'.out _ _ PB).mono ?_; rintro e wC ⟨rfl, PC, CC⟩))
          | (go_at_call 47; first | (refine (HR'.out _ _ PD).mono ?_; rintro e wB ⟨rfl, PB, CB⟩) | (refine (HR'.out _ _ PA).mono ?_; rintro e wE ⟨rfl, PE, CE⟩)))
      all_goals
        first | (have PZ := PE; have CZ : Kept K (w.alloc (.cells #[.int .i64 k, .int .i64 h, .string a, .int .i64 b, .string v] 66)) _ := ((Chg.refl _ _).drew.trans CA).trans CE; clear PE CE PA CA) | (have PZ := PC; have CZ : Kept K (w.alloc (.cells #[.int .i64 k, .int .i64 h, .string a, .int .i64 b, .string v] 66)) _ := ((Chg.refl _ _).drew.trans CB).trans CC; clear PB CB PC CC)
        have FIN := Lib.hid (And.intro PZ CZ)
        clear PZ CZ PD HL' HR' HSW HBX HSZ HKU
        go_wp2
        go_ret
        exact ⟨by simp, FIN.out⟩
set_option maxRecDepth 100000 in
set_option maxHeartbeats 3200000 in
theorem does_set (s : Bool) (kk : Int) (hk1 : kk = 5) (hd : deedK k = kk) (hlo : -9223372036854775808 ≤ k) (hhi : k ≤ 9223372036854775807) (KU : K w.heap.size)
    (HL : ∀ (j : Bool) (W : World), PS false j W → Calls Try.prog 48 #[.pointer (some ⟨tb, 0, none⟩), .int .i64 h, .string v] W fun e W' => e = .returned (.bool s) ∧ PS true j W' ∧ Kept K W W')
    (HR : ∀ (i : Bool) (W : World), PS i false W → Calls Try.prog 49 #[.pointer (some ⟨xb, 0, none⟩), .int .i64 h, .string v] W fun e W' => e = .returned (.bool s) ∧ PS i true W' ∧ Kept K W W')
    (h0 : PS false false (boxed w k h b a v)) (hdr : ∀ i j W, PS i j W → PS i j W.drew) :
    Calls Try.prog 31 #[.pointer (some ⟨tb, 0, none⟩), .pointer (some ⟨xb, 0, none⟩), .agg #[.int .i64 k, .int .i64 h, .string a, .int .i64 b, .string v]] w fun e w' => e = .returned (.bool true) ∧ PS true true w' ∧ Kept K (boxed w k h b a v) w' := by
  have P0 := h0
  have PD := hdr _ _ _ h0
  have HL' := Lib.hid HL
  have HR' := Lib.hid HR
  have HKU := Lib.hid KU
  have HSW : Hid (∀ W : World, W.heap[w.heap.size]? = (boxed w k h b a v).heap[w.heap.size]? → W.cell? ⟨w.heap.size, 1, none⟩ = some (.int .i64 h) ∧ W.cell? ⟨w.heap.size, 4, none⟩ = some (.string v)) :=
    fun W e => ⟨(show Has W w.heap.size 66 #[.int .i64 k, .int .i64 h, .string a, .int .i64 b, .string v] from e.trans (Has.new _ _ _)).cell 1, (show Has W w.heap.size 66 #[.int .i64 k, .int .i64 h, .string a, .int .i64 b, .string v] from e.trans (Has.new _ _ _)).cell 4⟩
  have HBX : Hid (∀ W W' : World, Kept K W W' → w.heap.size < W.heap.size → W'.heap[w.heap.size]? = W.heap[w.heap.size]? ∧ w.heap.size < W'.heap.size) := fun W W' c hl => ⟨c.block _ hl (fun n => n HKU.out), Nat.lt_of_lt_of_le hl c.size⟩
  have HSZ : Hid (w.heap.size < (boxed w k h b a v).heap.size) := by show _ < (w.alloc _).heap.size; simp
  unfold deedK at hd
  unfold boxed at *
  clear HL HR KU h0 hdr
  go_enter Try.func31, Try.ntmps31
  go_upto_if 27 with fail
  go_cut [7] (fun s7 wx => ∃ q : Int, 0 ≤ q ∧ q ≤ 9223372036854775807 ∧ q % 8 = kk ∧ s7 = .int .i64 q ∧ wx = w.alloc (.cells #[.int .i64 k, .int .i64 h, .string a, .int .i64 b, .string v] 66))
  case first =>
    by_cases hK : k < 0
    · rw [if_pos hK] at hd
      have HD := Lib.hid hd
      clear hd
      go_wp2_with fail
      go_meet
      case rel => exact ⟨-(k + 1), by omega, by omega, HD.out, rfl, rfl⟩
    · rw [if_neg hK] at hd
      have HD := Lib.hid hd
      clear hd
      go_wp2_with fail
      go_meet
      case rel => exact ⟨k, by omega, by omega, HD.out, rfl, rfl⟩
  case rest =>
    obtain ⟨q, q0, q1, q2, rfl, rfl⟩ := hcut
    clear hd
    subst hk1
    all_goals
      clear P0
      go_wp2_with fail
      go_region_held3 (fun W => W.cell? ⟨w.heap.size, 1, none⟩ = some (.int .i64 h) ∧ W.cell? ⟨w.heap.size, 4, none⟩ = some (.string v))
        (first | exact HSW.out _ rfl | exact HSW.out _ (HBX.out _ _ CA HSZ.out).1 | exact HSW.out _ (HBX.out _ _ CB HSZ.out).1 | exact HSW.out _ ((HBX.out _ _ CE (HBX.out _ _ CA HSZ.out).2).1.trans (HBX.out _ _ CA HSZ.out).1) | exact HSW.out _ ((HBX.out _ _ CC (HBX.out _ _ CB HSZ.out).2).1.trans (HBX.out _ _ CB HSZ.out).1))
        (first
          | (go_at_call 48; first | (refine (HL'.out _ _ PD).mono ?_; rintro e wA ⟨rfl, PA, CA⟩) | (refine (HL'.out _ _ PB).mono ?_; rintro e wC ⟨rfl, PC, CC⟩))
          | (go_at_call 49; first | (refine (HR'.out _ _ PD).mono ?_; rintro e wB ⟨rfl, PB, CB⟩) | (refine (HR'.out _ _ PA).mono ?_; rintro e wE ⟨rfl, PE, CE⟩)))
      all_goals
        first | (have PZ := PE; have CZ : Kept K (w.alloc (.cells #[.int .i64 k, .int .i64 h, .string a, .int .i64 b, .string v] 66)) _ := ((Chg.refl _ _).drew.trans CA).trans CE; clear PE CE PA CA) | (have PZ := PC; have CZ : Kept K (w.alloc (.cells #[.int .i64 k, .int .i64 h, .string a, .int .i64 b, .string v] 66)) _ := ((Chg.refl _ _).drew.trans CB).trans CC; clear PB CB PC CC)
        have FIN := Lib.hid (And.intro PZ CZ)
        clear PZ CZ PD HL' HR' HSW HBX HSZ HKU
        go_wp2
        go_ret
        exact ⟨by simp, FIN.out⟩
set_option maxRecDepth 100000 in
set_option maxHeartbeats 3200000 in
theorem does_put (r1 r2 : Int) (kk : Int) (hk1 : kk = 0 ∨ kk = 1 ∨ kk = 2) (hd : deedK k = kk) (hlo : -9223372036854775808 ≤ k) (hhi : k ≤ 9223372036854775807) (KU : K w.heap.size)
    (HL : ∀ (j : Bool) (W : World), PS false j W → Calls Try.prog 34 #[.pointer (some ⟨tb, 0, none⟩), .string a, .int .i64 b, .string v] W fun e W' => e = .returned (.tuple #[.int .i64 r1, .int .i64 r2]) ∧ PS true j W' ∧ Kept K W W')
    (HR : ∀ (i : Bool) (W : World), PS i false W → Calls Try.prog 54 #[.pointer (some ⟨xb, 0, none⟩), .string a, .int .i64 b, .string v] W fun e W' => e = .returned (.tuple #[.int .i64 r1, .int .i64 r2]) ∧ PS i true W' ∧ Kept K W W')
    (h0 : PS false false (boxed w k h b a v)) (hdr : ∀ i j W, PS i j W → PS i j W.drew) :
    Calls Try.prog 31 #[.pointer (some ⟨tb, 0, none⟩), .pointer (some ⟨xb, 0, none⟩), .agg #[.int .i64 k, .int .i64 h, .string a, .int .i64 b, .string v]] w fun e w' => e = .returned (.bool true) ∧ PS true true w' ∧ Kept K (boxed w k h b a v) w' := by
  have P0 := h0
  have PD := hdr _ _ _ h0
  have HL' := Lib.hid HL
  have HR' := Lib.hid HR
  have HKU := Lib.hid KU
  have HSW : Hid (∀ W : World, W.heap[w.heap.size]? = (boxed w k h b a v).heap[w.heap.size]? → W.cell? ⟨w.heap.size, 2, none⟩ = some (.string a) ∧ W.cell? ⟨w.heap.size, 3, none⟩ = some (.int .i64 b) ∧ W.cell? ⟨w.heap.size, 4, none⟩ = some (.string v)) :=
    fun W e => ⟨(show Has W w.heap.size 66 #[.int .i64 k, .int .i64 h, .string a, .int .i64 b, .string v] from e.trans (Has.new _ _ _)).cell 2, (show Has W w.heap.size 66 #[.int .i64 k, .int .i64 h, .string a, .int .i64 b, .string v] from e.trans (Has.new _ _ _)).cell 3, (show Has W w.heap.size 66 #[.int .i64 k, .int .i64 h, .string a, .int .i64 b, .string v] from e.trans (Has.new _ _ _)).cell 4⟩
  have HBX : Hid (∀ W W' : World, Kept K W W' → w.heap.size < W.heap.size → W'.heap[w.heap.size]? = W.heap[w.heap.size]? ∧ w.heap.size < W'.heap.size) := fun W W' c hl => ⟨c.block _ hl (fun n => n HKU.out), Nat.lt_of_lt_of_le hl c.size⟩
  have HSZ : Hid (w.heap.size < (boxed w k h b a v).heap.size) := by show _ < (w.alloc _).heap.size; simp
  unfold deedK at hd
  unfold boxed at *
  clear HL HR KU h0 hdr
  go_enter Try.func31, Try.ntmps31
  go_upto_if 27 with fail
  go_cut [7] (fun s7 wx => ∃ q : Int, 0 ≤ q ∧ q ≤ 9223372036854775807 ∧ q % 8 = kk ∧ s7 = .int .i64 q ∧ wx = w.alloc (.cells #[.int .i64 k, .int .i64 h, .string a, .int .i64 b, .string v] 66))
  case first =>
    by_cases hK : k < 0
    · rw [if_pos hK] at hd
      have HD := Lib.hid hd
      clear hd
      go_wp2_with fail
      go_meet
      case rel => exact ⟨-(k + 1), by omega, by omega, HD.out, rfl, rfl⟩
    · rw [if_neg hK] at hd
      have HD := Lib.hid hd
      clear hd
      go_wp2_with fail
      go_meet
      case rel => exact ⟨k, by omega, by omega, HD.out, rfl, rfl⟩
  case rest =>
    obtain ⟨q, q0, q1, q2, rfl, rfl⟩ := hcut
    clear hd
    rcases hk1 with rfl | rfl | rfl
    all_goals
      clear PD
      go_wp2_with fail
      refine (HL'.out _ _ P0).mono ?_
      rintro e wA ⟨rfl, PA, CA⟩
      obtain ⟨s2, s3, s4⟩ := HSW.out _ (HBX.out _ _ CA HSZ.out).1
      clear P0
      go_wp2_with fail
      refine (HR'.out _ _ PA).mono ?_
      rintro e wE ⟨rfl, PE, CE⟩
      have FIN := Lib.hid (And.intro PE (show Kept K (w.alloc (.cells #[.int .i64 k, .int .i64 h, .string a, .int .i64 b, .string v] 66)) wE from CA.trans CE))
      clear PA CA PE CE HL' HR' HSW HBX HSZ HKU s2 s3 s4
      go_wp2
      go_ret
      exact ⟨by simp, FIN.out⟩
set_option maxRecDepth 100000 in
set_option maxHeartbeats 3200000 in
theorem does_get (r : ByteArray) (s : Bool) (kk : Int) (hk1 : kk = 6) (hd : deedK k = kk) (hlo : -9223372036854775808 ≤ k) (hhi : k ≤ 9223372036854775807)
    (H0 : ∀ W : World, PS false false W → Calls Try.prog 36 #[.pointer (some ⟨tb, 0, none⟩), .int .i64 h] W fun e W' => e = .returned (.tuple #[.string r, .bool s]) ∧ W = W')
    (H1 : ∀ W : World, PS false false W → Calls Try.prog 50 #[.pointer (some ⟨xb, 0, none⟩), .int .i64 h] W fun e W' => e = .returned (.tuple #[.string r, .bool s]) ∧ W = W')
    (h0 : PS false false (boxed w k h b a v)) :
    Calls Try.prog 31 #[.pointer (some ⟨tb, 0, none⟩), .pointer (some ⟨xb, 0, none⟩), .agg #[.int .i64 k, .int .i64 h, .string a, .int .i64 b, .string v]] w fun e w' => e = .returned (.bool true) ∧ boxed w k h b a v = w' := by
  have K0 := Lib.hid (H0 _ h0)
  have K1 := Lib.hid (H1 _ h0)
  unfold deedK at hd
  unfold boxed at *
  clear h0 H0 H1
  go_enter Try.func31, Try.ntmps31
  go_upto_if 27 with fail
  go_cut [7] (fun s7 wx => ∃ q : Int, 0 ≤ q ∧ q ≤ 9223372036854775807 ∧ q % 8 = kk ∧ s7 = .int .i64 q ∧ wx = w.alloc (.cells #[.int .i64 k, .int .i64 h, .string a, .int .i64 b, .string v] 66))
  case first =>
    by_cases hK : k < 0
    · rw [if_pos hK] at hd
      have HD := Lib.hid hd
      clear hd
      go_wp2_with fail
      go_meet
      case rel => exact ⟨-(k + 1), by omega, by omega, HD.out, rfl, rfl⟩
    · rw [if_neg hK] at hd
      have HD := Lib.hid hd
      clear hd
      go_wp2_with fail
      go_meet
      case rel => exact ⟨k, by omega, by omega, HD.out, rfl, rfl⟩
  case rest =>
    obtain ⟨q, q0, q1, q2, rfl, rfl⟩ := hcut
    clear hd
    subst hk1
    all_goals
      go_wp2_with fail
      refine (K0.out).mono ?_
      rintro e w' ⟨rfl, rfl⟩
      go_wp2_with fail
      refine (K1.out).mono ?_
      rintro e w' ⟨rfl, rfl⟩
      clear K0 K1
      go_wp2
      go_ret
      exact ⟨by simp, rfl⟩
set_option maxRecDepth 100000 in
set_option maxHeartbeats 3200000 in
theorem does_by (r1 r2 : Int) (s1 s2 : Bool) (kk : Int) (hk1 : kk = 7) (hd : deedK k = kk) (hlo : -9223372036854775808 ≤ k) (hhi : k ≤ 9223372036854775807)
    (H0 : ∀ W : World, PS false false W → Calls Try.prog 51 #[.pointer (some ⟨tb, 0, none⟩), .string a] W fun e W' => e = .returned (.tuple #[.int .i64 r1, .bool s1]) ∧ W = W')
    (H1 : ∀ W : World, PS false false W → Calls Try.prog 52 #[.pointer (some ⟨xb, 0, none⟩), .string a] W fun e W' => e = .returned (.tuple #[.int .i64 r1, .bool s1]) ∧ W = W')
    (H2 : ∀ W : World, PS false false W → Calls Try.prog 35 #[.pointer (some ⟨tb, 0, none⟩), .int .i64 b] W fun e W' => e = .returned (.tuple #[.int .i64 r2, .bool s2]) ∧ W = W')
    (H3 : ∀ W : World, PS false false W → Calls Try.prog 53 #[.pointer (some ⟨xb, 0, none⟩), .int .i64 b] W fun e W' => e = .returned (.tuple #[.int .i64 r2, .bool s2]) ∧ W = W')
    (h0 : PS false false (boxed w k h b a v)) :
    Calls Try.prog 31 #[.pointer (some ⟨tb, 0, none⟩), .pointer (some ⟨xb, 0, none⟩), .agg #[.int .i64 k, .int .i64 h, .string a, .int .i64 b, .string v]] w fun e w' => e = .returned (.bool true) ∧ boxed w k h b a v = w' := by
  have K0 := Lib.hid (H0 _ h0)
  have K1 := Lib.hid (H1 _ h0)
  have K2 := Lib.hid (H2 _ h0)
  have K3 := Lib.hid (H3 _ h0)
  unfold deedK at hd
  unfold boxed at *
  clear h0 H0 H1 H2 H3
  go_enter Try.func31, Try.ntmps31
  go_upto_if 27 with fail
  go_cut [7] (fun s7 wx => ∃ q : Int, 0 ≤ q ∧ q ≤ 9223372036854775807 ∧ q % 8 = kk ∧ s7 = .int .i64 q ∧ wx = w.alloc (.cells #[.int .i64 k, .int .i64 h, .string a, .int .i64 b, .string v] 66))
  case first =>
    by_cases hK : k < 0
    · rw [if_pos hK] at hd
      have HD := Lib.hid hd
      clear hd
      go_wp2_with fail
      go_meet
      case rel => exact ⟨-(k + 1), by omega, by omega, HD.out, rfl, rfl⟩
    · rw [if_neg hK] at hd
      have HD := Lib.hid hd
      clear hd
      go_wp2_with fail
      go_meet
      case rel => exact ⟨k, by omega, by omega, HD.out, rfl, rfl⟩
  case rest =>
    obtain ⟨q, q0, q1, q2, rfl, rfl⟩ := hcut
    clear hd
    subst hk1
    all_goals
      go_wp2_with fail
      refine (K0.out).mono ?_
      rintro e w' ⟨rfl, rfl⟩
      go_wp2_with fail
      refine (K1.out).mono ?_
      rintro e w' ⟨rfl, rfl⟩
      go_wp2_with fail
      refine (K2.out).mono ?_
      rintro e w' ⟨rfl, rfl⟩
      go_wp2_with fail
      refine (K3.out).mono ?_
      rintro e w' ⟨rfl, rfl⟩
      clear K0 K1 K2 K3
      go_wp2
      go_ret
      exact ⟨by simp, rfl⟩
end
end Go.Proofs.Ytckbffbjdcnklaa
