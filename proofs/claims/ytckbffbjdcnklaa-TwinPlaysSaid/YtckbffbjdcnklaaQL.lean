/- The document's own table (ref17) in memory: New, ByA, ByB, place, Get, Set. -/
import Derived.Test.YtckbffbjdcnklaaTwBase
namespace Go.Proofs.Ytckbffbjdcnklaa
open Go.RowKit
set_option linter.unusedSimpArgs false
set_option linter.unusedVariables false

structure QR where
  h : Nat
  a : ByteArray
  b : Int
  v : ByteArray
/-- Cell k of a row. -/
def qf (q : QR) : Nat → Value
  | 0 => .int .i64 (q.h : Int)
  | 1 => .string q.a
  | 2 => .int .i64 q.b
  | _ => .string q.v
/-- A slice of rows. -/
def LAt (W : World) (v : Value) (l : List QR) : Prop :=
  (v = .slice none 0 0 ∧ l = []) ∨ ∃ f c cur, v = .slice (some ⟨f, 0, none⟩) l.length c ∧ Has W f 71 cur ∧ cur.size = c * 4 ∧ l.length ≤ c ∧ c ≤ maxLen ∧ ∀ i q k, l[i]? = some q → k < 4 → cur[i * 4 + k]? = some (qf q k)
/-- The document's table. -/
def XT (W : World) (xb : Nat) (room : Int) (l : List QR) : Prop := ∃ v, Has W xb 69 #[.int .i64 room, v] ∧ LAt W v l
/-- .. its rows in a block from B on. -/
def XTN (W : World) (xb : Nat) (room : Int) (l : List QR) (B : Nat) : Prop := ∃ v, Has W xb 69 #[.int .i64 room, v] ∧ LAt W v l ∧ ∀ k, v.ownBlock = some k → B ≤ k
section
variable {w w' : World} {xb : Nat} {room : Int} {l : List QR} {v : Value}
theorem str_ne {x y : ByteArray} (h : ¬ x = y) : (x.toList == y.toList) = false := by
  rw [beq_eq_false_iff_ne]
  intro e
  simp [ByteArray.toList_eq] at e
  first
    | exact h (ByteArray.ext (Array.ext' e))
    | exact h (ByteArray.ext e)
    | exact h e
theorem LAt.slice (h : LAt w v l) : ∃ a c, v = .slice a l.length c := by
  rcases h with ⟨rfl, rfl⟩ | ⟨f, c, cur, rfl, _⟩
  · exact ⟨_, _, rfl⟩
  · exact ⟨_, _, rfl⟩
theorem XT.cell1 (h : XT w xb room l) : ∃ a c, w.cell? ⟨xb, 1, none⟩ = some (.slice a l.length c) ∧ ∀ i q, l[i]? = some q → ∃ f, a = some ⟨f, 0, none⟩ ∧ (∀ k, k < 4 → w.cell? ⟨f, i * 4 + k, none⟩ = some (qf q k)) ∧ ∀ o, w.frozen? ⟨f, o, none⟩ = false := by
  obtain ⟨v, h1, h2⟩ := h
  have c1 := h1.cell 1
  simp at c1
  rcases h2 with ⟨rfl, rfl⟩ | ⟨f, c, cur, rfl, g1, g2, g3, g4, g5⟩
  · exact ⟨_, _, c1, fun i q hq => by simp at hq⟩
  · exact ⟨_, _, c1, fun i q hq => ⟨f, rfl, fun k hk => (g1.cell _).trans (g5 i q k hq hk), fun o => g1.free o⟩⟩
theorem qnew_c (room : Int) (h1 : 1 ≤ room) (h2 : room ≤ 65536) (w : World) : Calls Try.prog 30 #[.int .i64 room] w fun e w' => e = .returned (.pointer (some ⟨w.heap.size, 0, none⟩)) ∧ w' = w.alloc (.cells #[.int .i64 room, .slice none 0 0] 69) := by
  go_enter Try.func30, Try.ntmps30
  go_wp2
  go_ret
  exact ⟨rfl, rfl⟩
theorem qnew_bad (room : Int) (h : room < 1 ∨ 65536 < room) (w : World) : Calls Try.prog 30 #[.int .i64 room] w fun e w' => e = .returned (.pointer none) ∧ w = w' := by
  by_cases h1 : room < 1
  · clear h
    go_enter Try.func30, Try.ntmps30
    go_wp2
    go_ret
    exact ⟨rfl, rfl⟩
  · have h2 : 65536 < room := by omega
    clear h
    go_enter Try.func30, Try.ntmps30
    go_wp2
    go_ret
    exact ⟨rfl, rfl⟩
set_option maxRecDepth 100000 in
set_option maxHeartbeats 800000 in
theorem qbyA_c (h : XT w xb room l) (a : ByteArray) (i r : Nat) (s : Bool) (hi : i ≤ l.length) (hl : l.length < 70000) (hb : ∀ j q, j < i → l[j]? = some q → ¬ q.a = a) (ha : ∀ q, l[i]? = some q → q.a = a ∧ r = q.h ∧ s = true) (hz : i = l.length → r = 0 ∧ s = false) :
    Calls Try.prog 52 #[.pointer (some ⟨xb, 0, none⟩), .string a] w fun e w' => e = .returned (.tuple #[.int .i64 (r : Int), .bool s]) ∧ w = w' := by
  obtain ⟨va, vc, c1, rows⟩ := h.cell1
  clear h
  obtain ⟨len, hlen⟩ : ∃ len, len = l.length := ⟨_, rfl⟩
  rw [← hlen] at c1
  have HL := Lib.hid hlen
  have HR := Lib.hid rows
  have HB := Lib.hid hb
  have HA := Lib.hid ha
  have HZ := Lib.hid hz
  have hle : i ≤ len := by omega
  have hln : len < 70000 := by omega
  clear rows hb ha hi hl hlen hz
  go_enter Try.func52, Try.ntmps52
  go_wp2_with fail
  go_loopw [6] (fun x wr => wr = w ∧ ∃ j : Nat, x = .int .i64 (j : Int) ∧ j ≤ i) (fun x _ => i - (intOf x).toNat)
  case atStart => exact ⟨rfl, 0, rfl, by omega⟩
  case round =>
    obtain ⟨rfl, j, rfl, hj⟩ := hrel
    have j0 : (0 : Int) ≤ (j : Int) := Int.natCast_nonneg _
    by_cases hjl : j < len
    · have q1 : (j : Int) < (len : Int) := by omega
      obtain ⟨q, hq⟩ : ∃ q, l[j]? = some q := ⟨l[j]'(by rw [← HL.out]; exact hjl), List.getElem?_eq_getElem _⟩
      obtain ⟨f, rfl, cells, _⟩ := HR.out j q hq
      have d0 : wr.cell? ⟨f, j * 4, none⟩ = some (.int .i64 (q.h : Int)) := cells 0 (by omega)
      have d1 : wr.cell? ⟨f, j * 4 + 1, none⟩ = some (.string q.a) := cells 1 (by omega)
      clear cells
      by_cases hji : j = i
      · subst hji
        obtain ⟨hqa, rfl, rfl⟩ := HA.out q hq
        rw [hqa] at d1
        clear hq hqa
        go_wp2
        go_ret2
        exact ⟨rfl, rfl⟩
      · have hqa := str_ne (HB.out j q (by omega) hq)
        clear hq
        go_wp2
        go_roundw
        case rel => exact ⟨trivial, j + 1, rfl, by omega⟩
        case measure => simp [intOf]; omega
    · obtain rfl : j = i := by omega
      have q1 : ¬ (j : Int) < (len : Int) := by omega
      obtain ⟨rfl, rfl⟩ := HZ.out (by rw [← HL.out]; omega)
      go_wp2
      go_ret2
      exact ⟨rfl, rfl⟩
set_option maxRecDepth 100000 in
set_option maxHeartbeats 800000 in
theorem qbyB_c (h : XT w xb room l) (a : Int) (i r : Nat) (s : Bool) (hi : i ≤ l.length) (hl : l.length < 70000) (hb : ∀ j q, j < i → l[j]? = some q → ¬ q.b = a) (ha : ∀ q, l[i]? = some q → q.b = a ∧ r = q.h ∧ s = true) (hz : i = l.length → r = 0 ∧ s = false) :
    Calls Try.prog 53 #[.pointer (some ⟨xb, 0, none⟩), .int .i64 a] w fun e w' => e = .returned (.tuple #[.int .i64 (r : Int), .bool s]) ∧ w = w' := by
  obtain ⟨va, vc, c1, rows⟩ := h.cell1
  clear h
  obtain ⟨len, hlen⟩ : ∃ len, len = l.length := ⟨_, rfl⟩
  rw [← hlen] at c1
  have HL := Lib.hid hlen
  have HR := Lib.hid rows
  have HB := Lib.hid hb
  have HA := Lib.hid ha
  have HZ := Lib.hid hz
  have hle : i ≤ len := by omega
  have hln : len < 70000 := by omega
  clear rows hb ha hi hl hlen hz
  go_enter Try.func53, Try.ntmps53
  go_wp2_with fail
  go_loopw [6] (fun x wr => wr = w ∧ ∃ j : Nat, x = .int .i64 (j : Int) ∧ j ≤ i) (fun x _ => i - (intOf x).toNat)
  case atStart => exact ⟨rfl, 0, rfl, by omega⟩
  case round =>
    obtain ⟨rfl, j, rfl, hj⟩ := hrel
    have j0 : (0 : Int) ≤ (j : Int) := Int.natCast_nonneg _
    by_cases hjl : j < len
    · have q1 : (j : Int) < (len : Int) := by omega
      obtain ⟨q, hq⟩ : ∃ q, l[j]? = some q := ⟨l[j]'(by rw [← HL.out]; exact hjl), List.getElem?_eq_getElem _⟩
      obtain ⟨f, rfl, cells, _⟩ := HR.out j q hq
      have d0 : wr.cell? ⟨f, j * 4, none⟩ = some (.int .i64 (q.h : Int)) := cells 0 (by omega)
      have d1 : wr.cell? ⟨f, j * 4 + 2, none⟩ = some (.int .i64 q.b) := cells 2 (by omega)
      clear cells
      by_cases hji : j = i
      · subst hji
        obtain ⟨hqa, rfl, rfl⟩ := HA.out q hq
        rw [hqa] at d1
        clear hq hqa
        go_wp2
        go_ret2
        exact ⟨rfl, rfl⟩
      · have hqa := HB.out j q (by omega) hq
        clear hq
        go_wp2
        go_roundw
        case rel => exact ⟨trivial, j + 1, rfl, by omega⟩
        case measure => simp [intOf]; omega
    · obtain rfl : j = i := by omega
      have q1 : ¬ (j : Int) < (len : Int) := by omega
      obtain ⟨rfl, rfl⟩ := HZ.out (by rw [← HL.out]; omega)
      go_wp2
      go_ret2
      exact ⟨rfl, rfl⟩
set_option maxRecDepth 100000 in
set_option maxHeartbeats 800000 in
theorem qplace_c (h : XT w xb room l) (a : Int) (i r : Nat) (s : Bool) (hi : i ≤ l.length) (hl : l.length < 70000) (hb : ∀ (j : Nat) (q : QR), j < i → l[j]? = some q → ¬ (q.h : Int) = a) (ha : ∀ q, l[i]? = some q → (q.h : Int) = a ∧ r = i ∧ s = true) (hz : i = l.length → r = 0 ∧ s = false) :
    Calls Try.prog 60 #[.pointer (some ⟨xb, 0, none⟩), .int .i64 a] w fun e w' => e = .returned (.tuple #[.int .i64 (r : Int), .bool s]) ∧ w = w' := by
  obtain ⟨va, vc, c1, rows⟩ := h.cell1
  clear h
  obtain ⟨len, hlen⟩ : ∃ len, len = l.length := ⟨_, rfl⟩
  rw [← hlen] at c1
  have HL := Lib.hid hlen
  have HR := Lib.hid rows
  have HB := Lib.hid hb
  have HA := Lib.hid ha
  have HZ := Lib.hid hz
  have hle : i ≤ len := by omega
  have hln : len < 70000 := by omega
  clear rows hb ha hi hl hlen hz
  go_enter Try.func60, Try.ntmps60
  go_wp2_with fail
  go_loopw [6] (fun x wr => wr = w ∧ ∃ j : Nat, x = .int .i64 (j : Int) ∧ j ≤ i) (fun x _ => i - (intOf x).toNat)
  case atStart => exact ⟨rfl, 0, rfl, by omega⟩
  case round =>
    obtain ⟨rfl, j, rfl, hj⟩ := hrel
    have j0 : (0 : Int) ≤ (j : Int) := Int.natCast_nonneg _
    by_cases hjl : j < len
    · have q1 : (j : Int) < (len : Int) := by omega
      obtain ⟨q, hq⟩ : ∃ q, l[j]? = some q := ⟨l[j]'(by rw [← HL.out]; exact hjl), List.getElem?_eq_getElem _⟩
      obtain ⟨f, rfl, cells, _⟩ := HR.out j q hq
      have d0 : wr.cell? ⟨f, j * 4, none⟩ = some (.int .i64 (q.h : Int)) := cells 0 (by omega)
      clear cells
      by_cases hji : j = i
      · subst hji
        obtain ⟨hqa, rfl, rfl⟩ := HA.out q hq
        rw [hqa] at d0
        clear hq hqa
        go_wp2
        go_ret2
        exact ⟨rfl, rfl⟩
      · have hqa := HB.out j q (by omega) hq
        clear hq
        go_wp2
        go_roundw
        case rel => exact ⟨trivial, j + 1, rfl, by omega⟩
        case measure => simp [intOf]; omega
    · obtain rfl : j = i := by omega
      have q1 : ¬ (j : Int) < (len : Int) := by omega
      obtain ⟨rfl, rfl⟩ := HZ.out (by rw [← HL.out]; omega)
      go_wp2
      go_ret2
      exact ⟨rfl, rfl⟩
set_option maxHeartbeats 800000 in
theorem qget_yes (h : XT w xb room l) (x i : Nat) (q : QR) (hl : l.length < 70000) (hb : ∀ (j : Nat) (q : QR), j < i → l[j]? = some q → ¬ (q.h : Int) = (x : Int)) (hq : l[i]? = some q) (hx : q.h = x) :
    Calls Try.prog 50 #[.pointer (some ⟨xb, 0, none⟩), .int .i64 (x : Int)] w fun e w' => e = .returned (.tuple #[.string q.v, .bool true]) ∧ w = w' := by
  have hi : i < l.length := (List.getElem?_eq_some_iff.1 hq).1
  have PL := Lib.hid (qplace_c h (x : Int) i i true (by omega) hl hb (fun q2 h2 => ⟨by rw [hq] at h2; cases h2; rw [hx], rfl, rfl⟩) (fun e => by omega))
  obtain ⟨va, vc, c1, rows⟩ := h.cell1
  obtain ⟨f, rfl, cells, _⟩ := rows i q hq
  have d3 : w.cell? ⟨f, i * 4 + 3, none⟩ = some (.string q.v) := cells 3 (by omega)
  have q1 : (i : Int) < (l.length : Int) := by omega
  have q0 : (0 : Int) ≤ (i : Int) := Int.natCast_nonneg _
  clear h cells rows hb hq
  go_enter Try.func50, Try.ntmps50
  go_wp2_with fail
  refine (PL.out).mono ?_
  rintro e w' ⟨rfl, rfl⟩
  go_wp2
  go_ret2
  exact ⟨rfl, rfl⟩
set_option maxHeartbeats 800000 in
theorem qget_no (h : XT w xb room l) (x : Int) (hl : l.length < 70000) (hb : ∀ (j : Nat) (q : QR), l[j]? = some q → ¬ (q.h : Int) = x) :
    Calls Try.prog 50 #[.pointer (some ⟨xb, 0, none⟩), .int .i64 x] w fun e w' => e = .returned (.tuple #[.string ⟨#[]⟩, .bool false]) ∧ w = w' := by
  have PL := Lib.hid (qplace_c h x l.length 0 false (Nat.le_refl _) hl (fun j q _ hq => hb j q hq) (fun q2 h2 => by simp at h2) (fun e => ⟨rfl, rfl⟩))
  clear h hb hl
  go_enter Try.func50, Try.ntmps50
  go_wp2_with fail
  refine (PL.out).mono ?_
  rintro e w' ⟨rfl, rfl⟩
  go_wp2
  go_ret2
  exact ⟨rfl, rfl⟩
set_option maxHeartbeats 800000 in
theorem qset_no (h : XT w xb room l) (x : Int) (v : ByteArray) (hl : l.length < 70000) (hb : ∀ (j : Nat) (q : QR), l[j]? = some q → ¬ (q.h : Int) = x) :
    Calls Try.prog 49 #[.pointer (some ⟨xb, 0, none⟩), .int .i64 x, .string v] w fun e w' => e = .returned (.bool false) ∧ w = w' := by
  have PL := Lib.hid (qplace_c h x l.length 0 false (Nat.le_refl _) hl (fun j q _ hq => hb j q hq) (fun q2 h2 => by simp at h2) (fun e => ⟨rfl, rfl⟩))
  clear h hb hl
  go_enter Try.func49, Try.ntmps49
  go_wp2_with fail
  refine (PL.out).mono ?_
  rintro e w' ⟨rfl, rfl⟩
  go_wp2
  go_ret
  exact ⟨rfl, rfl⟩
/-- The rows' block: only its own cells matter. -/
def QBlock (w : World) (xb f : Nat) : Prop := ∃ n c, w.cell? ⟨xb, 1, none⟩ = some (.slice (some ⟨f, 0, none⟩) n c)
set_option maxHeartbeats 800000 in
theorem qset_yes (h : XT w xb room l) (x i : Nat) (q : QR) (v : ByteArray) (hl : l.length < 70000) (hb : ∀ (j : Nat) (q : QR), j < i → l[j]? = some q → ¬ (q.h : Int) = (x : Int)) (hq : l[i]? = some q) (hx : q.h = x) :
    Calls Try.prog 49 #[.pointer (some ⟨xb, 0, none⟩), .int .i64 (x : Int), .string v] w fun e w' => e = .returned (.bool true) ∧ ∃ f, QBlock w xb f ∧ w' = w.setCell ⟨f, i * 4 + 3, none⟩ (.string v) := by
  have hi : i < l.length := (List.getElem?_eq_some_iff.1 hq).1
  have PL := Lib.hid (qplace_c h (x : Int) i i true (by omega) hl hb (fun q2 h2 => ⟨by rw [hq] at h2; cases h2; rw [hx], rfl, rfl⟩) (fun e => by omega))
  obtain ⟨va, vc, c1, rows⟩ := h.cell1
  obtain ⟨f, rfl, cells, fz⟩ := rows i q hq
  have d3 : w.cell? ⟨f, i * 4 + 3, none⟩ = some (.string q.v) := cells 3 (by omega)
  have f3 := fz (i * 4 + 3)
  have q1 : (i : Int) < (l.length : Int) := by omega
  have q0 : (0 : Int) ≤ (i : Int) := Int.natCast_nonneg _
  have QB : Hid (QBlock w xb f) := ⟨_, _, c1⟩
  clear h cells rows hb hq fz
  go_enter Try.func49, Try.ntmps49
  go_wp2_with fail
  refine (PL.out).mono ?_
  rintro e w' ⟨rfl, rfl⟩
  go_wp2
  go_ret
  exact ⟨rfl, f, QB.out, rfl⟩
end
end Go.Proofs.Ytckbffbjdcnklaa
