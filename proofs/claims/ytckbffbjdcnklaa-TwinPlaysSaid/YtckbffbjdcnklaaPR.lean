/- TwinPlays: the document's rows and the table's, as plain lists and functions. -/
import Derived.Test.YtckbffbjdcnklaaPF
import Derived.Test.YtckbffbjdcnklaaQR
namespace Go.Proofs.Ytckbffbjdcnklaa
open Go.RowKit
set_option linter.unusedSimpArgs false
set_option linter.unusedVariables false

def qrow (h : Nat) (r : P.Row) : QR := ⟨h, r.a, r.b, r.v⟩
/-- The list L has the rows of T, by their handles. -/
structure Rep (T : Nat → Option P.Row) (L : List QR) : Prop where
  mem : ∀ q, q ∈ L ↔ ∃ r, T q.h = some r ∧ q = qrow q.h r
  ord : L.Pairwise fun p q => p.h < q.h
section
variable {T : Nat → Option P.Row} {L : List QR}
theorem Rep.lt (h : Rep T L) {i j : Nat} {p q : QR} (hi : L[i]? = some p) (hj : L[j]? = some q) (hij : i < j) : p.h < q.h := by
  obtain ⟨h1, e1⟩ := List.getElem?_eq_some_iff.1 hi
  obtain ⟨h2, e2⟩ := List.getElem?_eq_some_iff.1 hj
  have := List.pairwise_iff_getElem.1 h.ord i j h1 h2 hij
  rwa [e1, e2] at this
theorem Rep.row (h : Rep T L) {i : Nat} {q : QR} (hi : L[i]? = some q) : ∃ r, T q.h = some r ∧ q = qrow q.h r := (h.mem q).1 (List.mem_of_getElem? hi)
theorem Rep.uniq (h : Rep T L) {i j : Nat} {p q : QR} (hi : L[i]? = some p) (hj : L[j]? = some q) (e : p.h = q.h) : i = j := by
  rcases Nat.lt_trichotomy i j with q1 | q1 | q1
  · have := h.lt hi hj q1; omega
  · exact q1
  · have := h.lt hj hi q1; omega
theorem Rep.idx (h : Rep T L) {x : Nat} {r : P.Row} (hr : T x = some r) : ∃ i : Nat, L[i]? = some (qrow x r) := List.getElem?_of_mem ((h.mem (qrow x r)).2 ⟨r, hr, rfl⟩)
theorem Rep.idx_lt (h : Rep T L) {x i : Nat} {r : P.Row} (hi : L[i]? = some (qrow x r)) (j : Nat) (q : QR) (hj : j < i) (hq : L[j]? = some q) : ¬ (q.h : Int) = (x : Int) := by
  have : q.h < (qrow x r).h := h.lt hq hi hj
  have e : (qrow x r).h = x := rfl
  omega
theorem Rep.absent (h : Rep T L) {x : Nat} (hx : T x = none) (j : Nat) (q : QR) (hq : L[j]? = some q) : ¬ (q.h : Int) = (x : Int) := fun e => by
  obtain ⟨r, h1, _⟩ := h.row hq
  obtain rfl : q.h = x := by omega
  rw [hx] at h1
  cases h1
theorem Rep.absent' (h : Rep T L) {x : Int} (hx : x < 0 ∨ T x.toNat = none) (j : Nat) (q : QR) (hq : L[j]? = some q) : ¬ (q.h : Int) = x := fun e => by
  subst e
  rcases hx with hx | hx
  · omega
  · exact h.absent (x := q.h) (by simpa using hx) j q hq rfl
/-- Handles are at least as great as their places. -/
theorem Rep.ge (h : Rep T L) (ok : ∀ y r, T y = some r → 1 ≤ y) : ∀ (j : Nat) (q : QR), L[j]? = some q → j + 1 ≤ q.h
  | 0, q, hq => by
    obtain ⟨r, h1, _⟩ := h.row hq
    exact ok _ _ h1
  | j + 1, q, hq => by
    have hj : j < L.length := by have := (List.getElem?_eq_some_iff.1 hq).1; omega
    have h1 : L[j]? = some L[j] := List.getElem?_eq_getElem hj
    have := Rep.ge h ok j _ h1
    have := h.lt h1 hq (Nat.lt_succ_self j)
    omega
theorem Rep.first (h : Rep T L) (ok : ∀ y r, T y = some r → 1 ≤ y) {x : Nat} (hx : ∀ y, 1 ≤ y → y < x → T y ≠ none) (j : Nat) (hj : j + 1 < x) : ∃ q : QR, L[j]? = some q ∧ q.h = j + 1 := by
  induction j using Nat.strongRecOn with
  | ind j ih =>
    obtain ⟨r, hr⟩ := Option.ne_none_iff_exists'.1 (hx (j + 1) (by omega) hj)
    obtain ⟨k, hk⟩ := h.idx hr
    have e : (qrow (j + 1) r).h = j + 1 := rfl
    have := h.ge ok k _ hk
    by_cases hkj : k = j
    · subst hkj; exact ⟨_, hk, e⟩
    · obtain ⟨q, h1, h2⟩ := ih k (by omega) (by omega)
      rw [hk] at h1
      cases h1
      omega
structure LeastAt (L : List QR) (i : Nat) : Prop where
  le : i ≤ L.length
  before : ∀ (j : Nat) (q : QR), j < i → L[j]? = some q → q.h = j + 1
  here : ∀ q : QR, L[i]? = some q → q.h ≠ i + 1
  after : ∀ (j : Nat) (q : QR), i ≤ j → L[j]? = some q → i + 1 < q.h
theorem Rep.least (h : Rep T L) (ok : ∀ y r, T y = some r → 1 ≤ y) {x : Nat} (hx : Least T x) : ∃ i : Nat, x = i + 1 ∧ LeastAt L i := by
  obtain ⟨h1, h2, h3⟩ := hx
  obtain ⟨i, rfl⟩ : ∃ i, x = i + 1 := ⟨x - 1, by omega⟩
  have hh : ∀ (j : Nat) (q : QR), L[j]? = some q → q.h ≠ i + 1 := fun j q hq e => h.absent h2 j q hq (by omega)
  refine ⟨i, rfl, ?_, fun j q hj hq => ?_, fun q hq => hh i q hq, fun j q hj hq => ?_⟩
  · by_cases e : i = 0
    · omega
    · obtain ⟨q, hq, _⟩ := h.first ok h3 (i - 1) (by omega)
      have := (List.getElem?_eq_some_iff.1 hq).1
      omega
  · obtain ⟨p, hp, e⟩ := h.first ok h3 j (by omega)
    rw [hq] at hp
    cases hp
    exact e
  · have := h.ge ok j q hq
    have := hh j q hq
    omega
theorem Rep.put (h : Rep T L) {i : Nat} {r : P.Row} (hn : T (i + 1) = none) (hl : LeastAt L i) : Rep (P.setR T (i + 1) (some r)) (L.take i ++ [qrow (i + 1) r] ++ L.drop i) := by
  have hm : ∀ q, q ∈ L.take i ++ [qrow (i + 1) r] ++ L.drop i ↔ q ∈ L ∨ q = qrow (i + 1) r := fun q => by
    simp only [List.mem_append, List.mem_singleton]
    constructor
    · rintro ((h | h) | h)
      · exact .inl (List.mem_of_mem_take h)
      · exact .inr h
      · exact .inl (List.mem_of_mem_drop h)
    · rintro (h | h)
      · have : q ∈ L.take i ++ L.drop i := by rw [List.take_append_drop]; exact h
        rcases List.mem_append.1 this with h | h
        · exact .inl (.inl h)
        · exact .inr h
      · exact .inl (.inr h)
  have lt1 : ∀ p ∈ L.take i, p.h < i + 1 := fun p hp => by
    obtain ⟨j, hj⟩ := List.getElem?_of_mem hp
    rw [List.getElem?_take] at hj
    split at hj
    · have := hl.before j p (by assumption) hj; omega
    · cases hj
  have gt1 : ∀ p ∈ L.drop i, i + 1 < p.h := fun p hp => by
    obtain ⟨j, hj⟩ := List.getElem?_of_mem hp
    rw [List.getElem?_drop] at hj
    exact hl.after _ p (by omega) hj
  refine ⟨fun q => ?_, ?_⟩
  · rw [hm, h.mem]
    unfold P.setR
    by_cases e : q.h = i + 1
    · rw [if_pos e]
      constructor
      · rintro (⟨s, h1, _⟩ | rfl)
        · rw [e, hn] at h1; cases h1
        · exact ⟨r, rfl, rfl⟩
      · rintro ⟨s, h1, h2⟩
        cases h1
        right
        rw [h2, e]
    · rw [if_neg e]
      constructor
      · rintro (h | rfl)
        · exact h
        · exact absurd rfl e
      · exact fun h => .inl h
  · rw [List.append_assoc, List.pairwise_append]
    refine ⟨h.ord.sublist (List.take_sublist _ _), ?_, fun p hp q hq => ?_⟩
    · rw [List.singleton_append, List.pairwise_cons]
      exact ⟨fun q hq => gt1 q hq, h.ord.sublist (List.drop_sublist _ _)⟩
    · rw [List.singleton_append, List.mem_cons] at hq
      have := lt1 p hp
      rcases hq with rfl | hq
      · exact this
      · have := gt1 q hq; omega
theorem Rep.rem (h : Rep T L) {x i : Nat} {r : P.Row} (hi : L[i]? = some (qrow x r)) : Rep (P.setR T x none) (L.take i ++ L.drop (i + 1)) := by
  have sub : (L.take i ++ L.drop (i + 1)).Sublist L := by
    have : (L.take i ++ L.drop (i + 1)).Sublist (L.take i ++ L.drop i) := by
      refine List.Sublist.append (List.Sublist.refl _) ?_
      rw [← List.drop_drop]
      exact List.drop_sublist _ _
    rwa [List.take_append_drop] at this
  refine ⟨fun q => ?_, h.ord.sublist sub⟩
  have hm : q ∈ L.take i ++ L.drop (i + 1) ↔ q ∈ L ∧ q.h ≠ x := by
    constructor
    · intro hq
      refine ⟨sub.subset hq, fun e => ?_⟩
      rcases List.mem_append.1 hq with hq | hq
      · obtain ⟨j, hj⟩ := List.getElem?_of_mem hq
        rw [List.getElem?_take] at hj
        split at hj
        · have := h.uniq hj hi e; omega
        · cases hj
      · obtain ⟨j, hj⟩ := List.getElem?_of_mem hq
        rw [List.getElem?_drop] at hj
        have := h.uniq hj hi e
        omega
    · rintro ⟨hq, e⟩
      obtain ⟨j, hj⟩ := List.getElem?_of_mem hq
      rcases Nat.lt_trichotomy j i with q1 | q1 | q1
      · exact List.mem_append.2 (.inl (List.mem_of_getElem? (i := j) (by rw [List.getElem?_take, if_pos q1]; exact hj)))
      · subst q1
        rw [hi] at hj
        cases hj
        exact absurd rfl e
      · exact List.mem_append.2 (.inr (List.mem_of_getElem? (i := j - (i + 1)) (by rw [List.getElem?_drop, show i + 1 + (j - (i + 1)) = j by omega]; exact hj)))
  rw [hm, h.mem]
  unfold P.setR
  by_cases e : q.h = x
  · rw [if_pos e]; simp [e]
  · rw [if_neg e]; simp [e]
theorem Rep.set (h : Rep T L) {x i : Nat} {r : P.Row} (hr : T x = some r) (hi : L[i]? = some (qrow x r)) (v : ByteArray) : Rep (P.setR T x (some ⟨r.a, r.b, v⟩)) (L.set i ⟨x, r.a, r.b, v⟩) := by
  have hil : i < L.length := (List.getElem?_eq_some_iff.1 hi).1
  refine ⟨fun q => ?_, ?_⟩
  · have hm : q ∈ L.set i ⟨x, r.a, r.b, v⟩ ↔ (q ∈ L ∧ q.h ≠ x) ∨ q = ⟨x, r.a, r.b, v⟩ := by
      constructor
      · intro hq
        obtain ⟨j, hj⟩ := List.getElem?_of_mem hq
        rw [List.getElem?_set] at hj
        split at hj
        · cases hj; exact .inr rfl
        · refine .inl ⟨List.mem_of_getElem? hj, fun e => ?_⟩
          have := h.uniq hj hi e
          omega
      · rintro (⟨hq, e⟩ | rfl)
        · obtain ⟨j, hj⟩ := List.getElem?_of_mem hq
          refine List.mem_of_getElem? (i := j) ?_
          rw [List.getElem?_set, if_neg (fun e2 => ?_)]
          · exact hj
          · subst e2
            rw [hi] at hj
            cases hj
            exact e rfl
        · refine List.mem_of_getElem? (i := i) ?_
          rw [List.getElem?_set, if_pos rfl, if_pos hil]
    rw [hm, h.mem]
    unfold P.setR
    by_cases e : q.h = x
    · rw [if_pos e]
      constructor
      · rintro (⟨_, h2⟩ | rfl)
        · exact absurd e h2
        · exact ⟨_, rfl, rfl⟩
      · rintro ⟨s, h1, h2⟩
        cases h1
        right
        rw [h2, e]
        rfl
    · rw [if_neg e]
      constructor
      · rintro (h | rfl)
        · exact h.1
        · exact absurd rfl e
      · exact fun h => .inl ⟨h, e⟩
  · rw [List.pairwise_iff_getElem]
    intro j k hj hk hjk
    have e : ∀ (j : Nat) (hj : j < (L.set i ⟨x, r.a, r.b, v⟩).length), ((L.set i ⟨x, r.a, r.b, v⟩)[j]).h = (L[j]'(by simpa using hj)).h := fun j hj => by
      rw [List.getElem_set]
      split
      · rename_i e
        subst e
        have : L[i] = qrow x r := by have := List.getElem?_eq_some_iff.1 hi; exact this.2
        rw [this]
        rfl
      · rfl
    rw [e, e]
    exact List.pairwise_iff_getElem.1 h.ord j k _ _ hjk
theorem sorted_eq : ∀ (l m : List Nat), l.Pairwise (· < ·) → m.Pairwise (· < ·) → (∀ x, x ∈ l ↔ x ∈ m) → l = m
  | [], [], _, _, _ => rfl
  | [], y :: m, _, _, h => by have := (h y).2 (by simp); simp at this
  | x :: l, [], _, _, h => by have := (h x).1 (by simp); simp at this
  | x :: l, y :: m, hl, hm, h => by
    rw [List.pairwise_cons] at hl hm
    have hxy : x = y := by
      have a := (h x).1 (by simp)
      have b := (h y).2 (by simp)
      rw [List.mem_cons] at a b
      rcases a with a | a
      · exact a
      · rcases b with b | b
        · exact b.symm
        · have := hm.1 x a; have := hl.1 y b; omega
    subst hxy
    have := sorted_eq l m hl.2 hm.2 (fun z => by
      constructor
      · intro hz
        have := (h z).1 (by simp [hz])
        rw [List.mem_cons] at this
        rcases this with e | e
        · subst e; have := hl.1 z hz; omega
        · exact e
      · intro hz
        have := (h z).2 (by simp [hz])
        rw [List.mem_cons] at this
        rcases this with e | e
        · subst e; have := hm.1 z hz; omega
        · exact e)
    rw [this]
theorem Rep.hs (h : Rep T L) {m : Nat} (ok : ∀ y r, T y = some r → y ≤ m) : P.hs T (m + 1) = L.map (·.h) := by
  refine sorted_eq _ _ ?_ ?_ fun x => ?_
  · exact (List.pairwise_lt_range).sublist (List.filter_sublist)
  · rw [List.pairwise_map]
    exact h.ord
  · simp only [P.hs, List.mem_filter, List.mem_range, List.mem_map]
    constructor
    · rintro ⟨h1, h2⟩
      obtain ⟨r, hr⟩ := Option.isSome_iff_exists.1 h2
      exact ⟨qrow x r, (h.mem _).2 ⟨r, hr, rfl⟩, rfl⟩
    · rintro ⟨q, hq, rfl⟩
      obtain ⟨r, hr, _⟩ := (h.mem q).1 hq
      exact ⟨by have := ok _ _ hr; omega, by rw [hr]; rfl⟩
/-- What a name's look-up finds, in the rows. -/
structure FoundA (L : List QR) (a : ByteArray) (o : Option Nat) (i r : Nat) (s : Bool) : Prop where
  le : i ≤ L.length
  no : ∀ (j : Nat) (q : QR), j < i → L[j]? = some q → ¬ q.a = a
  yes : ∀ q : QR, L[i]? = some q → q.a = a ∧ r = q.h ∧ s = true
  nil : i = L.length → r = 0 ∧ s = false
  r : r = o.getD 0
  s : s = o.isSome
structure FoundB (L : List QR) (a : Int) (o : Option Nat) (i r : Nat) (s : Bool) : Prop where
  le : i ≤ L.length
  no : ∀ (j : Nat) (q : QR), j < i → L[j]? = some q → ¬ q.b = a
  yes : ∀ q : QR, L[i]? = some q → q.b = a ∧ r = q.h ∧ s = true
  nil : i = L.length → r = 0 ∧ s = false
  r : r = o.getD 0
  s : s = o.isSome
theorem Rep.findA (h : Rep T L) {a : ByteArray} {o : Option Nat} (co : ∀ x, o = some x ↔ ∃ r, T x = some r ∧ r.a = a) : ∃ i r s, FoundA L a o i r s := by
  have any : ∀ (j : Nat) (q : QR), L[j]? = some q → q.a = a → o = some q.h := fun j q hq e => by
    obtain ⟨r, hr, e2⟩ := h.row hq
    exact (co _).2 ⟨r, hr, by rw [← e, e2]; rfl⟩
  cases o with
  | none => exact ⟨L.length, 0, false, Nat.le_refl _, fun j q _ hq e => absurd (any j q hq e) (by simp), fun q hq => by simp at hq, fun _ => ⟨rfl, rfl⟩, rfl, rfl⟩
  | some x =>
    obtain ⟨r, hr, e⟩ := (co x).1 rfl
    obtain ⟨i, hi⟩ := h.idx hr
    have hil : i < L.length := (List.getElem?_eq_some_iff.1 hi).1
    refine ⟨i, x, true, by omega, fun j q hj hq e2 => ?_, fun q hq => ?_, fun e => by omega, rfl, rfl⟩
    · have := any j q hq e2
      cases this
      exact h.idx_lt hi j q hj hq rfl
    · rw [hi] at hq
      cases hq
      exact ⟨e, rfl, rfl⟩
theorem Rep.findB (h : Rep T L) {a : Int} {o : Option Nat} (co : ∀ x, o = some x ↔ ∃ r, T x = some r ∧ r.b = a) : ∃ i r s, FoundB L a o i r s := by
  have any : ∀ (j : Nat) (q : QR), L[j]? = some q → q.b = a → o = some q.h := fun j q hq e => by
    obtain ⟨r, hr, e2⟩ := h.row hq
    exact (co _).2 ⟨r, hr, by rw [← e, e2]; rfl⟩
  cases o with
  | none => exact ⟨L.length, 0, false, Nat.le_refl _, fun j q _ hq e => absurd (any j q hq e) (by simp), fun q hq => by simp at hq, fun _ => ⟨rfl, rfl⟩, rfl, rfl⟩
  | some x =>
    obtain ⟨r, hr, e⟩ := (co x).1 rfl
    obtain ⟨i, hi⟩ := h.idx hr
    have hil : i < L.length := (List.getElem?_eq_some_iff.1 hi).1
    refine ⟨i, x, true, by omega, fun j q hj hq e2 => ?_, fun q hq => ?_, fun e => by omega, rfl, rfl⟩
    · have := any j q hq e2
      cases this
      exact h.idx_lt hi j q hj hq rfl
    · rw [hi] at hq
      cases hq
      exact ⟨e, rfl, rfl⟩
end
end Go.Proofs.Ytckbffbjdcnklaa
