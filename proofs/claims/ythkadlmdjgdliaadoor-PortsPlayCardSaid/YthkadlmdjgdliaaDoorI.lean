/- The walk of Take. -/
import Derived.Test.YthkadlmdjgdliaaDoorH
import Derived.Deep.DeepCutAuto
namespace Go.Proofs.YthkadlmdjgdliaaDoor
open Go.RowKit
set_option linter.unusedSimpArgs false
set_option linter.unusedVariables false
open V2 (Only)

def expG (c : Nat) : Option Nat → Option Nat
  | none => none
  | some u => if u ≤ c then none else some u
/-- What rested long enough is free. -/
def PA.exp (A : PA) (c : Nat) : PA := ⟨A.at1, A.L, fun x => expG c (A.G x)⟩
def PA.take (A : PA) (n k : Nat) : PA := ⟨(k + 1) % n, setU A.L k true, A.G⟩
/-- In the midst of the range: what is still to come is as it was. -/
def Mid (A A' : PA) (L : Lit → Bool) (c : Nat) : Prop := A'.at1 = A.at1 ∧ A'.L = A.L ∧ ∀ x : Nat, (L (.int .i64 x) = true → A'.G x = A.G x) ∧ (L (.int .i64 x) = false → A'.G x = expG c (A.G x))
theorem Mid.done {A A' : PA} {L : Lit → Bool} {c : Nat} (h : Mid A A' L c) (hL : ∀ kl, L kl = false) : A' = A.exp c := by
  obtain ⟨h1, h2, h3⟩ := h
  have : A'.G = fun x => expG c (A.G x) := funext fun x => (h3 x).2 (hL _)
  cases A'
  unfold PA.exp
  simp at *
  exact ⟨h1, h2, this⟩
theorem given_inv {G : Nat → Option Nat} {x c : Int} {kl : Lit} (hk : keyOf Tryd.prog 3 (.int .i64 x) = some kl) (h : givenM G kl = some (.int .i64 c)) : ∃ j u : Nat, x = (j : Int) ∧ c = (u : Int) ∧ Hid (kl = .int .i64 j ∧ G j = some u) := by
  obtain ⟨x', e1, rfl, _⟩ := Maps.keyOf_int_inv Tryd.underlying3 hk
  cases e1
  unfold givenM at h
  by_cases h0 : 0 ≤ x
  · simp only [h0, if_true] at h
    cases hg : G x.toNat with
    | none => rw [hg] at h; simp at h
    | some u =>
      rw [hg] at h
      simp at h
      exact ⟨x.toNat, u, by omega, by omega, by congr 1; omega, hg⟩
  · simp [h0] at h
theorem given_val {G : Nat → Option Nat} (kl : Lit) (v : Value) (h : givenM G kl = some v) : ∃ c : Int, v = .int .i64 c := by
  unfold givenM at h
  split at h
  · split at h
    · rename_i x _
      cases hg : G x.toNat with
      | none => rw [hg] at h; simp at h
      | some u => rw [hg] at h; simp at h; exact ⟨u, h.symm⟩
    · cases h
  · cases h
theorem upd_upd {α : Type} (f : Lit → α) (k : Lit) (a b : α) : upd (upd f k a) k b = upd f k b := by
  funext x
  by_cases e : x = k
  · subst e; rw [upd_same, upd_same]
  · rw [upd_other _ _ e, upd_other _ _ e, upd_other _ _ e]
theorem upd_self {α : Type} (f : Lit → α) (k : Lit) : upd f k (f k) = f := by
  funext x
  by_cases e : x = k
  · subst e; rw [upd_same]
  · rw [upd_other _ _ e]
theorem Chg.only {S : Nat → Prop} {cb wb : Nat} {w w' : World} (h : Only cb wb w w') (h1 : S cb) (h2 : S wb) : Chg S w w' := by
  have q := h.1 0 (Nat.zero_le _) (Nat.zero_le _)
  exact ⟨q.os, q.tape, q.output, q.size, fun k hk hn => h.2.2 k (fun e => hn (by subst e; exact h1)) (fun e => hn (by subst e; exact h2))⟩
theorem new_x (n : Nat) (h1 : 1 ≤ n) (h2 : n ≤ 65536) (w : World) : Calls Tryd.prog 18 #[.int .i64 n] w fun e w' => ∃ cb wb, e = .returned (.tuple #[.pointer (some ⟨cb, 0, none⟩), .int .i64 0]) ∧ Cur w' cb wb n 0 (fun _ => false) ∧ Below w.heap.size w w' ∧ w.heap.size ≤ wb ∧ w.heap.size ≤ cb := by
  refine (new_c n h1 h2 w).mono ?_
  rintro e w' ⟨rfl, hc, hb⟩
  exact ⟨_, _, rfl, hc, hb, Nat.le_refl _, by omega⟩

section
variable {w0 : Base} {w w' : World} {pb pm low n rest t : Nat} {B : Lit → Option PB} {S : Lit → PA}
theorem Sys.more (h : Sys w0 w pb pm low n rest t B S) {t' : Nat} (ht : t ≤ t') : Sys w0 w pb pm low n rest t' B S := by
  obtain ⟨np, h1, g⟩ := h.map
  exact ⟨h.head, ⟨np, by omega, g⟩, fun kl p hp => ⟨(h.part kl p hp).1.more ht, (h.part kl p hp).2⟩, h.new, h.disj, h.tab, h.bel, h.zlt, h.pos, h.b1, h.b2, h.ne, h.lo1, h.lo2, h.hi1, h.hi2⟩
/-- An iterator moved. -/
theorem Sys.iter (h : Sys w0 w pb pm low n rest t B S) {r : Nat} (hr : ∀ kl p, B kl = some p → p.hi ≤ r) (r1 : pb < r) (r2 : pm < r) (r3 : w0.w.heap.size ≤ r) (hb : ∀ C, C ≤ r → Below C w w') (e : ∀ k, k ≠ r → w'.heap[k]? = w.heap[k]?) (hsz : w'.heap.size = w.heap.size) : Sys w0 w' pb pm low n rest t B S := by
  obtain ⟨np, h1, g⟩ := h.map
  have Q : ∀ b, w0.Z b → w'.heap[b]? = w.heap[b]? := fun b hz => e b (by have := h.zlt b hz; omega)
  refine ⟨(e _ (by omega)).trans h.head, ⟨np, h1, g.of_block (e _ (by omega))⟩, fun kl p hp => ?_, h.new, h.disj, h.tab.of0 (Q 0 h.pos), h.bel.trans (hb 0 (Nat.zero_le _)) Q, h.zlt, h.pos, h.b1, h.b2, h.ne, h.lo1, h.lo2, h.hi1, h.hi2⟩
  obtain ⟨q1, q2, q3, q4⟩ := h.part kl p hp
  have := hr kl p hp
  exact ⟨q1.of_blocks (fun b _ _ hb2 => e b (by omega)), q2, by omega, q4⟩
/-- A part is made. -/
theorem Sys.create (h : Sys w0 w pb pm low n rest t B S) (ht : t < 65536) {key : Value} {kl : Lit} (hk : keyOf Tryd.prog 24 key = some kl) (hB : B kl = none) {w1 : World} {p : PB} (hb : Below w.heap.size w w1) (P : PartOK w1 p n t PA.new) (hlo : w.heap.size ≤ p.lo) (hhi : p.hi ≤ w1.heap.size) :
    ∃ w2, (Instr.mapUpdate 49 (.map (some pm)) key (.pointer (some ⟨p.xb, 0, none⟩))).run Tryd.prog w1 = .ok () w2 ∧ w1.mapTurned w2 pm ∧ Sys w0 w2 pb pm low n rest (t + 1) (upd B kl (some p)) S := by
  have h1 := h.grow hb
  obtain ⟨np, hn, g⟩ := h1.map
  have hml := h.mlt
  have hpl := h.head.lt
  obtain ⟨w2, hrun, g', tt⟩ := g.store keyed24 Tryd.underlying49 (by unfold maxLen; omega) (keyed24.key hk) hk (val := .pointer (some ⟨p.xb, 0, none⟩))
  refine ⟨w2, hrun, tt, ?_⟩
  have Q : ∀ b, w0.Z b → w2.heap[b]? = w1.heap[b]? := fun b hz => turned_block tt (fun e => h.b2 (by subst e; exact hz))
  have hs := turned_size tt
  refine ⟨(turned_block tt h.ne).trans h1.head, ⟨_, ?_, g'.congr fun kl' => ?_⟩, fun kl' p' hp' => ?_, fun kl' hn' => ?_, fun kl1 kl2 p1 p2 hne e1 e2 => ?_, h1.tab.of0 (Q 0 h.pos), h1.bel.trans (turned_below tt (Nat.zero_le _)) Q, h.zlt, h.pos, h.b1, h.b2, h.ne, h.lo1, h.lo2, h.hi1, h.hi2⟩
  · split <;> omega
  · by_cases e : kl' = kl
    · subst e; rw [putM_same, upd_same]; rfl
    · rw [putM_other _ _ e, upd_other _ _ e]
  · by_cases e : kl' = kl
    · subst e
      rw [upd_same] at hp'
      obtain rfl := Option.some.inj hp'
      rw [h.new kl' hB]
      have := P.i1
      exact ⟨(P.of_blocks (fun b _ hb1 hb2 => turned_block tt (by omega))).more (by omega), fun b a1 _ hz => (by have := h.zlt b hz; have := h.bel.size; omega), by omega, by omega, by omega⟩
    · rw [upd_other _ _ e] at hp'
      obtain ⟨q1, q2, q3, q4, q5⟩ := h1.part kl' p' hp'
      exact ⟨(q1.of_blocks (fun b _ hb1 hb2 => turned_block tt (by omega))).more (by omega), q2, by omega, q4, q5⟩
  · by_cases e : kl' = kl
    · subst e; rw [upd_same] at hn'; cases hn'
    · rw [upd_other _ _ e] at hn'; exact h.new kl' hn'
  · by_cases a : kl1 = kl
    · subst a
      rw [upd_same] at e1
      obtain rfl := Option.some.inj e1
      rw [upd_other _ _ (Ne.symm hne)] at e2
      have := (h.part kl2 p2 e2).2.2.1
      omega
    · rw [upd_other _ _ a] at e1
      by_cases b : kl2 = kl
      · subst b
        rw [upd_same] at e2
        obtain rfl := Option.some.inj e2
        have := (h.part kl1 p1 e1).2.2.1
        omega
      · rw [upd_other _ _ b] at e2
        exact h.disj kl1 kl2 p1 p2 hne e1 e2
end
end Go.Proofs.YthkadlmdjgdliaaDoor
