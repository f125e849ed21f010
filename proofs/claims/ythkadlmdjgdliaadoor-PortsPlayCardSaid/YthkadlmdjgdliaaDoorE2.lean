/- Contracts of Take and Free that say what else they leave; the cursor's state in a law. -/
import Derived.Test.YthkadlmdjgdliaaDoorE
import Derived.Test.YthkadlmdjgdliaaDoorD2
namespace Go.Proofs.YthkadlmdjgdliaaDoor
open Go.RowKit
set_option linter.unusedSimpArgs false
set_option linter.unusedVariables false
open V2 (Only)

theorem Cur.of_blocks {w w' : World} {cb wb n at1 : Nat} {U : Nat → Bool} (h : Cur w cb wb n at1 U) (e1 : w'.heap[cb]? = w.heap[cb]?) (e2 : w'.heap[wb]? = w.heap[wb]?) : Cur w' cb wb n at1 U := by
  obtain ⟨hd, ⟨W, h1, h2⟩, lo, hi, hat, top, ne⟩ := h
  exact ⟨e1.trans hd, ⟨W, e2.trans h1, h2⟩, lo, hi, hat, top, ne⟩
section
variable {w0 w : World} {cb wb n at1 : Nat} {U : Nat → Bool}
/-- Another block of the law's own was written. -/
theorem St.other (h : St w0 w cb wb n at1 U) {w' : World} {mb : Nat} (hb : Below w0.heap.size w w') (e : ∀ b, b ≠ mb → b < w.heap.size → w'.heap[b]? = w.heap[b]?) (n1 : mb ≠ cb) (n2 : mb ≠ wb) : St w0 w' cb wb n at1 U :=
  ⟨h.cur.of_blocks (e cb (Ne.symm n1) h.cur.head.lt) (e wb (Ne.symm n2) (by obtain ⟨W, hw, _⟩ := h.cur.words; exact hw.lt)), h.tab.below hb h.pos, h.bel.trans hb, h.b1, h.b2, h.pos⟩
theorem take2 (h : St w0 w cb wb n at1 U) :
    Calls Tryd.prog 21 #[.pointer (some ⟨cb, 0, none⟩)] w fun e w' =>
      ((∀ k, k < n → U k = true) ∧ e = .returned (.tuple #[.int .i64 0, .bool false]) ∧ St w0 w' cb wb n at1 U ∧ Only cb wb w w') ∨
      ∃ k, V2.Next U n at1 k ∧ e = .returned (.tuple #[.int .i64 k, .bool true]) ∧ St w0 w' cb wb n ((k + 1) % n) (setU U k true) ∧ Only cb wb w w' :=
  (V2.take_c cb wb n at1 U w h.tab h.cur).mono fun e w' H => by
    rcases H with ⟨ha, he, hc, ho⟩ | ⟨k, hk, he, hc, ho⟩
    · exact .inl ⟨ha, he, h.next hc ho.1, ho⟩
    · exact .inr ⟨k, hk, he, h.next hc ho.1, ho⟩
theorem free2 (k : Nat) (h : St w0 w cb wb n at1 U) (hk : k < n) (hu : U k = true) :
    Calls Tryd.prog 20 #[.pointer (some ⟨cb, 0, none⟩), .int .i64 k] w fun e w' => e = .returned (.bool true) ∧ St w0 w' cb wb n at1 (setU U k false) ∧ Only cb wb w w' :=
  (V2.free_yes cb wb n at1 U k w h.cur hk hu).mono fun e w' ⟨he, hc, hb⟩ => ⟨he, h.next hc hb.1, hb⟩
end
theorem cnt_all (U : Nat → Bool) : ∀ n, (∀ k, k < n → U k = true) → cnt U n = n
  | 0, _ => rfl
  | n + 1, h => by
    unfold cnt
    rw [cnt_all U n (fun k hk => h k (by omega)), h n (by omega)]
    rfl
theorem cnt_lt (U : Nat → Bool) (n k : Nat) (hk : k < n) (hu : U k = false) : cnt U n < n := by
  have := cnt_set U k true n hk
  have h2 := cnt_le (setU U k true) n
  rw [hu] at this
  simp at this
  omega
theorem cnt_in (U : Nat → Bool) (n k : Nat) (hk : k < n) (hu : U k = false) : cnt (setU U k true) n = cnt U n + 1 := by
  have := cnt_set U k true n hk
  rw [hu] at this
  simpa using this
theorem cnt_out (U : Nat → Bool) (n k : Nat) (hk : k < n) (hu : U k = true) : cnt (setU U k false) n + 1 = cnt U n := by
  have := cnt_set U k false n hk
  rw [hu] at this
  simpa using this
end Go.Proofs.YthkadlmdjgdliaaDoor
