/- The document's own table: Remove. -/
import Derived.Test.YtckbffbjdcnklaaQP
namespace Go.Proofs.Ytckbffbjdcnklaa
open Go.RowKit
set_option linter.unusedSimpArgs false
set_option linter.unusedVariables false

section
variable {w w' : World} {xb : Nat} {room : Int} {l : List QR} {v : Value}
set_option maxRecDepth 100000 in
set_option maxHeartbeats 1600000 in
theorem qrem_yes (h : XT w xb room l) (x i : Nat) (q : QR) (hl : l.length < 60000) (hb : ∀ (j : Nat) (q : QR), j < i → l[j]? = some q → ¬ (q.h : Int) = (x : Int)) (hq : l[i]? = some q) (hx : q.h = x) :
    Calls Try.prog 47 #[.pointer (some ⟨xb, 0, none⟩), .int .i64 (x : Int)] w fun e w' => e = .returned (.bool true) ∧ XTN w' xb room (l.take i ++ l.drop (i + 1)) w.heap.size ∧ Chg (fun b => b = xb) w w' := by
  have hi : i < l.length := (List.getElem?_eq_some_iff.1 hq).1
  have PL := Lib.hid (qplace_c h (x : Int) i i true (by omega) (by omega) hb (fun q2 h2 => ⟨by rw [hq] at h2; cases h2; rw [hx], rfl, rfl⟩) (fun e => by omega))
  obtain ⟨vl, hh, hla⟩ := h
  obtain ⟨f, c, cur, rfl, g1, g2, g3, g4, g5⟩ : ∃ f c cur, vl = .slice (some ⟨f, 0, none⟩) l.length c ∧ Has w f 71 cur ∧ cur.size = c * 4 ∧ l.length ≤ c ∧ c ≤ maxLen ∧ ∀ i q k, l[i]? = some q → k < 4 → cur[i * 4 + k]? = some (qf q k) := by
    rcases hla with ⟨e, rfl⟩ | h
    · simp at hq
    · exact h
  have c1 := hh.cell 1
  simp at c1
  obtain ⟨len, hlen⟩ : ∃ len, len = l.length := ⟨_, rfl⟩
  rw [← hlen] at c1 hi hl g3
  have HL := Lib.hid hlen
  have HLA := Lib.hid hla
  have HH := Lib.hid hh
  have hxl := hh.lt
  have hfl := g1.lt
  have q1 : (i : Int) < (len : Int) := by omega
  have q0 : (0 : Int) ≤ (i : Int) := Int.natCast_nonneg _
  have qc : (i : Int) ≤ (c : Int) := by omega
  have qc1 : (i : Int) + 1 ≤ (c : Int) := by omega
  have ql1 : (i : Int) + 1 ≤ (len : Int) := by omega
  have hlv : (len : Int) ≤ (c : Int) := by omega
  have L1 : (l.take i).length = i := by rw [List.length_take, ← hlen]; omega
  have L3 : (l.drop (i + 1)).length = len - (i + 1) := by rw [List.length_drop, ← hlen]
  have HL13 := Lib.hid (And.intro L1 L3)
  have hla2 : LAt w (.slice (some ⟨f, 0, none⟩) len c) l := by rw [hlen]; exact hla
  have V1 := hla2.takeV (j := i) (by omega)
  have NILL : LAt w (.slice none 0 0) [] := .inl ⟨rfl, rfl⟩
  have VD := Lib.hid (hla2.dropV (d := c - (i + 1)) (j := i + 1) (by omega))
  have DK : Hid (∀ W : World, (∀ k, k < w.heap.size → W.heap[k]? = w.heap[k]?) → W.cell? ⟨xb, 1, none⟩ = some (.slice (some ⟨f, 0, none⟩) len c) ∧ W.frozen? ⟨xb, 1, none⟩ = false ∧ View W (.slice (some ⟨f, (i + 1) * 4, none⟩) (len - (i + 1)) (c - (i + 1))) (l.drop (i + 1))) := fun W EK =>
    And.intro ((World.cell?_of_block (a := ⟨xb, 1, none⟩) (EK xb hxl)).trans c1) (And.intro (Has.free ((EK xb hxl).trans HH.out : Has W xb 69 _) 1) (VD.out.of_block (w' := W) (fun f' o' c' k' e' => by cases e'; exact EK _ hfl)))
  clear hla hla2 hh hb hq g1 g2 g4 g5 hlen L1 L3
  by_cases hcv : i + 1 = c
  · subst hcv
    have hn : len = i + 1 := by omega
    subst hn
    go_enter Try.func47, Try.ntmps47
    go_wp2_with fail
    refine (PL.out).mono ?_
    rintro e w' ⟨rfl, rfl⟩
    go_wp2_with (first
      | (at_builtin; (refine wpList_app rfl _ _ rfl (.slice none 0 0) (.slice (some ⟨f, 0, none⟩) i (i + 1)) [] (l.take i) rfl rfl NILL V1 (by rw [HL13.out.1]; simp; omega) i (by rw [HL13.out.1]; simp) ?_); intro b1 c1 w1 A1 G1 N1; have DD := DK.out w1 (fun k hk => G1.block k hk (fun e => by cases e)); have d2 := DD.1; have f2 := DD.2.1; clear DD V1 NILL)
      | (at_builtin; go_loud (refine wpList_app rfl _ _ rfl _ (.slice (some ⟨f, 0, none⟩) 0 0) (l.take i) [] rfl rfl A1 (View.nil0 _ _ _ _) (by rw [HL13.out.1]; simp; omega) i (by rw [HL13.out.1]; simp) ?_); intro b3 c3 w3 A3 G3 N3; have D3 := DK.out w3 (app_keep1 G1 N1 G3); have d3 := D3.1; have f3 := D3.2.1; clear D3 d2 f2))
    go_ret
    have KX := (app_keep1 G1 N1 G3 xb hxl).trans HH.out
    refine ⟨rfl, ⟨_, Has.set KX 1 _, ?_, fun k hk => app_own1 G1.size N1 N3 k hk⟩, (app_chg1 (fun b => b = xb) G1 N1 G3).set rfl _ _⟩
    have hd : l.drop (i + 1) = [] := by rw [List.drop_eq_nil_iff, ← HL.out]; exact Nat.le_refl _
    rw [hd]
    refine A3.setOther (fun k hk => ?_) _ _
    have := app_own1 G1.size N1 N3 k hk
    omega
  · have hcv2 : ¬ c = i + 1 := by omega
    have hcv3 : ¬ (c : Int) = (i : Int) + 1 := by omega
    go_enter Try.func47, Try.ntmps47
    go_wp2_with fail
    refine (PL.out).mono ?_
    rintro e w' ⟨rfl, rfl⟩
    go_wp2_with (first
      | (at_builtin; (refine wpList_app rfl _ _ rfl (.slice none 0 0) (.slice (some ⟨f, 0, none⟩) i c) [] (l.take i) rfl rfl NILL V1 (by rw [HL13.out.1]; simp; omega) i (by rw [HL13.out.1]; simp) ?_); intro b1 c1 w1 A1 G1 N1; have DD := DK.out w1 (fun k hk => G1.block k hk (fun e => by cases e)); have d2 := DD.1; have f2 := DD.2.1; have V3 := DD.2.2; clear DD V1 NILL)
      | (at_builtin; go_loud (refine wpList_app rfl _ _ rfl _ (.slice (some ⟨f, (i + 1) * 4, none⟩) (len - (i + 1)) (c - (i + 1))) (l.take i) (l.drop (i + 1)) rfl rfl A1 V3 (by rw [HL13.out.1, HL13.out.2]; omega) (len - 1) (by rw [HL13.out.1, HL13.out.2]; omega) ?_); intro b3 c3 w3 A3 G3 N3; have D3 := DK.out w3 (app_keep1 G1 N1 G3); have d3 := D3.1; have f3 := D3.2.1; clear V3 D3 d2 f2))
    go_ret
    have KX := (app_keep1 G1 N1 G3 xb hxl).trans HH.out
    refine ⟨rfl, ⟨_, Has.set KX 1 _, A3.setOther (fun k hk => ?_) _ _, fun k hk => app_own1 G1.size N1 N3 k hk⟩, (app_chg1 (fun b => b = xb) G1 N1 G3).set rfl _ _⟩
    have := app_own1 G1.size N1 N3 k hk
    omega
end
end Go.Proofs.Ytckbffbjdcnklaa
