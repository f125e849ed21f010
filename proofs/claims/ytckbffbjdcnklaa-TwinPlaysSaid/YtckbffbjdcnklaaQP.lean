/- The document's own table: Put and Remove. -/
import Derived.Test.YtckbffbjdcnklaaQA
namespace Go.Proofs.Ytckbffbjdcnklaa
open Go.RowKit
set_option linter.unusedSimpArgs false
set_option linter.unusedVariables false

section
variable {w w' : World} {xb : Nat} {room : Int} {l : List QR} {v : Value}
set_option maxHeartbeats 800000 in
theorem qput_old (h : XT w xb room l) (a : ByteArray) (b : Int) (v : ByteArray) (hl : l.length < 70000) (ra rb : Nat) (sa sb : Bool)
    (hA : Calls Try.prog 52 #[.pointer (some ⟨xb, 0, none⟩), .string a] w fun e w' => e = .returned (.tuple #[.int .i64 (ra : Int), .bool sa]) ∧ w = w')
    (hB : Calls Try.prog 53 #[.pointer (some ⟨xb, 0, none⟩), .int .i64 b] w fun e w' => e = .returned (.tuple #[.int .i64 (rb : Int), .bool sb]) ∧ w = w') (hs : sa = true ∨ sb = true) :
    Calls Try.prog 54 #[.pointer (some ⟨xb, 0, none⟩), .string a, .int .i64 b, .string v] w fun e w' => e = .returned (.tuple #[.int .i64 0, .int .i64 20]) ∧ w = w' := by
  have HA := Lib.hid hA
  have HB := Lib.hid hB
  clear h hA hB
  cases sa
  · obtain rfl : sb = true := by simpa using hs
    clear hs
    go_enter Try.func54, Try.ntmps54
    go_wp2_with fail
    refine (HA.out).mono ?_
    rintro e w' ⟨rfl, rfl⟩
    go_wp2_with fail
    refine (HB.out).mono ?_
    rintro e w' ⟨rfl, rfl⟩
    go_wp2
    go_ret2
    exact ⟨rfl, rfl⟩
  · clear hs
    go_enter Try.func54, Try.ntmps54
    go_wp2_with fail
    refine (HA.out).mono ?_
    rintro e w' ⟨rfl, rfl⟩
    go_wp2_with fail
    refine (HB.out).mono ?_
    rintro e w' ⟨rfl, rfl⟩
    go_wp2
    go_ret2
    exact ⟨rfl, rfl⟩
theorem View.nil0 (w : World) (f o c : Nat) : View w (.slice (some ⟨f, o, none⟩) 0 c) [] := .inr ⟨f, o, c, rfl, fun i q k hi => by simp at hi⟩
set_option maxRecDepth 100000 in
set_option maxHeartbeats 1600000 in
theorem qput_new (h : XT w xb room l) (a : ByteArray) (b : Int) (v : ByteArray) (hl : l.length < 60000) (ra rb i : Nat)
    (hA : Calls Try.prog 52 #[.pointer (some ⟨xb, 0, none⟩), .string a] w fun e w' => e = .returned (.tuple #[.int .i64 (ra : Int), .bool false]) ∧ w = w')
    (hB : Calls Try.prog 53 #[.pointer (some ⟨xb, 0, none⟩), .int .i64 b] w fun e w' => e = .returned (.tuple #[.int .i64 (rb : Int), .bool false]) ∧ w = w') (hr : ¬ (l.length : Int) = room)
    (hi : i ≤ l.length) (h1 : ∀ j q, j < i → l[j]? = some q → q.h = j + 1) (h2 : ∀ q, l[i]? = some q → q.h ≠ i + 1) :
    Calls Try.prog 54 #[.pointer (some ⟨xb, 0, none⟩), .string a, .int .i64 b, .string v] w fun e w' => e = .returned (.tuple #[.int .i64 ((i : Int) + 1), .int .i64 0]) ∧ XTN w' xb room (l.take i ++ [⟨i + 1, a, b, v⟩] ++ l.drop i) w.heap.size ∧ Chg (fun b => b = xb) w w' := by
  have HX := Lib.hid h
  obtain ⟨vl, hh, hla⟩ := h
  obtain ⟨va, vc, rfl⟩ := hla.slice
  have c0 := hh.cell 0
  have c1 := hh.cell 1
  simp at c0 c1
  obtain ⟨len, hlen⟩ : ∃ len, len = l.length := ⟨_, rfl⟩
  rw [← hlen] at c1 hr hi hl
  have HL := Lib.hid hlen
  have HA := Lib.hid hA
  have HB := Lib.hid hB
  have HLA := Lib.hid hla
  have H1 := Lib.hid h1
  have H2 := Lib.hid h2
  have HH := Lib.hid hh
  clear hA hB hla h1 h2 hh hlen
  go_enter Try.func54, Try.ntmps54
  go_wp2_with fail
  refine (HA.out).mono ?_
  rintro e w' ⟨rfl, rfl⟩
  go_wp2_with fail
  refine (HB.out).mono ?_
  rintro e w' ⟨rfl, rfl⟩
  go_wp2_with fail
  go_quiet (fail)
  go_wp2_with fail
  obtain ⟨wd, hwd⟩ : ∃ wd, wd = w.drewN nq := ⟨_, rfl⟩
  have kh : wd.heap = w.heap := by rw [hwd]; rfl
  have XD : XT wd xb room l := by
    obtain ⟨v0, q1, q2⟩ := HX.out
    refine ⟨v0, (congrArg (fun h => h[xb]?) kh).trans q1, ?_⟩
    rcases q2 with q2 | ⟨f, c, cur, e, g1, g2⟩
    · exact .inl q2
    · exact .inr ⟨f, c, cur, e, (congrArg (fun h => h[f]?) kh).trans g1, g2⟩
  have LD : LAt wd (.slice va len vc) l := by
    rcases HLA.out with q2 | ⟨f, c, cur, e, g1, g2⟩
    · exact .inl (by rw [HL.out]; exact q2)
    · exact .inr ⟨f, c, cur, by rw [HL.out]; exact e, (congrArg (fun h => h[f]?) kh).trans g1, g2⟩
  have HD : Has wd xb 69 #[.int .i64 room, .slice va len vc] := (congrArg (fun h => h[xb]?) kh).trans (by rw [HL.out]; exact HH.out)
  have CD : Chg (fun b => b = xb) w wd := by rw [hwd]; exact (Chg.refl _ w).dr _
  have d1 := HD.cell 1
  simp at d1
  have HK := Lib.hid (And.intro LD (And.intro HD CD))
  obtain ⟨va', vc', e1, rows⟩ := XD.cell1
  have hrows : Hid (∀ j q, l[j]? = some q → wd.cell? ⟨(va.getD ⟨0, 0, none⟩).block, j * 4, none⟩ = some (.int .i64 (q.h : Int)) ∧ ∃ f, va = some ⟨f, 0, none⟩) := fun j q hq => by
    rw [d1] at e1
    cases e1
    obtain ⟨f, rfl, cc, _⟩ := rows j q hq
    exact ⟨cc 0 (by omega), f, rfl⟩
  rw [← hwd]
  clear hwd kh XD LD HD CD e1 rows c0 c1 hr
  go_loopw [14] (fun x wr => wr = wd ∧ ∃ j : Nat, x = .int .i64 (j : Int) ∧ j ≤ i) (fun x _ => i - (intOf x).toNat)
  case atStart => exact ⟨rfl, 0, rfl, by omega⟩
  case round =>
    obtain ⟨rfl, j, rfl, hj⟩ := hrel
    have j0 : (0 : Int) ≤ (j : Int) := Int.natCast_nonneg _
    by_cases hji : j < i
    · have q1 : (j : Int) < (len : Int) := by omega
      have q1n : j < len := by omega
      obtain ⟨q, hq⟩ : ∃ q, l[j]? = some q := ⟨l[j]'(by rw [← HL.out]; omega), List.getElem?_eq_getElem _⟩
      obtain ⟨d0, f, rfl⟩ := hrows.out j q hq
      have hqh := H1.out j q hji hq
      rw [hqh] at d0
      have d0' : wr.cell? ⟨f, j * 4, none⟩ = some (.int .i64 ((j : Int) + 1)) := by simpa using d0
      clear d0 hq hqh
      go_wp2_with fail
      go_roundw
      case rel => exact ⟨trivial, j + 1, rfl, by omega⟩
      case measure => simp [intOf]; omega
    · obtain rfl : j = i := by omega
      by_cases hjl : j < len
      · have q1 : (j : Int) < (len : Int) := by omega
        obtain ⟨q, hq⟩ : ∃ q, l[j]? = some q := ⟨l[j]'(by rw [← HL.out]; omega), List.getElem?_eq_getElem _⟩
        obtain ⟨d0, f, rfl⟩ := hrows.out j q hq
        have hqh := H2.out q hq
        have hne : ¬ (q.h : Int) = (j : Int) + 1 := by omega
        have d0' : wr.cell? ⟨f, j * 4, none⟩ = some (.int .i64 (q.h : Int)) := d0
        clear d0 hq
        have hjc : (j : Int) ≤ (vc : Int) := by
          rcases HK.out.1 with ⟨e, _⟩ | ⟨f2, c2, cur2, e, _, _, g3, _⟩
          · cases e
          · cases e; have := HL.out; omega
        have hlc : len ≤ vc := by
          rcases HK.out.1 with ⟨e, _⟩ | ⟨f2, c2, cur2, e, _, _, g3, _⟩
          · cases e
          · cases e; have := HL.out; omega
        have hvj : ¬ vc = j := by omega
        have hvj2 : ¬ j = vc := by omega
        have hvj3 : ¬ (vc : Int) = (j : Int) := by omega
        have hlv : (len : Int) ≤ (vc : Int) := by omega
        have NILL : LAt wr (.slice none 0 0) [] := .inl ⟨rfl, rfl⟩
        have V1 := HK.out.1.takeV (j := j) (by omega)
        have L1 : (l.take j).length = j := by rw [List.length_take]; have := HL.out; omega
        have L3 : (l.drop j).length = len - j := by rw [List.length_drop, HL.out]
        have hxl := HK.out.2.1.lt
        have hfl : f < wr.heap.size := by
          rcases HK.out.1 with ⟨e, _⟩ | ⟨f2, c2, cur2, e, g1, _⟩
          · cases e
          · cases e; exact g1.lt
        have DK : Hid (∀ W : World, (∀ k, k < wr.heap.size → W.heap[k]? = wr.heap[k]?) → W.cell? ⟨xb, 1, none⟩ = some (.slice (some ⟨f, 0, none⟩) len vc) ∧ W.frozen? ⟨xb, 1, none⟩ = false ∧ View W (.slice (some ⟨f, j * 4, none⟩) (len - j) (vc - j)) (l.drop j)) := fun W EK =>
          And.intro ((World.cell?_of_block (a := ⟨xb, 1, none⟩) (EK xb hxl)).trans d1) (And.intro (Has.free ((EK xb hxl).trans HK.out.2.1 : Has W xb 69 _) 1) ((HK.out.1.dropV (d := vc - j) (j := j) (by omega)).of_block (w' := W) (fun f' o' c' k' e' => by cases e'; exact EK _ hfl)))
        have LO : ([(⟨j + 1, a, b, v⟩ : QR)] : List QR).length = 1 := rfl
        have L2 : (l.take j ++ [(⟨j + 1, a, b, v⟩ : QR)]).length = j + 1 := by rw [List.length_append, L1, LO]
        go_wp2_with (first
          | (at_builtin; (refine wpList_app rfl _ _ rfl (.slice none 0 0) (.slice (some ⟨f, 0, none⟩) j vc) [] (l.take j) rfl rfl NILL V1 (by rw [L1]; simp; omega) j (by rw [L1]; simp) ?_); intro b1 c1 w1 A1 G1 N1; have A1' := A1.grow ((Below.refl _ _).alloc (Nat.le_refl _) (.cells #[.int .i64 ((j : Int) + 1), .string a, .int .i64 b, .string v] 71)); have V2 := View.one w1 (⟨j + 1, a, b, v⟩ : QR) ((j : Int) + 1) (by simp); clear V1 NILL)
          | (at_builtin; (refine wpList_app rfl _ _ rfl _ _ (l.take j) [(⟨j + 1, a, b, v⟩ : QR)] rfl rfl A1' V2 (by rw [L1, LO]; omega) (j + 1) (by rw [L1, LO]) ?_); intro b2 c2 w2 A2 G2 N2; clear A1' V2; have DD := DK.out w2 (app_keep G1 N1 G2); have d2 := DD.1; have f2 := DD.2.1; have V3 := DD.2.2; clear DD)
          | (at_builtin; (refine wpList_app rfl _ _ rfl _ _ (l.take j ++ [(⟨j + 1, a, b, v⟩ : QR)]) (l.drop j) rfl rfl A2 V3 (by rw [L2, L3]; omega) (len + 1) (by rw [L2, L3]; omega) ?_); intro b3 c3 w3 A3 G3 N3; have D3 := DK.out w3 (app_keep2 G1 N1 G2 N2 G3); have d3 := D3.1; have f3 := D3.2.1; clear V3 D3 d2 f2))
        go_ret2
        have KX : Has w3 xb 69 #[.int .i64 room, .slice (some ⟨f, 0, none⟩) len vc] := (app_keep2 G1 N1 G2 N2 G3 xb hxl).trans HK.out.2.1
        refine ⟨rfl, ⟨_, Has.set KX 1 _, A3.setOther (fun k hk => ?_) _ _, fun k hk => Nat.le_trans HK.out.2.2.size (app_own G1.size G2.size N1 N2 N3 k hk)⟩, (HK.out.2.2.trans (app_chg _ G1 N1 G2 N2 G3)).set rfl _ _⟩
        have := app_own G1.size G2.size N1 N2 N3 k hk
        omega
      · have hjlen : j = len := by omega
        subst hjlen
        have q1 : ¬ ((j : Int) < (j : Int)) := by omega
        have q1n : ¬ (j < j) := by omega
        have NILL : LAt wr (.slice none 0 0) [] := .inl ⟨rfl, rfl⟩
        have TDL : Hid (l.take j = l ∧ l.drop j = []) := ⟨by rw [List.take_of_length_le]; rw [← HL.out]; exact Nat.le_refl _, by rw [List.drop_eq_nil_iff, ← HL.out]; exact Nat.le_refl _⟩
        have hxl := HK.out.2.1.lt
        have LO : ([(⟨j + 1, a, b, v⟩ : QR)] : List QR).length = 1 := rfl
        have LL : l.length = j := HL.out.symm
        have L2 : (l ++ [(⟨j + 1, a, b, v⟩ : QR)]).length = j + 1 := by rw [List.length_append, LL, LO]
        have hlc : j ≤ vc := by
          rcases HK.out.1 with ⟨e, h0⟩ | ⟨f2, c2, cur2, e, _, _, g3, _⟩
          · cases e; omega
          · cases e; have := HL.out; omega
        have hjc : (j : Int) ≤ (vc : Int) := by omega
        have DK : Hid (∀ W : World, (∀ k, k < wr.heap.size → W.heap[k]? = wr.heap[k]?) → W.cell? ⟨xb, 1, none⟩ = some (.slice va j vc) ∧ W.frozen? ⟨xb, 1, none⟩ = false) := fun W EK =>
          And.intro ((World.cell?_of_block (a := ⟨xb, 1, none⟩) (EK xb hxl)).trans d1) (Has.free ((EK xb hxl).trans HK.out.2.1 : Has W xb 69 _) 1)
        cases va with
        | none =>
          have hn0 : j = 0 ∧ vc = 0 := by
            rcases HK.out.1 with ⟨e, h0⟩ | ⟨f2, c2, cur2, e, _, _, g3, _⟩
            · cases e; exact ⟨rfl, rfl⟩
            · cases e
          obtain ⟨rfl, rfl⟩ := hn0
          have V1 : View wr (.slice none 0 0) l := .inl ⟨rfl, List.eq_nil_of_length_eq_zero LL⟩
          go_wp2_with (first
            | (at_builtin; (refine wpList_app rfl _ _ rfl (.slice none 0 0) (.slice none 0 0) [] l rfl rfl NILL V1 (by rw [LL]; simp <;> omega) (0) (by rw [LL]; simp) ?_); intro b1 c1 w1 A1 G1 N1; have A1' := A1.grow ((Below.refl _ _).alloc (Nat.le_refl _) (.cells #[.int .i64 (1), .string a, .int .i64 b, .string v] 71)); have V2 := View.one w1 (⟨0 + 1, a, b, v⟩ : QR) (1) (by simp); clear V1 NILL)
            | (at_builtin; (refine wpList_app rfl _ _ rfl _ _ l [(⟨0 + 1, a, b, v⟩ : QR)] rfl rfl A1' V2 (by rw [LL, LO]; simp <;> omega) (0 + 1) (by rw [LL, LO]) ?_); intro b2 c2 w2 A2 G2 N2; clear A1' V2; have DD := DK.out w2 (app_keep G1 N1 G2); have d2 := DD.1; have f2 := DD.2; clear DD)
            | (at_builtin; (refine wpList_app rfl _ _ rfl _ (.slice none 0 0) (l ++ [(⟨0 + 1, a, b, v⟩ : QR)]) [] rfl rfl A2 (.inl ⟨rfl, rfl⟩) (by rw [L2]; simp <;> omega) (0 + 1) (by rw [List.length_nil, L2]) ?_); intro b3 c3 w3 A3 G3 N3; have D3 := DK.out w3 (app_keep2 G1 N1 G2 N2 G3); have d3 := D3.1; have f3 := D3.2; clear D3 d2 f2))
          go_ret2
          have KX := (app_keep2 G1 N1 G2 N2 G3 xb hxl).trans HK.out.2.1
          refine ⟨rfl, ⟨_, Has.set KX 1 _, ?_, fun k hk => Nat.le_trans HK.out.2.2.size (app_own G1.size G2.size N1 N2 N3 k hk)⟩, (HK.out.2.2.trans (app_chg _ G1 N1 G2 N2 G3)).set rfl _ _⟩
          have l0 := List.eq_nil_of_length_eq_zero LL
          subst l0
          have A4 := A3.setOther (b := xb) (fun k hk => ?_) 1 (.slice b3 1 c3)
          · exact A4
          have := app_own G1.size G2.size N1 N2 N3 k hk
          omega
        | some f0 =>
          obtain ⟨f, rfl⟩ : ∃ f, f0 = ⟨f, 0, none⟩ := by
            rcases HK.out.1 with ⟨e, h0⟩ | ⟨f2, c2, cur2, e, _, _, g3, _⟩
            · cases e
            · cases e; exact ⟨_, rfl⟩
          by_cases hv : vc = j
          · have hvj : j = vc := hv.symm
            subst hvj
            clear hv hlc hjc
            have V1 := HK.out.1.takeV (j := j) (Nat.le_refl _)
            rw [TDL.out.1] at V1
            go_wp2_with (first
              | (at_builtin; (refine wpList_app rfl _ _ rfl (.slice none 0 0) (.slice (some ⟨f, 0, none⟩) j j) [] l rfl rfl NILL V1 (by rw [LL]; simp <;> omega) (j) (by rw [LL]; simp) ?_); intro b1 c1 w1 A1 G1 N1; have A1' := A1.grow ((Below.refl _ _).alloc (Nat.le_refl _) (.cells #[.int .i64 ((j : Int) + 1), .string a, .int .i64 b, .string v] 71)); have V2 := View.one w1 (⟨j + 1, a, b, v⟩ : QR) ((j : Int) + 1) (by simp); clear V1 NILL)
              | (at_builtin; (refine wpList_app rfl _ _ rfl _ _ l [(⟨j + 1, a, b, v⟩ : QR)] rfl rfl A1' V2 (by rw [LL, LO]; simp <;> omega) (j + 1) (by rw [LL, LO]) ?_); intro b2 c2 w2 A2 G2 N2; clear A1' V2; have DD := DK.out w2 (app_keep G1 N1 G2); have d2 := DD.1; have f2 := DD.2; clear DD)
              | (at_builtin; (refine wpList_app rfl _ _ rfl _ (.slice (some ⟨f, 0, none⟩) 0 0) (l ++ [(⟨j + 1, a, b, v⟩ : QR)]) [] rfl rfl A2 (View.nil0 _ _ _ _) (by rw [L2]; simp <;> omega) (j + 1) (by rw [List.length_nil, L2]) ?_); intro b3 c3 w3 A3 G3 N3; have D3 := DK.out w3 (app_keep2 G1 N1 G2 N2 G3); have d3 := D3.1; have f3 := D3.2; clear D3 d2 f2))
            go_ret2
            have KX := (app_keep2 G1 N1 G2 N2 G3 xb hxl).trans HK.out.2.1
            refine ⟨rfl, ⟨_, Has.set KX 1 _, ?_, fun k hk => Nat.le_trans HK.out.2.2.size (app_own G1.size G2.size N1 N2 N3 k hk)⟩, (HK.out.2.2.trans (app_chg _ G1 N1 G2 N2 G3)).set rfl _ _⟩
            rw [TDL.out.1, TDL.out.2]
            rw [List.append_nil] at A3
            refine A3.setOther (fun k hk => ?_) _ _
            have := app_own G1.size G2.size N1 N2 N3 k hk
            omega
          · have hvj : ¬ vc = j := hv
            have hvj2 : ¬ j = vc := by omega
            have hvj3 : ¬ (vc : Int) = (j : Int) := by omega
            have V1 := HK.out.1.takeV (j := j) (Nat.le_refl _)
            rw [TDL.out.1] at V1
            go_wp2_with (first
              | (at_builtin; (refine wpList_app rfl _ _ rfl (.slice none 0 0) (.slice (some ⟨f, 0, none⟩) j vc) [] l rfl rfl NILL V1 (by rw [LL]; simp <;> omega) (j) (by rw [LL]; simp) ?_); intro b1 c1 w1 A1 G1 N1; have A1' := A1.grow ((Below.refl _ _).alloc (Nat.le_refl _) (.cells #[.int .i64 ((j : Int) + 1), .string a, .int .i64 b, .string v] 71)); have V2 := View.one w1 (⟨j + 1, a, b, v⟩ : QR) ((j : Int) + 1) (by simp); clear V1 NILL)
              | (at_builtin; (refine wpList_app rfl _ _ rfl _ _ l [(⟨j + 1, a, b, v⟩ : QR)] rfl rfl A1' V2 (by rw [LL, LO]; simp <;> omega) (j + 1) (by rw [LL, LO]) ?_); intro b2 c2 w2 A2 G2 N2; clear A1' V2; have DD := DK.out w2 (app_keep G1 N1 G2); have d2 := DD.1; have f2 := DD.2; clear DD)
              | (at_builtin; (refine wpList_app rfl _ _ rfl _ (.slice (some ⟨f, j * 4, none⟩) 0 (vc - j)) (l ++ [(⟨j + 1, a, b, v⟩ : QR)]) [] rfl rfl A2 (View.nil0 _ _ _ _) (by rw [L2]; simp <;> omega) (j + 1) (by rw [List.length_nil, L2]) ?_); intro b3 c3 w3 A3 G3 N3; have D3 := DK.out w3 (app_keep2 G1 N1 G2 N2 G3); have d3 := D3.1; have f3 := D3.2; clear D3 d2 f2))
            go_ret2
            have KX := (app_keep2 G1 N1 G2 N2 G3 xb hxl).trans HK.out.2.1
            refine ⟨rfl, ⟨_, Has.set KX 1 _, ?_, fun k hk => Nat.le_trans HK.out.2.2.size (app_own G1.size G2.size N1 N2 N3 k hk)⟩, (HK.out.2.2.trans (app_chg _ G1 N1 G2 N2 G3)).set rfl _ _⟩
            rw [TDL.out.1, TDL.out.2]
            rw [List.append_nil] at A3
            refine A3.setOther (fun k hk => ?_) _ _
            have := app_own G1.size G2.size N1 N2 N3 k hk
            omega
theorem app_keep1 {wr w1 w2 : World} {b1 : Value} (G1 : wr.grownBy w1 (Value.slice none 0 0).ownBlock) (N1 : b1.ownBlock = (Value.slice none 0 0).ownBlock ∨ b1.ownBlock = some wr.heap.size) (G2 : w1.grownBy w2 b1.ownBlock) (k : Nat) (hk : k < wr.heap.size) : w2.heap[k]? = wr.heap[k]? := by
  have s1 := G1.size
  refine (G2.block k (by omega) (fun e => ?_)).trans (G1.block k hk (fun e => by cases e))
  rcases N1 with q | q
  · rw [q] at e; cases e
  · rw [q] at e; cases e; omega
theorem app_chg1 {wr w1 w2 : World} {b1 : Value} (S : Nat → Prop) (G1 : wr.grownBy w1 (Value.slice none 0 0).ownBlock) (N1 : b1.ownBlock = (Value.slice none 0 0).ownBlock ∨ b1.ownBlock = some wr.heap.size) (G2 : w1.grownBy w2 b1.ownBlock) : Chg S wr w2 := by
  have s1 := G1.size
  have s2 := G2.size
  exact ⟨G2.os.trans G1.os, G2.tape.trans G1.tape, G2.output.trans G1.output, by omega, fun k hk _ => app_keep1 G1 N1 G2 k hk⟩
theorem app_own1 {wr w1 : World} {b1 b2 : Value} (s1 : wr.heap.size ≤ w1.heap.size) (N1 : b1.ownBlock = (Value.slice none 0 0).ownBlock ∨ b1.ownBlock = some wr.heap.size) (N2 : b2.ownBlock = b1.ownBlock ∨ b2.ownBlock = some w1.heap.size) (k : Nat) (hk : b2.ownBlock = some k) : wr.heap.size ≤ k := by
  rcases N2 with q | q
  · rw [q] at hk
    rcases N1 with q | q
    · rw [q] at hk; cases hk
    · rw [q] at hk; cases hk; omega
  · rw [q] at hk; cases hk; omega
set_option maxHeartbeats 800000 in
theorem qput_full (h : XT w xb room l) (a : ByteArray) (b : Int) (v : ByteArray) (ra rb : Nat)
    (hA : Calls Try.prog 52 #[.pointer (some ⟨xb, 0, none⟩), .string a] w fun e w' => e = .returned (.tuple #[.int .i64 (ra : Int), .bool false]) ∧ w = w')
    (hB : Calls Try.prog 53 #[.pointer (some ⟨xb, 0, none⟩), .int .i64 b] w fun e w' => e = .returned (.tuple #[.int .i64 (rb : Int), .bool false]) ∧ w = w') (hr : (l.length : Int) = room) :
    Calls Try.prog 54 #[.pointer (some ⟨xb, 0, none⟩), .string a, .int .i64 b, .string v] w fun e w' => e = .returned (.tuple #[.int .i64 0, .int .i64 16]) ∧ ∃ q, w' = w.drewN q := by
  obtain ⟨vl, hh, hla⟩ := h
  obtain ⟨va, vc, rfl⟩ := hla.slice
  have c0 := hh.cell 0
  have c1 := hh.cell 1
  simp at c0 c1
  have HA := Lib.hid hA
  have HB := Lib.hid hB
  clear hA hB hh hla
  subst hr
  generalize l.length = len at c0 c1
  go_enter Try.func54, Try.ntmps54
  go_wp2_with fail
  refine (HA.out).mono ?_
  rintro e w' ⟨rfl, rfl⟩
  go_wp2_with fail
  refine (HB.out).mono ?_
  rintro e w' ⟨rfl, rfl⟩
  go_wp2_with fail
  go_quiet (fail)
  go_wp2_with fail
  go_ret2
  exact ⟨rfl, _, rfl⟩
set_option maxHeartbeats 800000 in
theorem qrem_no (h : XT w xb room l) (x : Int) (hl : l.length < 70000) (hb : ∀ (j : Nat) (q : QR), l[j]? = some q → ¬ (q.h : Int) = x) :
    Calls Try.prog 47 #[.pointer (some ⟨xb, 0, none⟩), .int .i64 x] w fun e w' => e = .returned (.bool false) ∧ w = w' := by
  have PL := Lib.hid (qplace_c h x l.length 0 false (Nat.le_refl _) hl (fun j q _ hq => hb j q hq) (fun q2 h2 => by simp at h2) (fun e => ⟨rfl, rfl⟩))
  clear h hb hl
  go_enter Try.func47, Try.ntmps47
  go_wp2_with fail
  refine (PL.out).mono ?_
  rintro e w' ⟨rfl, rfl⟩
  go_wp2
  go_ret
  exact ⟨rfl, rfl⟩
end
end Go.Proofs.Ytckbffbjdcnklaa
