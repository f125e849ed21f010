/- The walk of CountSums. -/
import Derived.Test.YthndeejgcpmblaaDoorS
import Derived.Test.YthndeejgcpmblaaDoorH
import Derived.Deep.RegionHeld3
namespace Go.Proofs.YthndeejgcpmblaaDoor
open Go.RowKit
set_option linter.unusedSimpArgs false
set_option linter.unusedVariables false

/-- How many reasons below n were counted. -/
def pos (f : Nat → Nat) : Nat → Nat
  | 0 => 0
  | n + 1 => pos f n + if 0 < f n then 1 else 0
theorem ln_pos (D : Nat → ByteArray) (f : Nat → Nat) : ∀ n, (ln D f n).length = pos f n
  | 0 => rfl
  | n + 1 => by unfold ln pos; rw [List.length_append, ln_pos D f n]; split <;> rfl
theorem pos_above (f : Nat → Nat) (k : Nat) : ∀ n, n ≤ k → pos (inc f k) n = pos f n
  | 0, _ => rfl
  | n + 1, h => by unfold pos; rw [pos_above f k n (by omega)]; unfold inc; simp [show n ≠ k by omega]
theorem pos_inc (f : Nat → Nat) (k : Nat) : ∀ n, k < n → pos (inc f k) n = if 0 < f k then pos f n else pos f n + 1
  | 0, h => by omega
  | n + 1, h => by
    by_cases e : n = k
    · subst e
      unfold pos
      rw [pos_above f n n (Nat.le_refl _)]
      unfold inc
      by_cases h0 : 0 < f n <;> simp [h0]
    · have := pos_inc f k n (by omega)
      unfold pos
      rw [this]
      unfold inc
      simp only [e, if_false]
      split <;> omega
theorem pos_le (f : Nat → Nat) : ∀ n, pos f n ≤ n
  | 0 => Nat.le_refl _
  | n + 1 => by have := pos_le f n; unfold pos; split <;> omega
def tot (f : Nat → Nat) : Nat → Nat := left f (fun _ => true)
theorem tot_succ (f : Nat → Nat) (n : Nat) : tot f (n + 1) = tot f n + f n := by unfold tot; rw [left]; simp
theorem tot_mono (f : Nat → Nat) : ∀ a b, a ≤ b → tot f a ≤ tot f b
  | a, 0, h => by obtain rfl : a = 0 := by omega
                  exact Nat.le_refl _
  | a, b + 1, h => by
    by_cases e : a = b + 1
    · subst e; exact Nat.le_refl _
    · have := tot_mono f a b (by omega); rw [tot_succ]; omega
theorem tot_above (f : Nat → Nat) (k : Nat) : ∀ n, n ≤ k → tot (inc f k) n = tot f n
  | 0, _ => rfl
  | n + 1, h => by rw [tot_succ, tot_succ, tot_above f k n (by omega)]; unfold inc; simp [show n ≠ k by omega]
theorem tot_inc (f : Nat → Nat) (k : Nat) : ∀ n, k < n → tot (inc f k) n = tot f n + 1
  | 0, h => by omega
  | n + 1, h => by
    rw [tot_succ, tot_succ]
    by_cases e : n = k
    · subst e
      rw [tot_above f n n (Nat.le_refl _)]
      simp [inc]; omega
    · rw [tot_inc f k n (by omega)]
      simp [inc, e]; omega

theorem keyed5 : Maps.Keyed Tryd.prog 5 := Maps.int_keyed Tryd.underlying5
theorem wf8 (x : Nat) (hx : x < 256) : (Lit.int .u8 (x : Int)).wf = true := by
  have hmin : IntKind.u8.min = 0 := rfl
  have hmax : IntKind.u8.max = 255 := rfl
  simp only [Lit.wf, Bool.and_eq_true, decide_eq_true_eq]
  omega
def metM (f : Nat → Nat) : Lit → Option Value
  | .int .u8 x => if 0 ≤ x ∧ 0 < f x.toNat then some (.int .i64 (f x.toNat)) else none
  | _ => none
/-- The law's own map of what it met. -/
def Mt (w : World) (b : Nat) (f : Nat → Nat) : Prop := GMap Tryd.prog w 5 b (pos f 22) (metM f)
theorem Mt.kept {w w' : World} {b : Nat} {f : Nat → Nat} (h : Mt w b f) (e : w'.heap[b]? = w.heap[b]?) : Mt w' b f := GMap.of_block h e
theorem Mt.look {w : World} {b : Nat} {f : Nat → Nat} (h : Mt w b f) (k : Nat) (hk : k < 256) (v : Nat) (hv : f k = v) : (Instr.lookup 43 (.map (some b)) (.int .u8 k) false).run Tryd.prog w = .ok (.int .i64 v) w := by
  have := GMap.look h keyed5 Tryd.underlying43 zero3 (key := .int .u8 k) (kl := .int .u8 k) (Maps.keyOf_int_mk Tryd.underlying5 (wf8 k hk))
  rw [this]
  subst hv
  unfold metM
  by_cases h0 : 0 < f k
  · simp [h0]
  · simp [h0]; omega
theorem metM_inc (f : Nat → Nat) (k : Nat) (kl : Lit) : putM (metM f) (.int .u8 k) (some (.int .i64 ((f k : Int) + 1))) kl = metM (inc f k) kl := by
  by_cases e : kl = .int .u8 k
  · subst e
    rw [putM_same]
    unfold metM inc
    simp
  · rw [putM_other _ _ e]
    unfold metM
    cases kl with
    | int q y =>
      cases q <;> simp
      by_cases h0 : 0 ≤ y
      · have : y.toNat ≠ k := fun q => e (by rw [← q]; congr 1; omega)
        simp [inc, this]
      · simp [h0]
    | _ => rfl
theorem Mt.add {w : World} {b : Nat} {f : Nat → Nat} (h : Mt w b f) (k : Nat) (hk : k < 22) (v : Int) (hv : v = (f k : Int) + 1) :
    ∃ w', (Instr.mapUpdate 43 (.map (some b)) (.int .u8 k) (.int .i64 v)).run Tryd.prog w = .ok () w' ∧ Mt w' b (inc f k) ∧ w.mapTurned w' b := by
  subst hv
  have hp := pos_le f 22
  obtain ⟨w', hrun, g', ht⟩ := GMap.store h keyed5 Tryd.underlying43 (by unfold maxLen; omega) (key := .int .u8 k) (kl := .int .u8 k) (val := .int .i64 ((f k : Int) + 1)) trivial (Maps.keyOf_int_mk Tryd.underlying5 (wf8 k (by omega)))
  refine ⟨w', hrun, ?_, ht⟩
  have g2 := g'.congr (metM_inc f k)
  unfold Mt
  rw [pos_inc f k 22 hk]
  have e : (metM f (.int .u8 k)).isSome = decide (0 < f k) := by
    unfold metM
    by_cases h0 : 0 < f k <;> simp [h0]
  rw [e] at g2
  by_cases h0 : 0 < f k
  · simpa [h0] using g2
  · simpa [h0] using g2

theorem add_o (cb mb hi : Nat) (f : Nat → Nat) (k : Nat) (hk : k < 22) (hh : hi < 65535) (w : World) (h : Ct w cb mb hi f) : Calls Tryd.prog 14 #[.pointer (some ⟨cb, 0, none⟩), .int .i64 k] w fun e w' => e = .returned (.bool true) ∧ Ct w' cb mb (hi + 1) (inc f k) ∧ (∀ B, B ≤ mb → B ≤ w.heap.size → Below B w w') ∧ ∀ c, c ≠ mb → c < w.heap.size → w'.heap[c]? = w.heap[c]? := by
  have hl := h.head.lt
  have hm := h.mlt
  have HB : Hid (nameB k = true) := by show nameB k = true; unfold nameB; simp; omega
  have H := Lib.hid h
  have hsm := h.small k
  clear h
  go_enter Tryd.func14, Tryd.ntmps14
  go_wp2_with fail
  refine (name_c k w).mono ?_
  rintro e w1 ⟨rfl, hb⟩
  rw [HB.out]
  have H1 := H.out.below hb
  have c0 := H1.head.cell 0
  have lk := H1.look k hk _ rfl
  obtain ⟨w2, hs, C2, ht⟩ := H1.add (by omega) k hk _ rfl
  generalize f k = v at lk hs hsm
  have hC := Lib.hid C2
  clear C2 H1
  go_wp2
  go_ret
  exact ⟨rfl, hC.out, fun B b1 b2 => (hb.mono b2).trans (turned_below ht b1), fun c c1 c2 => (turned_block ht c1).trans (hb.block c c2)⟩
set_option maxRecDepth 100000 in
set_option maxHeartbeats 3200000 in
theorem sums_c (a : Option Addr) (len cap : Nat) (z : List Int) (w : World) (hin : IsInts .u8 w a len z) (hP : Pow w) (hz : 0 < w.heap.size) :
    Calls Tryd.prog 6 #[.slice a len cap] w fun e w' => e = .returned (.bool true) ∧ Below w.heap.size w w' := by
  have HI := Lib.hid hin
  have HP := Lib.hid hP
  have hmm := @run_makeMap Tryd.prog
  clear hin hP
  go_enter Tryd.func6, Tryd.ntmps6
  go_wp2_with fail
  refine (examples_c w).mono ?_
  rintro e w1 ⟨rfl, hb1⟩
  have hs1 := hb1.size
  have HB1 := Lib.hid hb1
  clear hb1
  go_wp2_with fail
  refine (new_c w1).mono ?_
  rintro e w2 ⟨rfl, C2, hb2⟩
  have hs2 := C2.head.lt
  have C3 := C2.below ((Below.refl _ _).alloc (Nat.le_refl _) (.map #[] 0))
  have M3 : Mt (w2.alloc (.map #[] 0)) w2.heap.size (fun _ => 0) := (GMap.made Tryd.prog w2 5).congr (fun kl => by unfold metM; split <;> simp)
  have B3 : Below w.heap.size w (w2.alloc (.map #[] 0)) := (HB1.out.trans (hb2.mono hs1)).alloc (by have := hb2.size; omega) _
  clear C2 hb2
  obtain ⟨b, hb⟩ : ∃ b, b = w2.heap.size := ⟨_, rfl⟩
  rw [← hb] at M3
  go_wp2_with fail
  rw [← hb]
  go_loopw [6] (fun i wr => ∃ (j : Nat) (f : Nat → Nat), j ≤ 100 ∧ j ≤ len ∧ i = .int .i64 j ∧ Ct wr (w1.heap.size + 1) w1.heap.size j f ∧ Mt wr b f ∧ Below w.heap.size w wr ∧ Hid (tot f 22 = j)) (fun i _ => 100 - (intOf i).toNat)
  case atStart => exact ⟨0, _, by omega, by omega, rfl, C3, M3, B3, by show tot _ 22 = 0; rfl⟩
  case round =>
    obtain ⟨j, f, hj, hjl, rfl, C4, M4, B4, HT⟩ := hrel
    clear C3 M3 B3
    have hbn : b ≠ w1.heap.size := by omega
    have hbn2 : b ≠ w1.heap.size + 1 := by omega
    have HBE := Lib.hid hb
    clear hb
    by_cases hgo : j < len ∧ j < 100
    · obtain ⟨hlt, h100⟩ := hgo
      have hj1 : (j : Int) < (len : Int) := by omega
      have hj2 : (j : Int) < 100 := by omega
      rcases HI.out with ⟨h0, _⟩ | ⟨bb, off, rfl, hbl, hzl, hm', hc, hr⟩
      · omega
      have hcell := (B4.cell (p := ⟨bb, off + j, none⟩) hbl).trans (hc j hlt)
      have hv := wf_u8 (hr j hlt)
      generalize z.getD j 0 = v at hcell hv
      obtain ⟨hv0, hv1⟩ := hv
      obtain ⟨x, hx⟩ : ∃ x : Nat, v % 22 = (x : Int) := ⟨(v % 22).toNat, by omega⟩
      have hx22 : x < 22 := by omega
      clear hc hr
      go_wp2_with fail
      refine (add_o _ _ _ _ x hx22 (by omega) wr C4).mono ?_
      rintro e w3 ⟨rfl, C5, hb5, e5⟩
      have M5 := M4.kept (e5 b hbn (GMap.lt M4))
      have B5 := B4.trans (hb5 w.heap.size (by omega) B4.size)
      have hcell5 := (B5.cell (p := ⟨bb, off + j, none⟩) hbl).trans (B4.cell (p := ⟨bb, off + j, none⟩) hbl).symm
      rw [hcell] at hcell5
      have hl5 := M5.look x (by omega) _ rfl
      obtain ⟨w6, hs6, M6, t6⟩ := M5.add x hx22 _ rfl
      have hfx := C4.small x
      generalize f x = fx at hl5 hs6 hfx
      have C6 := Lib.hid (C5.of_blocks (turned_block t6 (Ne.symm hbn2)) (turned_block t6 (Ne.symm hbn)))
      have B6 := Lib.hid (B5.trans (turned_below t6 (show w.heap.size ≤ b by have := HBE.out; omega)))
      have M6H := Lib.hid M6
      have HT6 : Hid (tot (inc f x) 22 = j + 1) := by show tot (inc f x) 22 = j + 1; rw [tot_inc f x 22 hx22, HT.out]
      clear C4 M4 B4 C5 hb5 e5 M5 B5 M6 t6 hcell
      go_wp2
      go_roundw
      case rel => exact ⟨j + 1, _, by omega, by omega, by go_num, C6.out, M6H.out, B6.out, HT6.out⟩
      case measure => simp [intOf]; omega
    · have hmin : min (len : Int) 100 = (j : Int) := by omega
      have HG : Hid (¬ (j < len ∧ j < 100)) := hgo
      obtain ⟨wo, rfl⟩ : ∃ wo : World, wo = wr := ⟨_, rfl⟩
      by_cases hlt : j < len
      all_goals
        have hj1 : (100 : Int) ≤ (j : Int) ∨ (len : Int) ≤ (j : Int) := by omega
        have h100 : ¬ (j < len ∧ j < 100) := HG.out
        have hj2 : j < len → (100 : Int) ≤ (j : Int) := fun h => by omega
        first
          | (have hja : (j : Int) < (len : Int) := by omega
             have hjb : ¬ (j : Int) < 100 := by omega
             clear hj1 hj2 h100 hgo)
          | (have hja : ¬ (j : Int) < (len : Int) := by omega
             clear hj1 hj2 h100 hgo)
        go_wp2_with fail
        go_loopw [7, 8] (fun s e wr2 => ∃ k : Nat, k ≤ 22 ∧ e = .int .i64 k ∧ s = .int .i64 (tot f k : Nat) ∧ Ct wr2 (w1.heap.size + 1) w1.heap.size j f ∧ Mt wr2 b f ∧ Below w.heap.size w wr2) (fun _ i _ => 22 - (intOf i).toNat)
        case atStart => exact ⟨0, by omega, rfl, rfl, C4, M4, B4⟩
        case round =>
          obtain ⟨k, hk, rfl, rfl, C5, M5, B5⟩ := hrel
          clear C4 M4 B4
          by_cases hk22 : k < 22
          · have hk1 : (k : Int) ≤ 21 := by omega
            have e1 := tot_succ f k
            have e2 := tot_mono f (k + 1) 22 (by omega)
            rw [HT.out] at e2
            have hb1 : (0 : Int) ≤ (tot f k : Nat) := by omega
            have hb2 : ((tot f k : Nat) : Int) + (f k : Int) ≤ 100 := by omega
            have hb3 : (0 : Int) ≤ (f k : Nat) := by omega
            have E1 := Lib.hid e1
            have hl := M5.look k (by omega) _ rfl
            have HL : Hid (∀ W : World, W.heap[b]? = wr.heap[b]? → (Instr.lookup 43 (.map (some b)) (.int .u8 k) false).run Tryd.prog W = .ok (.int .i64 (f k)) W) := fun W e => (M5.kept e).look k (by omega) _ rfl
            have CD : Ct wr.drew (w1.heap.size + 1) w1.heap.size j f := C5.of_blocks rfl rfl
            have hg1 := fun W h => get_c (w1.heap.size + 1) w1.heap.size j f k hk22 W h
            have HG1 := Lib.hid hg1
            clear hl e1 e2 hg1
            generalize tot f k = tk at hb1 hb2 E1 ⊢
            generalize f k = fk at hb2 hb3 E1 HL HG1
            go_wp2_with fail
            refine (HG1.out _ C5).mono ?_
            rintro e w' ⟨rfl, rfl⟩
            go_wp2_with fail
            have hcv : IntKind.u8.wrap (k : Int) = (k : Int) := by unfold IntKind.wrap; simp [IntKind.signed, IntKind.bits]; omega
            go_region_held3 (fun W => (Instr.lookup 43 (.map (some b)) (.int .u8 k) false).run Tryd.prog W = .ok (.int .i64 fk) W) (first | exact HL.out _ rfl) (first | (go_at_call 15; refine (HG1.out _ CD).mono ?_; rintro e w' ⟨rfl, rfl⟩))
            all_goals
              go_wp2
              go_roundw
              case rel => exact ⟨k + 1, by omega, by go_num, by rw [E1.out]; go_num, CD, M5, B5.drew⟩
              case measure => simp [intOf]; omega
          · obtain rfl : k = 22 := by omega
            have PW := Lib.hid (HP.out.below B5 hz)
            have hsum : sum f = j := HT.out
            have htot : tot f 22 = j := HT.out
            rw [htot]
            have HS := Lib.hid hsum
            clear hsum htot
            go_wp2_with fail
            refine (total_c _ _ _ _ _ (by omega) C5).mono ?_
            rintro e w3 ⟨rfl, hb⟩
            rw [HS.out]
            have C6 := C5.below hb
            have M6 := M5.kept (hb.block b (GMap.lt M5))
            have B6 := B5.trans (hb.mono B5.size)
            have PW6 := Lib.hid (PW.out.below hb (by have := B5.size; omega))
            clear hb C5 M5 B5
            go_wp2_with fail
            refine (lines_c _ _ _ _ dd _ C6 (fun k hk _ => dd_size _ (by have := C6.small k; omega)) (fun k hk hp W hW => itoa_any _ (by have := C6.small k; omega) W (PW6.out.below hW (by have := B6.size; omega)))).mono ?_
            rintro e w4 ⟨v, rfl, hown, hb⟩
            rw [ln_pos] at hown
            obtain ⟨sa, sc, rfl⟩ := own_len hown
            have C7 := C6.below hb
            have M7 := M6.kept (hb.block b (GMap.lt M6))
            have B7 := B6.trans (hb.mono B6.size)
            have hlen := GMap.len M7 Tryd.underlying43 3
            have hpl := pos_le f 22
            generalize pos f 22 = pf at hlen hpl
            clear hb C6 M6 B6 hown M7
            go_wp2_with fail
            refine (add_no _ 22 (by decide) _).mono ?_
            rintro e w5 ⟨rfl, hb⟩
            have C8 := C7.below hb
            have B8 := B7.trans (hb.mono B7.size)
            clear hb C7 B7 hlen
            go_wp2_with fail
            refine (add_no _ (-1) (by decide) _).mono ?_
            rintro e w6 ⟨rfl, hb⟩
            have C9 := C8.below hb
            have B9 := B8.trans (hb.mono B8.size)
            clear hb C8 B8
            go_wp2_with fail
            refine (total_c _ _ _ _ _ (by omega) C9).mono ?_
            rintro e w7 ⟨rfl, hb⟩
            rw [HS.out]
            have FIN := Lib.hid (B9.trans (hb.mono B9.size))
            clear hb C9 B9
            go_wp2
            go_ret
            exact ⟨rfl, FIN.out⟩
theorem sums_w (a : Option Addr) (len cap : Nat) {w : World} (hin : ∃ z, IsInts .u8 w a len z) (hP : Pow w) (hz : 0 < w.heap.size) :
    Calls Tryd.prog 6 #[.slice a len cap] w fun e w' => e = .returned (.bool true) ∧ Below w.heap.size w w' := by
  obtain ⟨z, hin⟩ := hin
  exact sums_c a len cap z w hin hP hz
end Go.Proofs.YthndeejgcpmblaaDoor
