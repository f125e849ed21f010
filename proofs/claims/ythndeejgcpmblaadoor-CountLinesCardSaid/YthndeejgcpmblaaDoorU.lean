/- The reference's Digits and Lines. -/
import Derived.Test.YthndeejgcpmblaaDoorT
import Derived.Laws.IdiomStrings
import Derived.Deep.AppendLies
namespace Go.Proofs.YthndeejgcpmblaaDoor
open Go.RowKit
set_option linter.unusedSimpArgs false
set_option linter.unusedVariables false

def dgt (d : Nat) : UInt8 := UInt8.ofNat (48 + d)
theorem conv1 (W : World) (d : Nat) (hd : d < 10) : (convert 42 9 (.slice (some ⟨W.heap.size, 0, none⟩) 1 1)).run Tryd.prog (W.alloc (.cells #[.int .u8 (48 + (d : Int))] 5)) = .ok (.string ⟨#[dgt d]⟩) (W.alloc (.cells #[.int .u8 (48 + (d : Int))] 5)) := by
  refine run_convert_bytes_back (P := Tryd.prog) _ 42 9 5 ⟨W.heap.size, 0, none⟩ 1 [dgt d] Tryd.underlying42 Tryd.underlying5 Tryd.underlying9 (fun j hj => ?_)
  obtain rfl : j = 0 := by simpa using hj
  rw [add_none]
  have := (Has.new W #[.int .u8 (48 + (d : Int))] 5).cell 0
  rw [show W.heap.size = W.heap.size from rfl] at this
  simp only [Nat.add_zero]
  rw [this]
  have e : (dgt d).toNat = 48 + d := by unfold dgt; simp; omega
  simp only [List.getElem_cons_zero, e]
  simp
/-- The digits of q but the last. -/
def pre (q : Nat) : List UInt8 := if q < 10 then [] else Lib.decDigits (q / 10)
theorem dec_pre (q : Nat) : Lib.decDigits q = pre q ++ [dgt (q % 10)] := by
  unfold pre dgt
  rw [Lib.decDigits]
  by_cases h : q < 10
  · rw [dif_pos h, if_pos h]; simp [Nat.mod_eq_of_lt h]
  · rw [dif_neg h, if_neg h]
theorem pre_step (q : Nat) (h : 9 < q) : pre q = pre (q / 10) ++ [dgt (q / 10 % 10)] := by
  rw [← dec_pre]
  unfold pre
  rw [if_neg (by omega)]
theorem dd_of {n : Nat} {s : ByteArray} (h : Lib.decDigits n = s.data.toList) : dd n = s := by
  rw [dd_eq, h]
set_option maxHeartbeats 800000 in
theorem digits_c (n : Nat) (hn : n < 1000) (w : World) : Calls Tryd.prog 23 #[.int .i64 n] w fun e w' => e = .returned (.string (dd n)) ∧ Below w.heap.size w w' := by
  have c0 := Lib.hid conv1
  obtain ⟨d, hd⟩ : ∃ d : Nat, d = n % 10 := ⟨_, rfl⟩
  have hx : (n : Int) % 10 = (d : Int) := by omega
  have hd10 : d < 10 := by omega
  have HD := Lib.hid hd
  have cv := c0.out w d hd10
  clear hd
  go_enter Tryd.func23, Tryd.ntmps23
  go_wp2_with fail
  go_loopw [0, 3] (fun v0 v3 wr => ∃ (q : Nat) (s : ByteArray), q ≤ 999 ∧ v0 = .int .i64 q ∧ v3 = .string s ∧ s.size + q ≤ 1000 ∧ Below w.heap.size w wr ∧ Hid (Lib.decDigits n = pre q ++ s.data.toList)) (fun v0 _ _ => (intOf v0).toNat)
  case atStart => exact ⟨n, _, by omega, rfl, rfl, by show 1 + n ≤ 1000; omega, (Below.refl _ _).alloc (Nat.le_refl _) _, by show Lib.decDigits n = _; rw [dec_pre n, HD.out]⟩
  case round =>
    obtain ⟨q, s, hq, rfl, rfl, hsz, hb, HI⟩ := hrel
    clear cv hx hd10 HD
    by_cases h9 : 9 < q
    · have h9i : (9 : Int) < (q : Int) := by omega
      obtain ⟨q2, hq2⟩ : ∃ q2, q2 = q / 10 := ⟨_, rfl⟩
      obtain ⟨d2, hd2⟩ : ∃ d2 : Nat, d2 = q2 % 10 := ⟨_, rfl⟩
      have hx1 : (q : Int) / 10 = (q2 : Int) := by omega
      have hx2 : (q2 : Int) % 10 = (d2 : Int) := by omega
      have hd20 : d2 < 10 := by omega
      have hq20 : q2 ≤ 99 := by omega
      have hql : q2 + 1 ≤ q := by omega
      have HN : Hid (Lib.decDigits n = pre q2 ++ (⟨#[dgt d2]⟩ ++ s : ByteArray).data.toList) := by
        show Lib.decDigits n = _
        rw [HI.out, pre_step q h9, ← hq2, ← hd2]
        simp
      have hs2 : Hid ((⟨#[dgt d2]⟩ ++ s : ByteArray).size = s.size + 1) := by
        show (⟨#[dgt d2]⟩ ++ s : ByteArray).size = s.size + 1
        rw [ByteArray.size_append]
        show 1 + s.size = s.size + 1
        omega
      have cv := c0.out wr d2 hd20
      have hz1 : ¬ (9223372036854775807 < 1 + s.size) := by omega
      have hz2 : ¬ (9223372036854775807 < (⟨#[dgt d2]⟩ : ByteArray).size + s.size) := by show ¬ (9223372036854775807 < 1 + s.size); omega
      clear hq2 hd2
      go_wp2
      go_roundw
      case rel => exact ⟨q2, _, by omega, rfl, rfl, by rw [hs2.out]; omega, hb.alloc hb.size _, HN.out⟩
      case measure => simp [intOf]; omega
    · have h9i : ¬ (9 : Int) < (q : Int) := by omega
      have HR : Hid (s = dd n) := by
        show s = dd n
        have := HI.out
        unfold pre at this
        rw [if_pos (by omega)] at this
        exact (dd_of (by simpa using this)).symm
      go_wp2
      go_ret
      exact ⟨congrArg (fun x => Ending.returned (.string x)) HR.out, hb⟩
/-- The law's own row of counts. -/
def cntA (f : Nat → Nat) : Array Value := ((List.range 22).map fun i => Value.int .i64 (f i)).toArray
theorem cntA_get (f : Nat → Nat) (i : Nat) (h : i < 22) : (cntA f)[i]? = some (.int .i64 (f i)) := by
  simp [cntA, h]
theorem cntA_set (f : Nat → Nat) (k : Nat) (v : Value) (hv : v = .int .i64 ((f k : Int) + 1)) : (cntA f).setIfInBounds k v = cntA (inc f k) := by
  subst hv
  apply Array.ext'
  apply List.ext_getElem?
  intro j
  simp only [cntA, Array.toList_setIfInBounds, List.getElem?_set, List.getElem?_map, List.length_map, List.length_range, List.getElem?_range']
  by_cases h : k = j
  · subst h
    by_cases h2 : k < 22
    · simp [h2, inc]
    · simp [h2]
  · by_cases h2 : j < 22
    · simp [h, h2, inc, Ne.symm h]
    · simp [h, h2]
set_option maxRecDepth 100000 in
set_option maxHeartbeats 3200000 in
theorem rlines_c (kb : Nat) (f : Nat → Nat) (w : World) (hk : Has w kb 3 (cntA f)) (hf : ∀ k, f k ≤ 200) :
    Calls Tryd.prog 17 #[.slice (some ⟨kb, 0, none⟩) 22 22] w fun e w' => ∃ v, e = .returned v ∧ w'.ownsRow w.heap.size 9 1 v (ln dd f 22).length ((ln dd f 22).map .string) ∧ Below w.heap.size w w' := by
  obtain ⟨i9, hi9, hz9, hs9, hb9⟩ := info_parts info9
  have hkl := hk.lt
  have HKB := Lib.hid hk
  have HF := Lib.hid hf
  clear hk hf
  go_enter Tryd.func17, Tryd.ntmps17
  go_wp2_with fail
  refine (rnames_c w).mono ?_
  rintro e w1 ⟨rfl, rfl⟩
  have HN := Lib.hid (Has.new w wordsV 9)
  have hb1 : Below w.heap.size w (w.alloc (.cells wordsV 9)) := (Below.refl _ _).alloc (Nat.le_refl _) _
  have HK1 := Lib.hid (HKB.out.below hb1)
  obtain ⟨w1, hw1⟩ : ∃ w1, w1 = w.alloc (.cells wordsV 9) := ⟨_, rfl⟩
  have hs1 : w1.heap.size = w.heap.size + 1 := by rw [hw1]; simp
  rw [← hw1] at HN hb1 HK1 ⊢
  clear hw1 HKB
  go_wp2_with fail
  go_loopw [4, 5] (fun v i wr => ∃ j : Nat, j ≤ 22 ∧ i = .int .i64 j ∧ wr.ownsRow w1.heap.size 9 1 v (ln dd f j).length ((ln dd f j).map .string) ∧ Below w1.heap.size w1 wr) (fun _ i _ => 22 - (intOf i).toNat)
  case atStart => exact ⟨0, by omega, rfl, ⟨by simp [ln], .inl ⟨rfl, by simp [ln]⟩⟩, Below.refl _ _⟩
  case round =>
    obtain ⟨j, hj, rfl, hown, hb⟩ := hrel
    by_cases hlt : j < 22
    · have hji : (j : Int) < 22 := by omega
      have hn : wr.cell? ⟨w.heap.size, j, none⟩ = some (.string (wd j)) := (hb.cell (p := ⟨w.heap.size, j, none⟩) (by show w.heap.size < w1.heap.size; omega)).trans ((HN.out.cell j).trans (wordsV_get j hlt))
      have hc : wr.cell? ⟨kb, j, none⟩ = some (.int .i64 (f j)) := (hb.cell (p := ⟨kb, j, none⟩) (by show kb < w1.heap.size; omega)).trans ((HK1.out.cell j).trans (cntA_get f j hlt))
      by_cases hp : 0 < f j
      · have hpi : (0 : Int) < (f j : Int) := by omega
        have hN : ln dd f (j + 1) = ln dd f j ++ [line dd f j] := by rw [ln_succ, if_pos hp]
        have HLN := Lib.hid hN
        have hl := ln_len dd f j
        have hw8 := wd_size j hlt
        have hf2 := HF.out j
        have hd8 := dd_size (f j) (by omega)
        have hz1 : ¬ (9223372036854775807 < (wd j).size + 1) := by omega
        have hz2 : ¬ (9223372036854775807 < (wd j).size + 1 + (dd (f j)).size) := by omega
        have lg := World.block_lt_of_cell? wr _ hn
        have lk := World.block_lt_of_cell? wr _ hc
        have hj0 : (0 : Int) ≤ (j : Int) := Int.natCast_nonneg _
        have DG := fun W => digits_c (f j) (by omega) W
        have HDG := Lib.hid DG
        clear hN DG
        go_wp2_with fail
        have hnb : ∀ g, u4.ownBlock = some g → w1.heap.size ≤ g := fun g h => (hown.lt g h).1
        have ag : u4.ownBlock ≠ some w.heap.size := fun h => by have := hnb _ h; omega
        have ak : u4.ownBlock ≠ some kb := fun h => by have := hnb _ h; omega
        have HZ : Hid ((ln dd f j).length + 1 ≤ maxLen ∧ ((ln dd f j).length + 1) * 16 ≤ 140737488355328) := by
          refine ⟨by unfold maxLen; omega, by omega⟩
        go_region_held3 (fun W => W.cell? ⟨w.heap.size, j, none⟩ = some (.string (wd j)) ∧ W.cell? ⟨kb, j, none⟩ = some (.int .i64 (f j)))
          (first
            | go_keep
            | (go_split_ands; refine ⟨?_, ?_⟩ <;> (rw [hb2.cell (by assumption)]; assumption))
            | (go_split_ands
               refine ⟨?_, ?_⟩
               · (rw [hgrow.cell_far _ (by simp; have h' : wr.heap.size ≤ w2.heap.size := hb2.size; omega) (Ne.symm ag)]; assumption)
               · (rw [hgrow.cell_far _ (by simp; have h' : wr.heap.size ≤ w2.heap.size := hb2.size; omega) (Ne.symm ak)]; assumption)))
          (first
            | (go_at_call 23; refine (HDG.out _).mono ?_; rintro e w2 ⟨rfl, hb2⟩)
            | (refine step_append_lies _ (by rfl) _ _ _ (by rfl) w1.heap.size 9 i9 _ 1 16 Tryd.underlying37 hi9 hz9 hs9 hb9 rfl (by omega) u4 _ _ (by rfl) (((own_below (w := wr.drew) hown hb2).alloc _))
                ⟨w2.heap.size, 0, none⟩ 1 1 [.string (wd j ++ ⟨#[32]⟩ ++ dd (f j))] (by rfl) (by rfl) (World.news_of_block (cs := #[.string (wd j ++ ⟨#[32]⟩ ++ dd (f j))]) (t := 9) (fr := (0, 0)) (heap_alloc_new w2 _)) (by simp [Value.oneCell'])
                (by omega) HZ.out.1 HZ.out.2 (by have := hb.size; have := hb2.size; simp at *; omega) (w2.heap.size + 1) (by simp) ?_; intro gg cap w3 hown3 hgrow hat hlt3))
        have hbB : Below w1.heap.size w1 w2 := hb.drew.trans (hb2.mono hb.size)
        have hb3 : Below w1.heap.size w1 w3 := (hbB.alloc hbB.size _).grown hgrow (by have := hbB.size; simp; omega) hnb
        have hown9 : w3.ownsRow w1.heap.size 9 1 (.slice (some ⟨gg, 0, none⟩) ((ln dd f j).length + 1) cap) (ln dd f (j + 1)).length ((ln dd f (j + 1)).map .string) := by
          rw [HLN.out]; simpa [line] using hown3
        have HO := Lib.hid hown9
        have HB3 := Lib.hid hb3
        go_wp2
        go_roundw
        case rel => exact ⟨j + 1, by omega, by go_num, HO.out, HB3.out⟩
        case measure => simp [intOf]; omega
      · have hpi : ¬ (0 : Int) < (f j : Int) := by omega
        have hN : ln dd f (j + 1) = ln dd f j := by rw [ln_succ, if_neg hp]; simp
        have HLN := Lib.hid hN
        clear hN
        go_wp2
        go_roundw
        case rel => exact ⟨j + 1, by omega, by go_num, by rw [HLN.out]; exact hown, hb⟩
        case measure => simp [intOf]; omega
    · obtain rfl : j = 22 := by omega
      have FIN : Hid (Below w.heap.size w wr) := hb1.trans (hb.mono (by omega))
      go_wp2
      go_ret
      refine ⟨_, rfl, ⟨hown.1, ?_⟩, FIN.out⟩
      rcases hown.2 with q | ⟨g, cap, cur, h1, hg, h2⟩
      · exact .inl q
      · exact .inr ⟨g, cap, cur, h1, by omega, h2⟩
end Go.Proofs.YthndeejgcpmblaaDoor
