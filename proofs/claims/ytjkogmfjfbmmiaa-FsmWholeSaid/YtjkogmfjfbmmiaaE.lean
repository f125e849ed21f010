/- The facts on a step; the walk of FsmRises. -/
import Derived.Test.YtjkogmfjfbmmiaaD
import Derived.Test.YtjkogmfjfbmmiaaArgs
namespace Go.Proofs.Ytjkogmfjfbmmiaa
open Go.RowKit
set_option linter.unusedSimpArgs false
set_option linter.unusedVariables false

theorem st_facts : ∀ (st : Fin 8) (b s a r f : Bool), 0 ≤ stN st.val b s a r f ∧ stN st.val b s a r f ≤ 7 ∧ (stB st.val b s a r f = false → stN st.val b s a r f = 0) ∧ (stB st.val b s a r f = true → stN st.val b s a r f = 0 → r = true) ∧ (stB st.val b s a r f = true → stN st.val b s a r f ≠ 0 → (st.val : Int) ≤ stN st.val b s a r f) := by
  decide

/-- What a step comes to. -/
def Stepped (st f : Int) (w : World) (e : Ending) (w' : World) : Prop :=
  ∃ (N : Int) (B : Bool), (0 ≤ N ∧ N ≤ 7 ∧ (B = false → N = 0) ∧ (B = true → N = 0 → hasB f 4 = true) ∧ (B = true → N ≠ 0 → st ≤ N)) ∧ e = .returned (.tuple #[.int .i64 N, .bool B]) ∧ Below w.heap.size w w'
theorem step_f (st : Int) (h0 : 0 ≤ st) (h1 : st ≤ 7) (b : Bool) (f : Int) (w : World) : Calls Try.prog 8 #[.int .i64 st, .bool b, .int .i64 f] w (Stepped st f w) := by
  refine (step_c st h0 h1 b f w).mono ?_
  rintro e w' ⟨rfl, hb⟩
  have := st_facts ⟨st.toNat, by omega⟩ b (hasB f 2) (hasB f 16) (hasB f 4) (hasB f 1)
  simp only [Int.toNat_of_nonneg h0] at this
  exact ⟨_, _, this, rfl, hb⟩

/-- The flag in a byte. -/
theorem rst_byte : ∀ x : Fin 256, hasB (x.val : Int) 4 = true → (bits BinOp.and IntKind.u8 (x.val : Int) 4 == 0) = false := by
  decide +kernel

set_option maxHeartbeats 1600000 in
theorem rises_0 (a1 : Option Addr) (len1 cap1 cap0 : Nat) (a0 : Option Addr) (w : World) :
    Calls Try.prog 3 #[.slice a0 0 cap0, .slice a1 len1 cap1] w fun e w' => e = .returned (.bool true) ∧ Below w.heap.size w w' := by
  go_enter Try.func3, Try.ntmps3
  go_wp2_with (go_at_call 7; refine (examples_c _).mono ?_; rintro e w1 ⟨rfl, hb1⟩)
  go_loopw [6, 7] (fun s i wr => s = .int .i64 0 ∧ i = .int .i64 0 ∧ Below w.heap.size w wr) (fun _ _ _ => 0)
  case atStart => exact ⟨rfl, rfl, hb1⟩
  case round =>
    obtain ⟨rfl, rfl, hbr⟩ := hrel
    go_wp2
    go_ret
    exact ⟨rfl, hbr⟩

set_option maxHeartbeats 3200000 in
theorem rises_1 (a1 : Option Addr) (len1 cap1 : Nat) (z1 : Nat → Bool) (len0 cap0 b0 off0 : Nat) (z0 : List Int) (w : World) (hlt0 : b0 < w.heap.size) (hz0 : z0.length = len0) (hm0 : len0 ≤ 9223372036854775807) 
    (hc0 : ∀ i, i < len0 → w.cell? ⟨b0, off0 + i, none⟩ = some (.int .u8 (z0.getD i 0))) (hr0 : ∀ i, i < len0 → 0 ≤ z0.getD i 0 ∧ z0.getD i 0 ≤ 255) (h1 : IsBools w a1 len1 z1) :
    Calls Try.prog 3 #[.slice (some ⟨b0, off0, none⟩) len0 cap0, .slice a1 len1 cap1] w fun e w' => e = .returned (.bool true) ∧ Below w.heap.size w w' := by
  have H1 := Lib.hid h1
  have HC := Lib.hid hc0
  have HR := Lib.hid hr0
  have HZ := Lib.hid hz0
  clear h1 hc0 hr0 hz0
  go_enter Try.func3, Try.ntmps3
  go_wp2_with (go_at_call 7; refine (examples_c _).mono ?_; rintro e w1 ⟨rfl, hb1⟩)
  go_loopw [6, 7] (fun s i wr => ∃ (st : Int) (k : Nat), 0 ≤ st ∧ st ≤ 7 ∧ k ≤ len0 ∧ k ≤ 40 ∧ s = .int .i64 st ∧ i = .int .i64 k ∧ Below w.heap.size w wr) (fun _ i _ => 40 - (intOf i).toNat)
  case atStart => exact ⟨0, 0, by omega, by omega, by omega, by omega, rfl, rfl, hb1⟩
  case round =>
    obtain ⟨st, k, hs0, hs1, hk, hk40, rfl, rfl, hbr⟩ := hrel
    by_cases hlt : k < len0
    · by_cases h40 : k < 40
      · have hcell : wr.cell? ⟨b0, off0 + k, none⟩ = some (.int .u8 (z0.getD k 0)) := (hbr.cell (p := ⟨b0, off0 + k, none⟩) hlt0).trans (HC.out k hlt)
        obtain ⟨x, hx⟩ : ∃ x, x = z0.getD k 0 := ⟨_, rfl⟩
        rw [← hx] at hcell
        have hx0 : 0 ≤ x ∧ x ≤ 255 := by rw [hx]; exact HR.out k hlt
        obtain ⟨hx0, hx1⟩ := hx0
        have HC2 : Hid (w.cell? ⟨b0, off0 + k, none⟩ = some (.int .u8 x)) := by rw [hx]; exact HC.out k hlt
        clear hx
        by_cases hb : k < len1
        · rcases H1.out with h | ⟨b1, off1, ha1, hlt1, hm1, hc1⟩
          · omega
          have hcellb : wr.cell? ⟨b1, off1 + k, none⟩ = some (.bool (z1 k)) := (hbr.cell (p := ⟨b1, off1 + k, none⟩) hlt1).trans (hc1 k hb)
          generalize z1 k = bv at hcellb
          obtain rfl := ha1
          clear hc1
          go_wp2_with fail
          refine (step_f st hs0 hs1 _ x _).mono ?_
          rintro e w2 ⟨N, B, ⟨n0, n1, n2, n3, n4⟩, rfl, hb2⟩
          have hbr2 : Below w.heap.size w w2 := hbr.trans (hb2.mono hbr.size)
          clear hb2
          have hcell2 : w2.cell? ⟨b0, off0 + k, none⟩ = some (.int .u8 x) := (hbr2.cell (p := ⟨b0, off0 + k, none⟩) hlt0).trans (HC2.out)
          cases B
          · obtain rfl := n2 rfl
            clear n2 n3 n4 n0 n1
            go_wp2
            go_roundw
            case rel => exact ⟨st, k + 1, hs0, hs1, by omega, by omega, rfl, by go_num, hbr2⟩
            case measure => simp [intOf]; omega
          · by_cases hN : N = 0
            · have q := rst_byte ⟨x.toNat, by omega⟩
              simp only [Int.toNat_of_nonneg hx0] at q
              have q2 := q (n3 rfl hN)
              obtain rfl := hN
              clear n2 n3 n4 n0 n1 q
              go_wp2
              go_roundw
              case rel => exact ⟨0, k + 1, by omega, by omega, by omega, by omega, rfl, by go_num, hbr2⟩
              case measure => simp [intOf]; omega
            · have n5 := n4 rfl hN
              have g1 : (N != 0) = true := by simp [hN]
              have g2 : (N == 0) = false := by simp [hN]
              have g3 : ¬ N < st := by omega
              have g4 : ¬ 7 < N := by omega
              have g5 : ¬ N < 0 := by omega
              clear n2 n3 n4
              go_wp2
              go_roundw
              case rel => exact ⟨N, k + 1, by omega, by omega, by omega, by omega, rfl, by go_num, hbr2⟩
              case measure => simp [intOf]; omega
        · go_wp2_with fail
          refine (step_f st hs0 hs1 _ x _).mono ?_
          rintro e w2 ⟨N, B, ⟨n0, n1, n2, n3, n4⟩, rfl, hb2⟩
          have hbr2 : Below w.heap.size w w2 := hbr.trans (hb2.mono hbr.size)
          clear hb2
          have hcell2 : w2.cell? ⟨b0, off0 + k, none⟩ = some (.int .u8 x) := (hbr2.cell (p := ⟨b0, off0 + k, none⟩) hlt0).trans (HC2.out)
          cases B
          · obtain rfl := n2 rfl
            clear n2 n3 n4 n0 n1
            go_wp2
            go_roundw
            case rel => exact ⟨st, k + 1, hs0, hs1, by omega, by omega, rfl, by go_num, hbr2⟩
            case measure => simp [intOf]; omega
          · by_cases hN : N = 0
            · have q := rst_byte ⟨x.toNat, by omega⟩
              simp only [Int.toNat_of_nonneg hx0] at q
              have q2 := q (n3 rfl hN)
              obtain rfl := hN
              clear n2 n3 n4 n0 n1 q
              go_wp2
              go_roundw
              case rel => exact ⟨0, k + 1, by omega, by omega, by omega, by omega, rfl, by go_num, hbr2⟩
              case measure => simp [intOf]; omega
            · have n5 := n4 rfl hN
              have g1 : (N != 0) = true := by simp [hN]
              have g2 : (N == 0) = false := by simp [hN]
              have g3 : ¬ N < st := by omega
              have g4 : ¬ 7 < N := by omega
              have g5 : ¬ N < 0 := by omega
              clear n2 n3 n4
              go_wp2
              go_roundw
              case rel => exact ⟨N, k + 1, by omega, by omega, by omega, by omega, rfl, by go_num, hbr2⟩
              case measure => simp [intOf]; omega
      · go_wp2
        go_ret
        exact ⟨rfl, hbr⟩
    · go_wp2
      go_ret
      exact ⟨rfl, hbr⟩

theorem rises_w {w0 : World} (a0 : Option Addr) (len0 cap0 : Nat) (h0 : ∃ z, IsInts .u8 w0 a0 len0 z) (a1 : Option Addr) (len1 cap1 : Nat) (h1 : ∃ B, IsBools w0 a1 len1 B) :
    Calls Try.prog 3 #[.slice a0 len0 cap0, .slice a1 len1 cap1] w0 fun e w' => e = .returned (.bool true) ∧ Below w0.heap.size w0 w' := by
  obtain ⟨z0, h0⟩ := h0
  obtain ⟨z1, h1⟩ := h1
  rcases h0 with ⟨rfl, _⟩ | ⟨b0, off0, rfl, hlt, hz, hm, hc, hr⟩
  · exact rises_0 a1 len1 cap1 cap0 a0 w0
  · exact rises_1 a1 len1 cap1 z1 len0 cap0 b0 off0 z0 w0 hlt hz hm hc (fun i hi => wf_u8 (hr i hi)) h1
end Go.Proofs.Ytjkogmfjfbmmiaa
