/- The walk of PortsPlay. -/
import Derived.Test.YthkadlmdjgdliaaDoorRF
import Derived.Test.YthkadlmdjgdliaaDoorArgs
namespace Go.Proofs.YthkadlmdjgdliaaDoor
open Go.RowKit
set_option linter.unusedSimpArgs false
set_option linter.unusedVariables false
open V2 (Only)

/-- A deed. -/
structure Dd where
  kd : Int
  k0 : Int
  k1 : Int
  k2 : Int
  k3 : Int
  port : Int
  now : Int
structure Dd.ok (u : Dd) : Prop where
  a : (Lit.int .i64 u.kd).wf = true
  b : (Lit.int .i64 u.k0).wf = true
  c : (Lit.int .u32 u.k1).wf = true
  d : (Lit.int .u32 u.k2).wf = true
  e : (Lit.int .i64 u.k3).wf = true
  f : (Lit.int .i64 u.port).wf = true
  g : (Lit.int .i64 u.now).wf = true
def dcells (u : Dd) : Array Value := #[.int .i64 u.kd, .int .i64 u.k0, .int .u32 u.k1, .int .u32 u.k2, .int .i64 u.k3, .int .i64 u.port, .int .i64 u.now]
def IsDeeds (w : World) (a : Option Addr) (len : Nat) (D : Nat → Dd) : Prop :=
  len = 0 ∨ ∃ b off, a = some ⟨b, off, none⟩ ∧ b < w.heap.size ∧ len ≤ 9223372036854775807 ∧ ∀ i, i < len → (D i).ok ∧ ∀ j, j < 7 → w.cell? ⟨b, off + i * 7 + j, none⟩ = (dcells (D i))[j]?
theorem JJ.start {w1 w2 w3 : World} {pb pm rb low n rest : Nat} {B : Lit → Option PB} (h1 : Sys ⟨w1, fun b => b < w1.heap.size⟩ w2 pb pm low n rest 0 B (fun _ => PA.new)) (h2 : RP ⟨w2, fun b => b < w2.heap.size⟩ w3 rb low n rest 0 (fun _ => PA.new)) :
    JJ (fun b => b < w1.heap.size) w3 pb pm rb low n rest 0 0 (fun _ => PA.new) (fun _ => PA.new) ∧ Chg (fun b => ¬ b < w1.heap.size) w1 w3 := by
  have K1 := h1.bel
  have K2 := h2.keeps
  have k1 := K1.size
  have k2 := K2.size
  simp at k1 k2
  have hz := h1.pos
  simp at hz
  refine ⟨⟨fun b => b < w1.heap.size ∨ (w2.heap.size ≤ b ∧ b < w3.heap.size), fun b => b < w2.heap.size, ⟨B, h1.foreign rfl (fun b hb _ => K2.block b hb) (by omega) (fun b hb => by omega) (fun b hb hz => ?_) (.inl hz)⟩, ?_, fun b hb => by omega, fun b hb => ⟨.inl hb, by omega⟩, hz⟩, ⟨K2.os.trans K1.os, K2.tape.trans K1.tape, K2.output.trans K1.output, by omega, fun b hb hn => (K2.block b (by simp; omega)).trans (K1.block b (by simpa using hn))⟩⟩
  · rcases hz with q | q
    · exact q
    · omega
  · obtain ⟨L, B', hs, ht⟩ := h2
    exact ⟨L, B', hs.foreign rfl (fun b hb hn => rfl) (Nat.le_refl _) (fun b hb => by simp at hb ⊢; omega) (fun b hb hz => hz), ht⟩
theorem Agr.new : Agr (fun _ => PA.new) (fun _ => PA.new) := fun _ _ _ => rfl

set_option maxRecDepth 100000 in
set_option maxHeartbeats 6400000 in
theorem plays_c (low many rest : Int) (hl1 : -9223372036854775808 ≤ low) (hl2 : low ≤ 9223372036854775807) (hm1 : -9223372036854775808 ≤ many) (hm2 : many ≤ 9223372036854775807) (hr1 : -9223372036854775808 ≤ rest) (hr2 : rest ≤ 9223372036854775807)
    (a : Option Addr) (len cap : Nat) (D : Nat → Dd) (w : World) (hI : IsDeeds w a len D) (hT : Tab w) (hz : 0 < w.heap.size) :
    Calls Tryd.prog 4 #[.int .i64 low, .int .i64 many, .int .i64 rest, .slice a len cap] w fun e w' => e = .returned (.bool true) ∧ Below w.heap.size w w' := by
  have HI := Lib.hid hI
  have HT := Lib.hid hT
  clear hI hT
  go_enter Tryd.func4, Tryd.ntmps4
  go_wp2_with fail
  refine (examples_c _ HT.out hz).mono ?_
  rintro e w1 ⟨rfl, hb1⟩
  have HT1 := Lib.hid (HT.out.below hb1 hz)
  have hs1 := hb1.size
  have HB1 := Lib.hid hb1
  clear HT hb1
  go_upto_region 4 with fail
  go_cut [41] (fun s41 wx => ∃ b : Bool, s41 = .bool b ∧ (b = true ↔ (40 < many ∧ 1 ≤ low ∧ many ≤ 65536 ∧ low ≤ 65536 - many)) ∧ wx = w1)
  case first =>
    by_cases h1 : 40 < many
    · by_cases h2 : 1 ≤ low
      · by_cases h3 : many ≤ 65536
        · by_cases h4 : low ≤ 65536 - many
          · go_wp2_with fail
            go_meet
            case rel => exact ⟨_, rfl, by simp; omega, rfl⟩
          · go_wp2_with fail
            go_meet
            case rel => exact ⟨_, rfl, by simp; omega, rfl⟩
        · go_wp2_with fail
          go_meet
          case rel => exact ⟨_, rfl, by simp; omega, rfl⟩
      · go_wp2_with fail
        go_meet
        case rel => exact ⟨_, rfl, by simp; omega, rfl⟩
    · go_wp2_with fail
      go_meet
      case rel => exact ⟨_, rfl, by simp; omega, rfl⟩
  case rest =>
  obtain ⟨b, rfl, hb, rfl⟩ := hcut
  go_upto_if 41 with fail
  go_cut [1] (fun s1 wx => ∃ m : Int, s1 = .int .i64 m ∧ (1 ≤ low → 1 ≤ m → m ≤ 65536 - low → m ≤ 40) ∧ -9223372036854775808 ≤ m ∧ m ≤ 9223372036854775807 ∧ wx = wc)
  case first =>
    cases b
    · go_wp2_with fail
      go_meet
      case rel => exact ⟨_, rfl, by simp at hb; intro _ _ _; omega, hm1, hm2, rfl⟩
    · have h0 : 0 ≤ many := by have := hb.1 rfl; omega
      go_wp2_with fail
      go_meet
      case rel => exact ⟨_, rfl, by intro _ _ _; omega, by omega, by omega, rfl⟩
  case rest =>
    obtain ⟨m, rfl, hN, hn1, hn2, rfl⟩ := hcut
    clear hb hm1 hm2
    by_cases hbad : low < 1 ∨ m < 1 ∨ 65536 < low ∨ 65536 - low < m ∨ rest < 0 ∨ 1099511627776 < rest
    · go_wp2_with fail
      refine (ports_bad low m rest hl1 hl2 hbad _).mono ?_
      rintro e w' ⟨rfl, rfl⟩
      go_wp2_with fail
      refine (rnew_bad15 low m rest hl1 hl2 hbad _).mono ?_
      rintro e w' ⟨rfl, rfl⟩
      go_wp2
      go_ret
      exact ⟨rfl, HB1.out⟩
    · obtain ⟨n, rfl⟩ : ∃ n : Nat, m = (n : Int) := ⟨m.toNat, by omega⟩
      obtain ⟨lo, rfl⟩ : ∃ lo : Nat, low = (lo : Int) := ⟨low.toNat, by omega⟩
      obtain ⟨rs, rfl⟩ : ∃ rs : Nat, rest = (rs : Int) := ⟨rest.toNat, by omega⟩
      have hq1 : 1 ≤ n := by omega
      have hq2 : n ≤ 40 := by omega
      have hq3 : 1 ≤ lo := by omega
      have hq4 : lo + n ≤ 65536 := by omega
      have hq5 : rs ≤ 1099511627776 := by omega
      clear hN hbad hn1 hn2 hl1 hl2 hr1 hr2
      go_wp2_with fail
      refine (ports_new lo n rs hq3 hq1 hq4 hq5 _ HT1.out (by omega)).mono ?_
      rintro e w2 ⟨pb, pm, rfl, S2⟩
      go_wp2_with fail
      refine (rnew15 lo n rs hq3 hq1 hq4 hq5 _).mono ?_
      rintro e w3 ⟨rb, rfl, R3⟩
      obtain ⟨J3, C3⟩ := JJ.start S2 R3
      have J3 := Lib.hid J3
      have C3 := Lib.hid C3
      clear S2 R3 HT1
      go_wp2_with fail
      go_loopw [13] (fun i wr => ∃ (j : Nat) (S : Lit → PA) (R : K4 → PA), j ≤ 60 ∧ i = .int .i64 j ∧ Hid (JJ (fun b => b < wc.heap.size) wr pb pm rb lo n rs (2 * j) (2 * j) S R ∧ Agr S R ∧ Chg (fun b => ¬ b < wc.heap.size) wc wr)) (fun i _ => 60 - (intOf i).toNat)
      case atStart => exact ⟨0, _, _, by omega, rfl, J3.out, Agr.new, C3.out⟩
      case round =>
        obtain ⟨j, S, R, hj, rfl, HR⟩ := hrel
        clear J3 C3
        by_cases hlt : j < len
        · by_cases h60 : j < 60
          · rcases HI.out with h0 | ⟨b, off, rfl, hbl, hm, hc⟩
            · omega
            obtain ⟨hok, hcell⟩ := hc j hlt
            have hj1 : (j : Int) < (len : Int) := by omega
            have hj2 : (j : Int) < 60 := by omega
            have hblk : wr.heap[b]? = w.heap[b]? := (HR.out.2.2.block b (by omega) (by simp; omega)).trans (HB1.out.block b hbl)
            have hcr : ∀ i, i < 7 → wr.cell? ⟨b, off + j * 7 + i, none⟩ = (dcells (D j))[i]? := fun i hi => (World.cell?_of_block (w := w) (a := ⟨b, off + j * 7 + i, none⟩) hblk).trans (hcell i hi)
            generalize D j = u at hok hcr
            obtain ⟨kd, k0, k1, k2, k3, port, now⟩ := u
            have g0 := hcr 0 (by omega)
            have g1 := hcr 1 (by omega)
            have g2 := hcr 2 (by omega)
            have g3 := hcr 3 (by omega)
            have g4 := hcr 4 (by omega)
            have g5 := hcr 5 (by omega)
            have g6 := hcr 6 (by omega)
            simp [dcells] at g0 g1 g2 g3 g4 g5 g6
            obtain ⟨kl, hk⟩ := key_some hok.b hok.c hok.d hok.e
            simp only at hk
            obtain ⟨qa, qb⟩ := wf_i64 hok.a
            obtain ⟨qe, qf⟩ := wf_i64 hok.f
            simp only at qa qb qe qf
            have HK := Lib.hid hk
            have J5 := Lib.hid ((HR.out.1.box (.cells #[.int .i64 kd, .int .i64 k0, .int .u32 k1, .int .u32 k2, .int .i64 k3, .int .i64 port, .int .i64 now] 39)).box (.cells #[.int .i64 k0, .int .u32 k1, .int .u32 k2, .int .i64 k3] 40))
            have HSZ := Lib.hid (show wc.heap.size ≤ wr.heap.size from HR.out.2.2.size)
            clear hc hcell hok hcr hblk hk
            go_upto_if 90 with fail
            go_cut [15] (fun s15 wx => ∃ kk : Int, 0 ≤ kk ∧ kk ≤ 9223372036854775807 ∧ s15 = .int .i64 kk ∧ wx = wr.alloc (.cells #[.int .i64 kd, .int .i64 k0, .int .u32 k1, .int .u32 k2, .int .i64 k3, .int .i64 port, .int .i64 now] 39))
            case first =>
              by_cases hK : kd < 0
              · go_wp2_with fail
                go_meet
                case rel => exact ⟨_, by omega, by omega, rfl, rfl⟩
              · go_wp2_with fail
                go_meet
                case rel => exact ⟨_, by omega, by omega, rfl, rfl⟩
            case rest =>
            obtain ⟨kk, kk0, kk1, rfl, rfl⟩ := hcut
            clear g0 g1 g2 g3 g4 g5 g6 qa qb
            obtain ⟨q, hq⟩ : ∃ q, port.tmod (n : Int) = q := ⟨_, rfl⟩
            have hq8 : -40 < q ∧ q < 40 := by
              have hnp : (0 : Int) < (n : Int) := by omega
              have h1 := Int.tmod_lt_of_pos port hnp
              have h2 : -(n : Int) < port.tmod n := by
                have h3 := Int.tmod_lt_of_pos (-port) hnp
                rw [Int.neg_tmod] at h3
                omega
              omega
            have hn0 : ¬ n = 0 := by omega
            go_upto_if 111 with fail
            go_cut [17] (fun s17 wx => ∃ pt : Int, -9223372036854775808 ≤ pt ∧ pt ≤ 9223372036854775807 ∧ s17 = .int .i64 pt ∧ wx = (wr.alloc (.cells #[.int .i64 kd, .int .i64 k0, .int .u32 k1, .int .u32 k2, .int .i64 k3, .int .i64 port, .int .i64 now] 39)).alloc (.cells #[.int .i64 k0, .int .u32 k1, .int .u32 k2, .int .i64 k3] 40))
            case first =>
              by_cases hK : kk % 2 = 0
              · go_wp2_with fail
                go_meet
                case rel => exact ⟨_, by omega, by omega, rfl, rfl⟩
              · go_wp2_with fail
                go_meet
                case rel => exact ⟨_, by omega, by omega, rfl, rfl⟩
            case rest =>
            obtain ⟨pt, pt0, pt1, rfl, rfl⟩ := hcut
            clear hq hq8 qe qf
            have KU : Hid (∀ W, Chg (fun b => ¬ (fun b => (b < wc.heap.size ∨ b = wr.heap.size) ∨ b = (wr.alloc (.cells #[.int .i64 kd, .int .i64 k0, .int .u32 k1, .int .u32 k2, .int .i64 k3, .int .i64 port, .int .i64 now] 39)).heap.size) b) ((wr.alloc (.cells #[.int .i64 kd, .int .i64 k0, .int .u32 k1, .int .u32 k2, .int .i64 k3, .int .i64 port, .int .i64 now] 39)).alloc (.cells #[.int .i64 k0, .int .u32 k1, .int .u32 k2, .int .i64 k3] 40)) W → W.cell? ⟨wr.heap.size, 0, none⟩ = some (.int .i64 kd) ∧ W.cell? ⟨wr.heap.size, 1, none⟩ = some (.int .i64 k0) ∧ W.cell? ⟨wr.heap.size, 2, none⟩ = some (.int .u32 k1) ∧ W.cell? ⟨wr.heap.size, 3, none⟩ = some (.int .u32 k2) ∧ W.cell? ⟨wr.heap.size, 4, none⟩ = some (.int .i64 k3) ∧ W.cell? ⟨wr.heap.size, 5, none⟩ = some (.int .i64 port) ∧ W.cell? ⟨wr.heap.size, 6, none⟩ = some (.int .i64 now) ∧ W.cell? ⟨wr.heap.size + 1, 0, none⟩ = some (.int .i64 k0) ∧ W.cell? ⟨wr.heap.size + 1, 1, none⟩ = some (.int .u32 k1) ∧ W.cell? ⟨wr.heap.size + 1, 2, none⟩ = some (.int .u32 k2) ∧ W.cell? ⟨wr.heap.size + 1, 3, none⟩ = some (.int .i64 k3)) := fun W hc => by
              have z1 : ((wr.alloc (.cells #[.int .i64 kd, .int .i64 k0, .int .u32 k1, .int .u32 k2, .int .i64 k3, .int .i64 port, .int .i64 now] 39)).alloc (.cells #[.int .i64 k0, .int .u32 k1, .int .u32 k2, .int .i64 k3] 40)).heap.size = wr.heap.size + 1 + 1 := by simp
              have h1 : Has W wr.heap.size 39 #[.int .i64 kd, .int .i64 k0, .int .u32 k1, .int .u32 k2, .int .i64 k3, .int .i64 port, .int .i64 now] := (hc.block wr.heap.size (by rw [z1]; omega) (fun q => q (.inl (.inr rfl)))).trans ((Has.new wr _ _).alloc _)
              have h2 : Has W (wr.heap.size + 1) 40 #[.int .i64 k0, .int .u32 k1, .int .u32 k2, .int .i64 k3] := (hc.block (wr.heap.size + 1) (by rw [z1]; omega) (fun q => q (.inr (by simp)))).trans (has_at (by simp))
              exact ⟨h1.cell 0, h1.cell 1, h1.cell 2, h1.cell 3, h1.cell 4, h1.cell 5, h1.cell 6, h2.cell 0, h2.cell 1, h2.cell 2, h2.cell 3⟩
            have FX : Hid (∀ W, Chg (fun b => ¬ (fun b => (b < wc.heap.size ∨ b = wr.heap.size) ∨ b = (wr.alloc (.cells #[.int .i64 kd, .int .i64 k0, .int .u32 k1, .int .u32 k2, .int .i64 k3, .int .i64 port, .int .i64 now] 39)).heap.size) b) ((wr.alloc (.cells #[.int .i64 kd, .int .i64 k0, .int .u32 k1, .int .u32 k2, .int .i64 k3, .int .i64 port, .int .i64 now] 39)).alloc (.cells #[.int .i64 k0, .int .u32 k1, .int .u32 k2, .int .i64 k3] 40)) W → (∃ S' R', Agr S' R' ∧ JJ (fun b => (b < wc.heap.size ∨ b = wr.heap.size) ∨ b = (wr.alloc (.cells #[.int .i64 kd, .int .i64 k0, .int .u32 k1, .int .u32 k2, .int .i64 k3, .int .i64 port, .int .i64 now] 39)).heap.size) W pb pm rb lo n rs (2 * j + 2) (2 * j + 2) S' R') → ∃ S' R', Hid (JJ (fun b => b < wc.heap.size) W pb pm rb lo n rs (2 * (j + 1)) (2 * (j + 1)) S' R' ∧ Agr S' R' ∧ Chg (fun b => ¬ b < wc.heap.size) wc W)) := fun W hc ⟨S', R', ha, hj⟩ => by
              refine ⟨S', R', (hj.forget (fun b hb => .inl (.inl hb)) (by omega)).more (by omega) (by omega), ha, ((HR.out.2.2.alloc _).alloc _).trans (hc.mono fun b _ hn q => hn (.inl (.inl q)))⟩
            have HA := Lib.hid HR.out.2.1
            have htj : 2 * j < 40000 := by omega
            clear HR HSZ
            obtain ⟨r, hr⟩ : ∃ r, r = kk % 6 := ⟨_, rfl⟩
            have hr2 : kk % 6 = r := hr.symm
            have hrb : 0 ≤ r ∧ r < 6 := by omega
            clear hr
            by_cases e23 : r = 2 ∨ r = 3
            · obtain ⟨bb, Q, hQ⟩ := give_both k0 k1 k2 k3 HK.out J5.out HA.out htj pt now pt0 pt1
              have HQ := Lib.hid hQ
              have Qs := hQ.dr _ _ _ hQ.start
              clear hQ
              rcases e23 with rfl | rfl
              · go_wp2_with fail
                go_region_held3 (fun W => W.cell? ⟨wr.heap.size, 0, none⟩ = some (.int .i64 kd) ∧ W.cell? ⟨wr.heap.size, 1, none⟩ = some (.int .i64 k0) ∧ W.cell? ⟨wr.heap.size, 2, none⟩ = some (.int .u32 k1) ∧ W.cell? ⟨wr.heap.size, 3, none⟩ = some (.int .u32 k2) ∧ W.cell? ⟨wr.heap.size, 4, none⟩ = some (.int .i64 k3) ∧ W.cell? ⟨wr.heap.size, 5, none⟩ = some (.int .i64 port) ∧ W.cell? ⟨wr.heap.size, 6, none⟩ = some (.int .i64 now) ∧ W.cell? ⟨wr.heap.size + 1, 0, none⟩ = some (.int .i64 k0) ∧ W.cell? ⟨wr.heap.size + 1, 1, none⟩ = some (.int .u32 k1) ∧ W.cell? ⟨wr.heap.size + 1, 2, none⟩ = some (.int .u32 k2) ∧ W.cell? ⟨wr.heap.size + 1, 3, none⟩ = some (.int .i64 k3))
                  (first | exact KU.out _ (HQ.out.chg _ _ _ Qs) | exact KU.out _ (HQ.out.chg _ _ _ QA) | exact KU.out _ (HQ.out.chg _ _ _ QB) | exact KU.out _ (HQ.out.chg _ _ _ QC) | exact KU.out _ (HQ.out.chg _ _ _ QE))
                  (first
                    | (go_at_call 10; first | (refine (HQ.out.left _ _ Qs).mono ?_; rintro e wA ⟨rfl, QA⟩) | (refine (HQ.out.left _ _ QB).mono ?_; rintro e wC ⟨rfl, QC⟩))
                    | (go_at_call 13; first | (refine (HQ.out.right _ _ Qs).mono ?_; rintro e wB ⟨rfl, QB⟩) | (refine (HQ.out.right _ _ QA).mono ?_; rintro e wE ⟨rfl, QE⟩)))
                all_goals
                  rename_i hx
                  clear hx
                  first | (have QZ := QE) | (have QZ := QC)
                  obtain ⟨S', R', hF⟩ := FX.out _ (HQ.out.chg _ _ _ QZ) (HQ.out.fin _ QZ)
                  go_wp2_with fail
                  go_roundw
                  case rel => exact ⟨j + 1, S', R', by omega, by go_num, hF⟩
                  case measure => simp [intOf]; omega
              · go_wp2_with fail
                go_region_held3 (fun W => W.cell? ⟨wr.heap.size, 0, none⟩ = some (.int .i64 kd) ∧ W.cell? ⟨wr.heap.size, 1, none⟩ = some (.int .i64 k0) ∧ W.cell? ⟨wr.heap.size, 2, none⟩ = some (.int .u32 k1) ∧ W.cell? ⟨wr.heap.size, 3, none⟩ = some (.int .u32 k2) ∧ W.cell? ⟨wr.heap.size, 4, none⟩ = some (.int .i64 k3) ∧ W.cell? ⟨wr.heap.size, 5, none⟩ = some (.int .i64 port) ∧ W.cell? ⟨wr.heap.size, 6, none⟩ = some (.int .i64 now) ∧ W.cell? ⟨wr.heap.size + 1, 0, none⟩ = some (.int .i64 k0) ∧ W.cell? ⟨wr.heap.size + 1, 1, none⟩ = some (.int .u32 k1) ∧ W.cell? ⟨wr.heap.size + 1, 2, none⟩ = some (.int .u32 k2) ∧ W.cell? ⟨wr.heap.size + 1, 3, none⟩ = some (.int .i64 k3))
                  (first | exact KU.out _ (HQ.out.chg _ _ _ Qs) | exact KU.out _ (HQ.out.chg _ _ _ QA) | exact KU.out _ (HQ.out.chg _ _ _ QB) | exact KU.out _ (HQ.out.chg _ _ _ QC) | exact KU.out _ (HQ.out.chg _ _ _ QE))
                  (first
                    | (go_at_call 10; first | (refine (HQ.out.left _ _ Qs).mono ?_; rintro e wA ⟨rfl, QA⟩) | (refine (HQ.out.left _ _ QB).mono ?_; rintro e wC ⟨rfl, QC⟩))
                    | (go_at_call 13; first | (refine (HQ.out.right _ _ Qs).mono ?_; rintro e wB ⟨rfl, QB⟩) | (refine (HQ.out.right _ _ QA).mono ?_; rintro e wE ⟨rfl, QE⟩)))
                all_goals
                  rename_i hx
                  clear hx
                  first | (have QZ := QE) | (have QZ := QC)
                  obtain ⟨S', R', hF⟩ := FX.out _ (HQ.out.chg _ _ _ QZ) (HQ.out.fin _ QZ)
                  go_wp2_with fail
                  go_roundw
                  case rel => exact ⟨j + 1, S', R', by omega, by go_num, hF⟩
                  case measure => simp [intOf]; omega
            have f2 : ¬ r = 2 := fun q => e23 (.inl q)
            have f3 : ¬ r = 3 := fun q => e23 (.inr q)
            clear e23
            by_cases e4 : r = 4
            · subst e4
              obtain ⟨bb, Q, hQ⟩ := lent_both k0 k1 k2 k3 HK.out J5.out HA.out htj pt pt0 pt1
              have HQ := Lib.hid hQ
              have Qs := hQ.dr _ _ _ hQ.start
              clear hQ f2 f3
              go_wp2_with fail
              go_region_held3 (fun W => W.cell? ⟨wr.heap.size, 0, none⟩ = some (.int .i64 kd) ∧ W.cell? ⟨wr.heap.size, 1, none⟩ = some (.int .i64 k0) ∧ W.cell? ⟨wr.heap.size, 2, none⟩ = some (.int .u32 k1) ∧ W.cell? ⟨wr.heap.size, 3, none⟩ = some (.int .u32 k2) ∧ W.cell? ⟨wr.heap.size, 4, none⟩ = some (.int .i64 k3) ∧ W.cell? ⟨wr.heap.size, 5, none⟩ = some (.int .i64 port) ∧ W.cell? ⟨wr.heap.size, 6, none⟩ = some (.int .i64 now) ∧ W.cell? ⟨wr.heap.size + 1, 0, none⟩ = some (.int .i64 k0) ∧ W.cell? ⟨wr.heap.size + 1, 1, none⟩ = some (.int .u32 k1) ∧ W.cell? ⟨wr.heap.size + 1, 2, none⟩ = some (.int .u32 k2) ∧ W.cell? ⟨wr.heap.size + 1, 3, none⟩ = some (.int .i64 k3))
                (first | exact KU.out _ (HQ.out.chg _ _ _ Qs) | exact KU.out _ (HQ.out.chg _ _ _ QA) | exact KU.out _ (HQ.out.chg _ _ _ QB) | exact KU.out _ (HQ.out.chg _ _ _ QC) | exact KU.out _ (HQ.out.chg _ _ _ QE))
                (first
                  | (go_at_call 11; first | (refine (HQ.out.left _ _ Qs).mono ?_; rintro e wA ⟨rfl, QA⟩) | (refine (HQ.out.left _ _ QB).mono ?_; rintro e wC ⟨rfl, QC⟩))
                  | (go_at_call 14; first | (refine (HQ.out.right _ _ Qs).mono ?_; rintro e wB ⟨rfl, QB⟩) | (refine (HQ.out.right _ _ QA).mono ?_; rintro e wE ⟨rfl, QE⟩)))
              all_goals
                rename_i hx
                clear hx
                first | (have QZ := QE) | (have QZ := QC)
                obtain ⟨S', R', hF⟩ := FX.out _ (HQ.out.chg _ _ _ QZ) (HQ.out.fin _ QZ)
                go_wp2_with fail
                go_roundw
                case rel => exact ⟨j + 1, S', R', by omega, by go_num, hF⟩
                case measure => simp [intOf]; omega
            by_cases e5 : r = 5
            · subst e5
              obtain ⟨bb, Q, hQ⟩ := rests_both k0 k1 k2 k3 HK.out J5.out HA.out htj pt now pt0 pt1
              have HQ := Lib.hid hQ
              have Qs := hQ.dr _ _ _ hQ.start
              clear hQ f2 f3 e4
              go_wp2_with fail
              go_region_held3 (fun W => W.cell? ⟨wr.heap.size, 0, none⟩ = some (.int .i64 kd) ∧ W.cell? ⟨wr.heap.size, 1, none⟩ = some (.int .i64 k0) ∧ W.cell? ⟨wr.heap.size, 2, none⟩ = some (.int .u32 k1) ∧ W.cell? ⟨wr.heap.size, 3, none⟩ = some (.int .u32 k2) ∧ W.cell? ⟨wr.heap.size, 4, none⟩ = some (.int .i64 k3) ∧ W.cell? ⟨wr.heap.size, 5, none⟩ = some (.int .i64 port) ∧ W.cell? ⟨wr.heap.size, 6, none⟩ = some (.int .i64 now) ∧ W.cell? ⟨wr.heap.size + 1, 0, none⟩ = some (.int .i64 k0) ∧ W.cell? ⟨wr.heap.size + 1, 1, none⟩ = some (.int .u32 k1) ∧ W.cell? ⟨wr.heap.size + 1, 2, none⟩ = some (.int .u32 k2) ∧ W.cell? ⟨wr.heap.size + 1, 3, none⟩ = some (.int .i64 k3))
                (first | exact KU.out _ (HQ.out.chg _ _ _ Qs) | exact KU.out _ (HQ.out.chg _ _ _ QA) | exact KU.out _ (HQ.out.chg _ _ _ QB) | exact KU.out _ (HQ.out.chg _ _ _ QC) | exact KU.out _ (HQ.out.chg _ _ _ QE))
                (first
                  | (go_at_call 15; first | (refine (HQ.out.left _ _ Qs).mono ?_; rintro e wA ⟨rfl, QA⟩) | (refine (HQ.out.left _ _ QB).mono ?_; rintro e wC ⟨rfl, QC⟩))
                  | (go_at_call 16; first | (refine (HQ.out.right _ _ Qs).mono ?_; rintro e wB ⟨rfl, QB⟩) | (refine (HQ.out.right _ _ QA).mono ?_; rintro e wE ⟨rfl, QE⟩)))
              all_goals
                rename_i hx
                clear hx
                first | (have QZ := QE) | (have QZ := QC)
                obtain ⟨S', R', hF⟩ := FX.out _ (HQ.out.chg _ _ _ QZ) (HQ.out.fin _ QZ)
                go_wp2_with fail
                go_roundw
                case rel => exact ⟨j + 1, S', R', by omega, by go_num, hF⟩
                case measure => simp [intOf]; omega
            have g2 : (r == 2) = false := by simp [f2]
            have g3 : (r == 3) = false := by simp [f3]
            have g4 : (r == 4) = false := by simp [e4]
            have g5 : (r == 5) = false := by simp [e5]
            clear f2 f3 e4 e5
            obtain ⟨ra, rf, Q, hQ⟩ := take_both k0 k1 k2 k3 HK.out J5.out HA.out htj now
            have HQ := Lib.hid hQ
            have Qs := hQ.start
            clear hQ
            go_wp2_with fail
            refine (HQ.out.left _ _ Qs).mono ?_
            rintro e wA ⟨rfl, QA⟩
            obtain ⟨a0, a1, a2, a3, a4, a5, a6, y0, y1, y2, y3⟩ := KU.out _ (HQ.out.chg _ _ _ QA)
            go_wp2_with fail
            refine (HQ.out.right _ _ QA).mono ?_
            rintro e wE ⟨rfl, QZ⟩
            clear a0 a1 a2 a3 a4 a5 a6 y0 y1 y2 y3
            obtain ⟨S', R', hF⟩ := FX.out _ (HQ.out.chg _ _ _ QZ) (HQ.out.fin _ QZ)
            go_wp2_with fail
            go_roundw
            case rel => exact ⟨j + 1, S', R', by omega, by go_num, hF⟩
            case measure => simp [intOf]; omega
          · have hj1 : (j : Int) < (len : Int) := by omega
            have hj2 : ¬ (j : Int) < 60 := by omega
            have hc := HR.out.2.2
            have hFIN := Lib.hid (HB1.out.trans ((hc.below (B := wc.heap.size) (fun b hb => by simpa using hb) (Nat.le_refl _)).mono hs1))
            clear hc
            go_wp2
            go_ret
            exact ⟨rfl, hFIN.out⟩
        · have hj1 : ¬ (j : Int) < (len : Int) := by omega
          have hc := HR.out.2.2
          have hFIN := Lib.hid (HB1.out.trans ((hc.below (B := wc.heap.size) (fun b hb => by simpa using hb) (Nat.le_refl _)).mono hs1))
          clear hc
          go_wp2
          go_ret
          exact ⟨rfl, hFIN.out⟩
end Go.Proofs.YthkadlmdjgdliaaDoor
