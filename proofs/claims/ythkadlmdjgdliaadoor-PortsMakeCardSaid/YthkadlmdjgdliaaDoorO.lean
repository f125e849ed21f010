/- The walk of PortsMake. -/
import Derived.Test.YthkadlmdjgdliaaDoorM
import Derived.Test.YthkadlmdjgdliaaDoorArgs
namespace Go.Proofs.YthkadlmdjgdliaaDoor
open Go.RowKit
set_option linter.unusedSimpArgs false
set_option linter.unusedVariables false
open V2 (Only)

set_option maxRecDepth 100000 in
set_option maxHeartbeats 3200000 in
theorem make_bad (low many rest : Int) (h1 : -9223372036854775808 ≤ low) (h2 : low ≤ 9223372036854775807) (h : low < 1 ∨ many < 1 ∨ 65536 < low ∨ 65536 < many ∨ 65536 < low + many ∨ rest < 0 ∨ 1099511627776 < rest) (w : World) (hT : Tab w) (hz : 0 < w.heap.size) :
    Calls Tryd.prog 6 #[.int .i64 low, .int .i64 many, .int .i64 rest] w fun e w' => e = .returned (.bool true) ∧ Below w.heap.size w w' := by
  have hx := fun w1 => ports_bad low many rest h1 h2 (by omega) w1
  have HX := Lib.hid hx
  have HE := Lib.hid (examples_c w hT hz)
  clear hx hT
  by_cases a1 : low < 1
  · clear h
    go_enter Tryd.func6, Tryd.ntmps6
    go_wp2_with fail
    refine HE.out.mono ?_
    rintro e w1 ⟨rfl, hb⟩
    go_wp2_with fail
    refine (HX.out w1).mono ?_
    rintro e w' ⟨rfl, rfl⟩
    go_wp2
    go_ret
    exact ⟨rfl, hb⟩
  by_cases a2 : many < 1
  · clear h
    go_enter Tryd.func6, Tryd.ntmps6
    go_wp2_with fail
    refine HE.out.mono ?_
    rintro e w1 ⟨rfl, hb⟩
    go_wp2_with fail
    refine (HX.out w1).mono ?_
    rintro e w' ⟨rfl, rfl⟩
    go_wp2
    go_ret
    exact ⟨rfl, hb⟩
  by_cases a3 : 65536 < low
  · clear h
    go_enter Tryd.func6, Tryd.ntmps6
    go_wp2_with fail
    refine HE.out.mono ?_
    rintro e w1 ⟨rfl, hb⟩
    go_wp2_with fail
    refine (HX.out w1).mono ?_
    rintro e w' ⟨rfl, rfl⟩
    go_wp2
    go_ret
    exact ⟨rfl, hb⟩
  by_cases a4 : 65536 < many
  · clear h
    go_enter Tryd.func6, Tryd.ntmps6
    go_wp2_with fail
    refine HE.out.mono ?_
    rintro e w1 ⟨rfl, hb⟩
    go_wp2_with fail
    refine (HX.out w1).mono ?_
    rintro e w' ⟨rfl, rfl⟩
    go_wp2
    go_ret
    exact ⟨rfl, hb⟩
  by_cases a5 : 65536 < low + many
  · clear h
    go_enter Tryd.func6, Tryd.ntmps6
    go_wp2_with fail
    refine HE.out.mono ?_
    rintro e w1 ⟨rfl, hb⟩
    go_wp2_with fail
    refine (HX.out w1).mono ?_
    rintro e w' ⟨rfl, rfl⟩
    go_wp2
    go_ret
    exact ⟨rfl, hb⟩
  by_cases a6 : rest < 0
  · clear h
    go_enter Tryd.func6, Tryd.ntmps6
    go_wp2_with fail
    refine HE.out.mono ?_
    rintro e w1 ⟨rfl, hb⟩
    go_wp2_with fail
    refine (HX.out w1).mono ?_
    rintro e w' ⟨rfl, rfl⟩
    go_wp2
    go_ret
    exact ⟨rfl, hb⟩
  have a7 : decide (rest ≤ 1099511627776) = false := by simp; omega
  clear h
  go_enter Tryd.func6, Tryd.ntmps6
  go_wp2_with fail
  refine HE.out.mono ?_
  rintro e w1 ⟨rfl, hb⟩
  go_wp2_with fail
  refine (HX.out w1).mono ?_
  rintro e w' ⟨rfl, rfl⟩
  go_wp2
  go_ret
  exact ⟨rfl, hb⟩
set_option maxRecDepth 100000 in
set_option maxHeartbeats 3200000 in
theorem make_good (low n rest : Nat) (h1 : 1 ≤ low) (h2 : 1 ≤ n) (h3 : low + n ≤ 65536) (h4 : rest ≤ 1099511627776) (w : World) (hT : Tab w) (hz : 0 < w.heap.size) :
    Calls Tryd.prog 6 #[.int .i64 low, .int .i64 n, .int .i64 rest] w fun e w' => e = .returned (.bool true) ∧ Below w.heap.size w w' := by
  obtain ⟨kl, hk⟩ := key_some (k0 := 0) (k1 := 0) (k2 := 0) (k3 := 0) (by decide) (by decide) (by decide) (by decide)
  obtain ⟨ko, hko⟩ := key_some (k0 := 1) (k1 := 0) (k2 := 0) (k3 := 0) (by decide) (by decide) (by decide) (by decide)
  have hne : ko ≠ kl := fun e => by
    subst e
    have := keyed24.inj hk hko
    unfold kv at this
    simp at this
  have HK := Lib.hid hk
  have HO := Lib.hid hko
  have HNE := Lib.hid hne
  have HT := Lib.hid hT
  have a7 : decide ((rest : Int) ≤ 1099511627776) = true := by simp; omega
  clear hk hko hT hne
  go_enter Tryd.func6, Tryd.ntmps6
  go_wp2_with fail
  refine (examples_c w HT.out hz).mono ?_
  rintro e w1 ⟨rfl, hb1⟩
  have HB1 := Lib.hid hb1
  have hs1 := hb1.size
  have HT1 := Lib.hid (HT.out.below hb1 hz)
  clear hb1 HT
  go_wp2_with fail
  refine (ports_new low n rest h1 h2 h3 h4 w1 HT1.out (by omega)).mono ?_
  rintro e w2 ⟨pb, pm, rfl, S2⟩
  have P2 : PS ⟨w1, fun b => b < w1.heap.size⟩ w2 pb pm low n rest 0 (fun _ => PA.new) := ⟨_, S2⟩
  clear S2
  go_wp2_with fail
  refine (takeNextS HK.out 0 P2 (by omega) 0 ⟨by omega, rfl, .inl ⟨Nat.le_refl _, fun j a b => by omega⟩⟩).mono ?_
  rintro e w3 ⟨S3, t3, rfl, P3⟩
  rw [show (low : Int) + ((0 : Nat) : Int) = (low : Int) from by simp]
  have T3 := Lib.hid t3.1
  have TO := Lib.hid (t3.2 ko HNE.out)
  clear t3 P2
  go_wp2_with fail
  refine (lentP HK.out (low - 1) (by omega) (by omega) P3 false (by unfold lentB; simp; omega)).mono ?_
  rintro e w4 ⟨rfl, P4⟩
  clear P3
  go_wp2_with fail
  refine (lentP HO.out low (by omega) (by omega) P4 false (by rw [TO.out]; unfold lentB; simp [PA.new])).mono ?_
  rintro e w5 ⟨rfl, P5⟩
  clear P4
  go_wp2_with fail
  refine (giveNo HK.out (low + n) 0 (by omega) (by omega) P5 (by rw [T3.out]; unfold lentB; rw [show ((low : Int) + n - low).toNat = n by omega]; simp [PA.take, setU, PA.exp, PA.new]; omega)).mono ?_
  rintro e w6 ⟨rfl, P6⟩
  clear P5
  go_wp2_with fail
  refine (restsP HK.out low 0 (by omega) (by omega) P6 false (by rw [T3.out]; unfold restB; simp [PA.take, PA.exp, PA.new, expG, over])).mono ?_
  rintro e w7 ⟨rfl, P7⟩
  clear P6
  have FIN := Lib.hid (HB1.out.trans ((P7.keeps.below (fun b hb => hb)).mono hs1))
  clear P7
  go_wp2
  go_ret
  exact ⟨rfl, FIN.out⟩
theorem make_w (low : Int) (hl : (Lit.int .i64 low).wf = true) (many : Int) (hm : (Lit.int .i64 many).wf = true) (rest : Int) (hr : (Lit.int .i64 rest).wf = true) (w : World) (hT : Tab w) (hz : 0 < w.heap.size) :
    Calls Tryd.prog 6 #[.int .i64 low, .int .i64 many, .int .i64 rest] w fun e w' => e = .returned (.bool true) ∧ Below w.heap.size w w' := by
  obtain ⟨l0, l1⟩ := wf_i64 hl
  by_cases h : low < 1 ∨ many < 1 ∨ 65536 < low ∨ 65536 < many ∨ 65536 < low + many ∨ rest < 0 ∨ 1099511627776 < rest
  · exact make_bad low many rest l0 l1 h w hT hz
  · obtain ⟨a, rfl⟩ : ∃ a : Nat, low = (a : Int) := ⟨low.toNat, by omega⟩
    obtain ⟨b, rfl⟩ : ∃ b : Nat, many = (b : Int) := ⟨many.toNat, by omega⟩
    obtain ⟨c, rfl⟩ : ∃ c : Nat, rest = (c : Int) := ⟨rest.toNat, by omega⟩
    exact make_good a b c (by omega) (by omega) (by omega) (by omega) w hT hz
end Go.Proofs.YthkadlmdjgdliaaDoor
