/- Contracts of quote's functions Plain, About. -/
import Derived.Test.YtabekppniampmaaA
import Derived.Deep.RegionHeld3
namespace Go.Proofs.Ytabekppniampmaa
open Go.RowKit

def flow (cp cs cd ca cb bp bs bd ba bb sv be st : Int) (dsr : Bool) : Value := .agg #[.int .i64 cp, .int .u32 cs, .int .u32 cd, .int .i64 ca, .int .i64 cb, .int .i64 bp, .int .u32 bs, .int .u32 bd, .int .i64 ba, .int .i64 bb, .int .i64 sv, .int .i64 be, .int .i64 st, .bool dsr]

theorem boxed_new (w : World) (cp cs cd ca cb bp bs bd ba bb sv be st : Int) (dsr : Bool) :
    Boxed (w.alloc (.cells #[.int .i64 cp, .int .u32 cs, .int .u32 cd, .int .i64 ca, .int .i64 cb, .int .i64 bp, .int .u32 bs, .int .u32 bd, .int .i64 ba, .int .i64 bb, .int .i64 sv, .int .i64 be, .int .i64 st, .bool dsr] 26)) w.heap.size cp cs cd ca cb bp bs bd ba bb := by
  constructor <;> simp

set_option maxHeartbeats 400000 in
theorem plain_t (cp cs cd ca cb bp bs bd ba bb sv be st : Int) (dsr : Bool) (w : World) :
    Calls Try.prog 7 #[flow cp cs cd ca cb bp bs bd ba bb sv be st dsr, .bool true] w
     fun e w' => e = .returned (.agg #[.int .u32 cd, .int .u32 cs, .int .i64 cb, .int .i64 ca]) ∧ Below w.heap.size w w' := by
  have hmf : ∀ (fn : Fn) (first cap : Array Value) (w : World), (Instr.makeFunc fn first cap).run Try.prog w = .ok (.func fn first cap) w := fun _ _ _ _ => rfl
  have hbx := boxed_new w cp cs cd ca cb bp bs bd ba bb sv be st dsr
  unfold flow
  go_enter Try.func7, Try.ntmps7
  go_wp2_with fail
  refine (pick_pt _ cp cs cd ca cb bp bs bd ba bb _ ?_ ?_).mono ?_
  · simp; omega
  · exact (hbx.alloc _ (by simp))
  rintro e w1 ⟨rfl, hb⟩
  have hb1 : Below w.heap.size w w1 := (((Below.refl _ _).alloc (Nat.le_refl _) _).alloc (by simp) _).trans (hb.mono (by simp; omega))
  have hz := hb.size
  obtain ⟨hc, hf⟩ := bcell hb
  clear hbx
  simp at hz
  have f4 : ∀ o, w1.frozen? ⟨w.heap.size + 1, o, none⟩ = false := fun o => by rw [hf _ _ (by simp)]; simp
  have c0 : w1.cell? ⟨w.heap.size + 1, 0, none⟩ = some (.int .u32 0) := by rw [hc _ _ (by simp)]; simp
  have c1 : w1.cell? ⟨w.heap.size + 1, 1, none⟩ = some (.int .u32 0) := by rw [hc _ _ (by simp)]; simp
  have c2 : w1.cell? ⟨w.heap.size + 1, 2, none⟩ = some (.int .i64 0) := by rw [hc _ _ (by simp)]; simp
  have c3 : w1.cell? ⟨w.heap.size + 1, 3, none⟩ = some (.int .i64 0) := by rw [hc _ _ (by simp)]; simp
  clear hb hc hf
  go_wp2_with fail
  refine (ends_c _ _ _ _ _ _).mono ?_
  rintro e w2 ⟨rfl, hb2⟩
  have g : ∀ o, w2.frozen? ⟨w.heap.size + 1, o, none⟩ = false := fun o => by rw [hb2.frozen (by simp; omega)]; exact f4 o
  have e0 := (hb2.cell (p := ⟨w.heap.size + 1, 0, none⟩) (by simp; omega)).trans c0
  have e1 := (hb2.cell (p := ⟨w.heap.size + 1, 1, none⟩) (by simp; omega)).trans c1
  have e2 := (hb2.cell (p := ⟨w.heap.size + 1, 2, none⟩) (by simp; omega)).trans c2
  have e3 := (hb2.cell (p := ⟨w.heap.size + 1, 3, none⟩) (by simp; omega)).trans c3
  have HB : Hid (Below w.heap.size w w2) := hb1.trans (hb2.mono hb1.size)
  clear hb1 hb2 c0 c1 c2 c3 f4
  go_wp2
  exact bodyPost_ret (by simp [results, Try.results7, go_sem, e0, e1, e2, e3]) rfl ⟨rfl, (((HB.out.setCell (by simp) _).setCell (by simp) _).setCell (by simp) _).setCell (by simp) _⟩

set_option maxHeartbeats 400000 in
theorem plain_f (cp cs cd ca cb bp bs bd ba bb sv be st : Int) (dsr : Bool) (w : World) :
    Calls Try.prog 7 #[flow cp cs cd ca cb bp bs bd ba bb sv be st dsr, .bool false] w
     fun e w' => e = .returned (.agg #[.int .u32 bs, .int .u32 bd, .int .i64 ba, .int .i64 bb]) ∧ Below w.heap.size w w' := by
  have hmf : ∀ (fn : Fn) (first cap : Array Value) (w : World), (Instr.makeFunc fn first cap).run Try.prog w = .ok (.func fn first cap) w := fun _ _ _ _ => rfl
  have hbx := boxed_new w cp cs cd ca cb bp bs bd ba bb sv be st dsr
  unfold flow
  go_enter Try.func7, Try.ntmps7
  go_wp2_with fail
  refine (pick_pf _ cp cs cd ca cb bp bs bd ba bb _ ?_ ?_).mono ?_
  · simp; omega
  · exact (hbx.alloc _ (by simp))
  rintro e w1 ⟨rfl, hb⟩
  have hb1 : Below w.heap.size w w1 := (((Below.refl _ _).alloc (Nat.le_refl _) _).alloc (by simp) _).trans (hb.mono (by simp; omega))
  have hz := hb.size
  obtain ⟨hc, hf⟩ := bcell hb
  clear hbx
  simp at hz
  have f4 : ∀ o, w1.frozen? ⟨w.heap.size + 1, o, none⟩ = false := fun o => by rw [hf _ _ (by simp)]; simp
  have c0 : w1.cell? ⟨w.heap.size + 1, 0, none⟩ = some (.int .u32 0) := by rw [hc _ _ (by simp)]; simp
  have c1 : w1.cell? ⟨w.heap.size + 1, 1, none⟩ = some (.int .u32 0) := by rw [hc _ _ (by simp)]; simp
  have c2 : w1.cell? ⟨w.heap.size + 1, 2, none⟩ = some (.int .i64 0) := by rw [hc _ _ (by simp)]; simp
  have c3 : w1.cell? ⟨w.heap.size + 1, 3, none⟩ = some (.int .i64 0) := by rw [hc _ _ (by simp)]; simp
  clear hb hc hf
  go_wp2_with fail
  refine (ends_c _ _ _ _ _ _).mono ?_
  rintro e w2 ⟨rfl, hb2⟩
  have g : ∀ o, w2.frozen? ⟨w.heap.size + 1, o, none⟩ = false := fun o => by rw [hb2.frozen (by simp; omega)]; exact f4 o
  have e0 := (hb2.cell (p := ⟨w.heap.size + 1, 0, none⟩) (by simp; omega)).trans c0
  have e1 := (hb2.cell (p := ⟨w.heap.size + 1, 1, none⟩) (by simp; omega)).trans c1
  have e2 := (hb2.cell (p := ⟨w.heap.size + 1, 2, none⟩) (by simp; omega)).trans c2
  have e3 := (hb2.cell (p := ⟨w.heap.size + 1, 3, none⟩) (by simp; omega)).trans c3
  have HB : Hid (Below w.heap.size w w2) := hb1.trans (hb2.mono hb1.size)
  clear hb1 hb2 c0 c1 c2 c3 f4
  go_wp2
  exact bodyPost_ret (by simp [results, Try.results7, go_sem, e0, e1, e2, e3]) rfl ⟨rfl, (((HB.out.setCell (by simp) _).setCell (by simp) _).setCell (by simp) _).setCell (by simp) _⟩

set_option maxHeartbeats 400000 in
theorem about_t (cp cs cd ca cb bp bs bd ba bb sv be st : Int) (dsr : Bool) (w : World) :
    Calls Try.prog 8 #[flow cp cs cd ca cb bp bs bd ba bb sv be st dsr, .bool true] w
     fun e w' => e = .returned (.tuple #[.int .u32 cd, .int .u32 cs, .agg #[.int .u32 cs, .int .u32 cd, .int .i64 ca, .int .i64 cb]]) ∧ Below w.heap.size w w' := by
  have hmf : ∀ (fn : Fn) (first cap : Array Value) (w : World), (Instr.makeFunc fn first cap).run Try.prog w = .ok (.func fn first cap) w := fun _ _ _ _ => rfl
  have hbx := boxed_new w cp cs cd ca cb bp bs bd ba bb sv be st dsr
  unfold flow
  go_enter Try.func8, Try.ntmps8
  go_wp2_with fail
  refine (pick_at _ cp cs cd ca cb bp bs bd ba bb _ ?_ ?_).mono ?_
  · simp; omega
  · exact (hbx.alloc _ (by simp))
  rintro e w1 ⟨rfl, hb⟩
  have hb1 : Below w.heap.size w w1 := (((Below.refl _ _).alloc (Nat.le_refl _) _).alloc (by simp) _).trans (hb.mono (by simp; omega))
  have hz := hb.size
  obtain ⟨hc, hf⟩ := bcell hb
  clear hbx
  simp at hz
  have f4 : ∀ o, w1.frozen? ⟨w.heap.size + 1, o, none⟩ = false := fun o => by rw [hf _ _ (by simp)]; simp
  have c0 : w1.cell? ⟨w.heap.size + 1, 0, none⟩ = some (.int .u32 0) := by rw [hc _ _ (by simp)]; simp
  have c1 : w1.cell? ⟨w.heap.size + 1, 1, none⟩ = some (.int .u32 0) := by rw [hc _ _ (by simp)]; simp
  have c2 : w1.cell? ⟨w.heap.size + 1, 2, none⟩ = some (.int .i64 0) := by rw [hc _ _ (by simp)]; simp
  have c3 : w1.cell? ⟨w.heap.size + 1, 3, none⟩ = some (.int .i64 0) := by rw [hc _ _ (by simp)]; simp
  clear hb hc hf
  go_wp2_with fail
  obtain ⟨w2, hw2⟩ : ∃ w2, w2 = w1.alloc (.cells #[.int .i64 cp, .int .u32 cs, .int .u32 cd, .int .i64 ca, .int .i64 cb] 24) := ⟨_, rfl⟩
  have hW : Below w.heap.size w w2 := by rw [hw2]; exact hb1.alloc hb1.size _
  have hz2 : w1.heap.size < w2.heap.size := by rw [hw2]; simp
  have hb2 : Below w1.heap.size w1 w2 := by rw [hw2]; exact (Below.refl _ _).alloc (Nat.le_refl _) _
  have g : ∀ o, w2.frozen? ⟨w.heap.size + 1, o, none⟩ = false := fun o => by rw [hb2.frozen (by simp; omega)]; exact f4 o
  have e0 := (hb2.cell (p := ⟨w.heap.size + 1, 0, none⟩) (by simp; omega)).trans c0
  have e1 := (hb2.cell (p := ⟨w.heap.size + 1, 1, none⟩) (by simp; omega)).trans c1
  have e2 := (hb2.cell (p := ⟨w.heap.size + 1, 2, none⟩) (by simp; omega)).trans c2
  have e3 := (hb2.cell (p := ⟨w.heap.size + 1, 3, none⟩) (by simp; omega)).trans c3
  have k0 : w2.cell? ⟨w1.heap.size, 0, none⟩ = some (.int .i64 cp) := by rw [hw2]; simp
  have k1 : w2.cell? ⟨w1.heap.size, 1, none⟩ = some (.int .u32 cs) := by rw [hw2]; simp
  have k2 : w2.cell? ⟨w1.heap.size, 2, none⟩ = some (.int .u32 cd) := by rw [hw2]; simp
  have k3 : w2.cell? ⟨w1.heap.size, 3, none⟩ = some (.int .i64 ca) := by rw [hw2]; simp
  have k4 : w2.cell? ⟨w1.heap.size, 4, none⟩ = some (.int .i64 cb) := by rw [hw2]; simp
  rw [← hw2]
  clear hw2 hb1 c0 c1 c2 c3 f4 hb2
  have HS : Hid (∀ W : World, Below w2.heap.size w2 W → W.cell? ⟨w1.heap.size, 0, none⟩ = some (.int .i64 cp) ∧ W.cell? ⟨w1.heap.size, 1, none⟩ = some (.int .u32 cs) ∧ W.cell? ⟨w1.heap.size, 2, none⟩ = some (.int .u32 cd) ∧ W.cell? ⟨w1.heap.size, 3, none⟩ = some (.int .i64 ca) ∧ W.cell? ⟨w1.heap.size, 4, none⟩ = some (.int .i64 cb) ∧ Below w.heap.size w W) := by
    intro W h
    exact ⟨(h.cell hz2).trans k0, (h.cell hz2).trans k1, (h.cell hz2).trans k2, (h.cell hz2).trans k3, (h.cell hz2).trans k4, hW.trans (h.mono (by omega))⟩
  have HF : Hid (∀ W' : World, Below w2.heap.size w2 W' → ∀ x0 x1 x2 x3 : Value, ∀ W, W = (((W'.setCell ⟨w.heap.size + 1, 0, none⟩ x0).setCell ⟨w.heap.size + 1, 1, none⟩ x1).setCell ⟨w.heap.size + 1, 2, none⟩ x2).setCell ⟨w.heap.size + 1, 3, none⟩ x3 → W.cell? ⟨w1.heap.size, 0, none⟩ = some (.int .i64 cp) ∧ W.cell? ⟨w1.heap.size, 1, none⟩ = some (.int .u32 cs) ∧ W.cell? ⟨w1.heap.size, 2, none⟩ = some (.int .u32 cd) ∧ W.cell? ⟨w1.heap.size, 3, none⟩ = some (.int .i64 ca) ∧ W.cell? ⟨w1.heap.size, 4, none⟩ = some (.int .i64 cb) ∧ Below w.heap.size w W) := by
    rintro W' h x0 x1 x2 x3 W rfl
    obtain ⟨q0, q1, q2, q3, q4, q5⟩ := HS.out W' h
    refine ⟨by simp [go_sem, q0], by simp [go_sem, q1], by simp [go_sem, q2], by simp [go_sem, q3], by simp [go_sem, q4], ?_⟩
    exact (((q5.setCell (by simp) _).setCell (by simp) _).setCell (by simp) _).setCell (by simp) _
  have hlt : w.heap.size + 1 < w2.heap.size := by omega
  have r0 : ∀ W', Below w2.heap.size w2.drew W' → W'.cell? ⟨w.heap.size + 1, 0, none⟩ = some (.int .u32 0) := fun W' h => (h.cell hlt).trans e0
  have r1 : ∀ W', Below w2.heap.size w2.drew W' → W'.cell? ⟨w.heap.size + 1, 1, none⟩ = some (.int .u32 0) := fun W' h => (h.cell hlt).trans e1
  have r2 : ∀ W', Below w2.heap.size w2.drew W' → W'.cell? ⟨w.heap.size + 1, 2, none⟩ = some (.int .i64 0) := fun W' h => (h.cell hlt).trans e2
  have r3 : ∀ W', Below w2.heap.size w2.drew W' → W'.cell? ⟨w.heap.size + 1, 3, none⟩ = some (.int .i64 0) := fun W' h => (h.cell hlt).trans e3
  have r4 : ∀ W', Below w2.heap.size w2.drew W' → ∀ o, W'.frozen? ⟨w.heap.size + 1, o, none⟩ = false := fun W' h o => (h.frozen hlt).trans (g o)
  clear k0 k1 k2 k3 k4 e0 e1 e2 e3 g hW
  go_region_held3 (fun W => W.cell? ⟨w1.heap.size, 0, none⟩ = some (.int .i64 cp) ∧ W.cell? ⟨w1.heap.size, 1, none⟩ = some (.int .u32 cs) ∧ W.cell? ⟨w1.heap.size, 2, none⟩ = some (.int .u32 cd) ∧ W.cell? ⟨w1.heap.size, 3, none⟩ = some (.int .i64 ca) ∧ W.cell? ⟨w1.heap.size, 4, none⟩ = some (.int .i64 cb) ∧ Below w.heap.size w W) (first | exact HS.out _ (Below.drew (Below.refl _ _)) | exact HS.out _ (Below.trans (Below.drew (Below.refl _ _)) hb) | exact HF.out _ (Below.trans (Below.drew (Below.refl _ _)) hb) _ _ _ _ _ rfl)
    (first | (go_at_call 12; refine (ends_c _ _ _ _ _ _).mono ?_; rintro e w' ⟨rfl, hb'⟩; have hb : Below w2.heap.size w2.drew w' := hb'; clear hb'))
  have HB : Hid (Below w.heap.size w ((((w'.setCell ⟨w.heap.size + 1, 0, none⟩ (.int .u32 cs)).setCell ⟨w.heap.size + 1, 1, none⟩ (.int .u32 cd)).setCell ⟨w.heap.size + 1, 2, none⟩ (.int .i64 ca)).setCell ⟨w.heap.size + 1, 3, none⟩ (.int .i64 cb))) := (HF.out _ (Below.trans (Below.drew (Below.refl _ _)) hb) _ _ _ _ _ rfl).2.2.2.2.2
  have q0 := r0 _ hb
  have q1 := r1 _ hb
  have q2 := r2 _ hb
  have q3 := r3 _ hb
  rename_i hx
  clear hx r0 r1 r2 r3 r4 hb HS HF
  go_wp2
  exact bodyPost_ret (by simp [results, Try.results8, go_sem, q0, q1, q2, q3]) rfl ⟨rfl, HB.out⟩

set_option maxHeartbeats 400000 in
theorem about_f (cp cs cd ca cb bp bs bd ba bb sv be st : Int) (dsr : Bool) (w : World) :
    Calls Try.prog 8 #[flow cp cs cd ca cb bp bs bd ba bb sv be st dsr, .bool false] w
     fun e w' => e = .returned (.tuple #[.int .u32 bs, .int .u32 bd, .agg #[.int .u32 bd, .int .u32 bs, .int .i64 bb, .int .i64 ba]]) ∧ Below w.heap.size w w' := by
  have hmf : ∀ (fn : Fn) (first cap : Array Value) (w : World), (Instr.makeFunc fn first cap).run Try.prog w = .ok (.func fn first cap) w := fun _ _ _ _ => rfl
  have hbx := boxed_new w cp cs cd ca cb bp bs bd ba bb sv be st dsr
  unfold flow
  go_enter Try.func8, Try.ntmps8
  go_wp2_with fail
  refine (pick_af _ cp cs cd ca cb bp bs bd ba bb _ ?_ ?_).mono ?_
  · simp; omega
  · exact (hbx.alloc _ (by simp))
  rintro e w1 ⟨rfl, hb⟩
  have hb1 : Below w.heap.size w w1 := (((Below.refl _ _).alloc (Nat.le_refl _) _).alloc (by simp) _).trans (hb.mono (by simp; omega))
  have hz := hb.size
  obtain ⟨hc, hf⟩ := bcell hb
  clear hbx
  simp at hz
  have f4 : ∀ o, w1.frozen? ⟨w.heap.size + 1, o, none⟩ = false := fun o => by rw [hf _ _ (by simp)]; simp
  have c0 : w1.cell? ⟨w.heap.size + 1, 0, none⟩ = some (.int .u32 0) := by rw [hc _ _ (by simp)]; simp
  have c1 : w1.cell? ⟨w.heap.size + 1, 1, none⟩ = some (.int .u32 0) := by rw [hc _ _ (by simp)]; simp
  have c2 : w1.cell? ⟨w.heap.size + 1, 2, none⟩ = some (.int .i64 0) := by rw [hc _ _ (by simp)]; simp
  have c3 : w1.cell? ⟨w.heap.size + 1, 3, none⟩ = some (.int .i64 0) := by rw [hc _ _ (by simp)]; simp
  clear hb hc hf
  go_wp2_with fail
  obtain ⟨w2, hw2⟩ : ∃ w2, w2 = w1.alloc (.cells #[.int .i64 bp, .int .u32 bd, .int .u32 bs, .int .i64 bb, .int .i64 ba] 24) := ⟨_, rfl⟩
  have hW : Below w.heap.size w w2 := by rw [hw2]; exact hb1.alloc hb1.size _
  have hz2 : w1.heap.size < w2.heap.size := by rw [hw2]; simp
  have hb2 : Below w1.heap.size w1 w2 := by rw [hw2]; exact (Below.refl _ _).alloc (Nat.le_refl _) _
  have g : ∀ o, w2.frozen? ⟨w.heap.size + 1, o, none⟩ = false := fun o => by rw [hb2.frozen (by simp; omega)]; exact f4 o
  have e0 := (hb2.cell (p := ⟨w.heap.size + 1, 0, none⟩) (by simp; omega)).trans c0
  have e1 := (hb2.cell (p := ⟨w.heap.size + 1, 1, none⟩) (by simp; omega)).trans c1
  have e2 := (hb2.cell (p := ⟨w.heap.size + 1, 2, none⟩) (by simp; omega)).trans c2
  have e3 := (hb2.cell (p := ⟨w.heap.size + 1, 3, none⟩) (by simp; omega)).trans c3
  have k0 : w2.cell? ⟨w1.heap.size, 0, none⟩ = some (.int .i64 bp) := by rw [hw2]; simp
  have k1 : w2.cell? ⟨w1.heap.size, 1, none⟩ = some (.int .u32 bd) := by rw [hw2]; simp
  have k2 : w2.cell? ⟨w1.heap.size, 2, none⟩ = some (.int .u32 bs) := by rw [hw2]; simp
  have k3 : w2.cell? ⟨w1.heap.size, 3, none⟩ = some (.int .i64 bb) := by rw [hw2]; simp
  have k4 : w2.cell? ⟨w1.heap.size, 4, none⟩ = some (.int .i64 ba) := by rw [hw2]; simp
  rw [← hw2]
  clear hw2 hb1 c0 c1 c2 c3 f4 hb2
  have HS : Hid (∀ W : World, Below w2.heap.size w2 W → W.cell? ⟨w1.heap.size, 0, none⟩ = some (.int .i64 bp) ∧ W.cell? ⟨w1.heap.size, 1, none⟩ = some (.int .u32 bd) ∧ W.cell? ⟨w1.heap.size, 2, none⟩ = some (.int .u32 bs) ∧ W.cell? ⟨w1.heap.size, 3, none⟩ = some (.int .i64 bb) ∧ W.cell? ⟨w1.heap.size, 4, none⟩ = some (.int .i64 ba) ∧ Below w.heap.size w W) := by
    intro W h
    exact ⟨(h.cell hz2).trans k0, (h.cell hz2).trans k1, (h.cell hz2).trans k2, (h.cell hz2).trans k3, (h.cell hz2).trans k4, hW.trans (h.mono (by omega))⟩
  have HF : Hid (∀ W' : World, Below w2.heap.size w2 W' → ∀ x0 x1 x2 x3 : Value, ∀ W, W = (((W'.setCell ⟨w.heap.size + 1, 0, none⟩ x0).setCell ⟨w.heap.size + 1, 1, none⟩ x1).setCell ⟨w.heap.size + 1, 2, none⟩ x2).setCell ⟨w.heap.size + 1, 3, none⟩ x3 → W.cell? ⟨w1.heap.size, 0, none⟩ = some (.int .i64 bp) ∧ W.cell? ⟨w1.heap.size, 1, none⟩ = some (.int .u32 bd) ∧ W.cell? ⟨w1.heap.size, 2, none⟩ = some (.int .u32 bs) ∧ W.cell? ⟨w1.heap.size, 3, none⟩ = some (.int .i64 bb) ∧ W.cell? ⟨w1.heap.size, 4, none⟩ = some (.int .i64 ba) ∧ Below w.heap.size w W) := by
    rintro W' h x0 x1 x2 x3 W rfl
    obtain ⟨q0, q1, q2, q3, q4, q5⟩ := HS.out W' h
    refine ⟨by simp [go_sem, q0], by simp [go_sem, q1], by simp [go_sem, q2], by simp [go_sem, q3], by simp [go_sem, q4], ?_⟩
    exact (((q5.setCell (by simp) _).setCell (by simp) _).setCell (by simp) _).setCell (by simp) _
  have hlt : w.heap.size + 1 < w2.heap.size := by omega
  have r0 : ∀ W', Below w2.heap.size w2.drew W' → W'.cell? ⟨w.heap.size + 1, 0, none⟩ = some (.int .u32 0) := fun W' h => (h.cell hlt).trans e0
  have r1 : ∀ W', Below w2.heap.size w2.drew W' → W'.cell? ⟨w.heap.size + 1, 1, none⟩ = some (.int .u32 0) := fun W' h => (h.cell hlt).trans e1
  have r2 : ∀ W', Below w2.heap.size w2.drew W' → W'.cell? ⟨w.heap.size + 1, 2, none⟩ = some (.int .i64 0) := fun W' h => (h.cell hlt).trans e2
  have r3 : ∀ W', Below w2.heap.size w2.drew W' → W'.cell? ⟨w.heap.size + 1, 3, none⟩ = some (.int .i64 0) := fun W' h => (h.cell hlt).trans e3
  have r4 : ∀ W', Below w2.heap.size w2.drew W' → ∀ o, W'.frozen? ⟨w.heap.size + 1, o, none⟩ = false := fun W' h o => (h.frozen hlt).trans (g o)
  clear k0 k1 k2 k3 k4 e0 e1 e2 e3 g hW
  go_region_held3 (fun W => W.cell? ⟨w1.heap.size, 0, none⟩ = some (.int .i64 bp) ∧ W.cell? ⟨w1.heap.size, 1, none⟩ = some (.int .u32 bd) ∧ W.cell? ⟨w1.heap.size, 2, none⟩ = some (.int .u32 bs) ∧ W.cell? ⟨w1.heap.size, 3, none⟩ = some (.int .i64 bb) ∧ W.cell? ⟨w1.heap.size, 4, none⟩ = some (.int .i64 ba) ∧ Below w.heap.size w W) (first | exact HS.out _ (Below.drew (Below.refl _ _)) | exact HS.out _ (Below.trans (Below.drew (Below.refl _ _)) hb) | exact HF.out _ (Below.trans (Below.drew (Below.refl _ _)) hb) _ _ _ _ _ rfl)
    (first | (go_at_call 12; refine (ends_c _ _ _ _ _ _).mono ?_; rintro e w' ⟨rfl, hb'⟩; have hb : Below w2.heap.size w2.drew w' := hb'; clear hb'))
  have HB : Hid (Below w.heap.size w ((((w'.setCell ⟨w.heap.size + 1, 0, none⟩ (.int .u32 bd)).setCell ⟨w.heap.size + 1, 1, none⟩ (.int .u32 bs)).setCell ⟨w.heap.size + 1, 2, none⟩ (.int .i64 bb)).setCell ⟨w.heap.size + 1, 3, none⟩ (.int .i64 ba))) := (HF.out _ (Below.trans (Below.drew (Below.refl _ _)) hb) _ _ _ _ _ rfl).2.2.2.2.2
  have q0 := r0 _ hb
  have q1 := r1 _ hb
  have q2 := r2 _ hb
  have q3 := r3 _ hb
  rename_i hx
  clear hx r0 r1 r2 r3 r4 hb HS HF
  go_wp2
  exact bodyPost_ret (by simp [results, Try.results8, go_sem, q0, q1, q2, q3]) rfl ⟨rfl, HB.out⟩
end Go.Proofs.Ytabekppniampmaa
