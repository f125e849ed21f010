/- The walk of TwinFinds. -/
import Derived.Test.YtckbffbjdcnklaaFTw3
import Derived.Test.YtckbffbjdcnklaaEx
import Derived.Laws.IdiomStrings
namespace Go.Proofs.Ytckbffbjdcnklaa
open Go.RowKit
set_option linter.unusedSimpArgs false
set_option linter.unusedVariables false
open F

theorem F.TS.rebase {w0 : Base} {w : World} {tb g cap am bm room m cnt : Nat} {R : Nat → Option F.Row} {fa : Int → Option Nat} {fb : ByteArray → Option Nat} {fr : Value} (h : F.TS w0 w tb g cap am bm room m cnt R fa fb fr) (Z : Nat → Prop) (hz : ∀ b, Z b → b < w.heap.size) (n : ¬ Z tb ∧ ¬ Z g ∧ ¬ Z am ∧ ¬ Z bm) : F.TS ⟨w, Z⟩ w tb g cap am bm room m cnt R fa fb fr :=
  ⟨h.head, h.rows, h.ma, h.mb, h.coA, h.coB, h.okR, h.ne, n, Keeps.refl _ hz, h.hm, h.hc, h.hr⟩
/-- The second name of x. -/
def nm (x : Nat) : ByteArray := ⟨#[UInt8.ofNat (x % 256), UInt8.ofNat (x / 256)]⟩
theorem nm_size (x : Nat) : (nm x).size = 2 := rfl
theorem nm_inj {x y : Nat} (hx : x < 65536) (hy : y < 65536) (h : nm x = nm y) : x = y := by
  unfold nm at h
  injection h with h1
  have h2 := congrArg Array.toList h1
  simp at h2
  have a1 := congrArg UInt8.toNat h2.1
  have a2 := congrArg UInt8.toNat h2.2
  simp at a1 a2
  omega
theorem conv2 (W : World) (x : Nat) (hx : x < 65536) (h0 : W.heap[W.heap.size - 1]? = some (.cells #[.int .u8 ((x % 256 : Nat) : Int), .int .u8 ((x / 256 : Nat) : Int)] 5 (0, 0))) (b : Nat) (hb : b = W.heap.size - 1) : (convert 33 9 (.slice (some ⟨b, 0, none⟩) 2 2)).run Try.prog W = .ok (.string (nm x)) W := by
  subst hb
  refine run_convert_bytes_back (P := Try.prog) W 33 9 5 ⟨W.heap.size - 1, 0, none⟩ 2 [UInt8.ofNat (x % 256), UInt8.ofNat (x / 256)] Try.underlying33 Try.underlying5 Try.underlying9 (fun j hj => ?_)
  rw [add_none]
  have hh : Has W (W.heap.size - 1) 5 #[.int .u8 ((x % 256 : Nat) : Int), .int .u8 ((x / 256 : Nat) : Int)] := h0
  rw [hh.cell]
  match j, hj with
  | 0, _ => first | (simp; done) | (simp; omega)
  | 1, _ => first | (simp; done) | (simp; omega)
structure FI (j : Nat) (z : List Int) (hd : Nat → Option Nat) (R : Nat → Option F.Row) (fa : Int → Option Nat) (fb : ByteArray → Option Nat) : Prop where
  a : ∀ x : Nat, x < 65536 → fa (x : Int) = hd x
  b : ∀ x : Nat, x < 65536 → fb (nm x) = hd x
  c : ∀ s : ByteArray, s.size ≠ 2 → fb s = none
  d : ∀ h r, R h = some r → ∃ x i : Nat, x < 65536 ∧ r.a = (x : Int) ∧ r.b = nm x ∧ r.v = (i : Int) ∧ i < j ∧ z.getD i 0 = (x : Int)
  e : ∀ i, i < j → (hd (z.getD i 0).toNat).isSome = true
def HM (w : World) (hb n : Nat) (hd : Nat → Option Nat) : Prop := ∃ M, GMap Try.prog w 28 hb n M ∧ ∀ x : Nat, x < 65536 → M (.int .u16 (x : Int)) = (hd x).map fun (h : Nat) => .int .i64 (h : Int)
theorem HM.lt {w : World} {hb n : Nat} {hd : Nat → Option Nat} (h : HM w hb n hd) : hb < w.heap.size := by obtain ⟨M, g, _⟩ := h; exact g.lt
theorem HM.kept {w w' : World} {hb n : Nat} {hd : Nat → Option Nat} (h : HM w hb n hd) (e : w'.heap[hb]? = w.heap[hb]?) : HM w' hb n hd := by obtain ⟨M, g, q⟩ := h; exact ⟨M, g.of_block e, q⟩
theorem wf16 (x : Nat) (hx : x < 65536) : (Lit.int .u16 (x : Int)).wf = true := by
  have hmin : IntKind.u16.min = 0 := rfl
  have hmax : IntKind.u16.max = 65535 := rfl
  simp only [Lit.wf, Bool.and_eq_true, decide_eq_true_eq]
  omega
theorem HM.look {w : World} {hb n : Nat} {hd : Nat → Option Nat} (h : HM w hb n hd) (x : Nat) (hx : x < 65536) : (Instr.lookup 29 (.map (some hb)) (.int .u16 (x : Int)) true).run Try.prog w = .ok (.tuple #[.int .i64 (((hd x).getD 0 : Nat) : Int), .bool (hd x).isSome]) w := by
  obtain ⟨M, g, q⟩ := h
  have := g.look_ok F.keyedA Try.underlying29 zero3 (F.keyA (x := (x : Int)) (wf16 x hx))
  unfold F.vA F.kA at this
  rw [q x hx] at this
  rw [this]
  cases hd x <;> rfl
theorem HM.look1 {w : World} {hb n : Nat} {hd : Nat → Option Nat} (h : HM w hb n hd) (x : Nat) (hx : x < 65536) : (Instr.lookup 29 (.map (some hb)) (.int .u16 (x : Int)) false).run Try.prog w = .ok (.int .i64 (((hd x).getD 0 : Nat) : Int)) w := by
  obtain ⟨M, g, q⟩ := h
  have := g.look F.keyedA Try.underlying29 zero3 (F.keyA (x := (x : Int)) (wf16 x hx))
  unfold F.vA F.kA at this
  rw [q x hx] at this
  rw [this]
  cases hd x <;> rfl
def updN (hd : Nat → Option Nat) (x : Nat) (v : Option Nat) : Nat → Option Nat := fun y => if y = x then v else hd y
theorem HM.put {w : World} {hb n : Nat} {hd : Nat → Option Nat} (h : HM w hb n hd) (x : Nat) (hx : x < 65536) (hn : n < 70000) (hno : hd x = none) (k : Nat) (v : Int) (hv : v = (k : Int)) : ∃ w', (Instr.mapUpdate 29 (.map (some hb)) (.int .u16 (x : Int)) (.int .i64 v)).run Try.prog w = .ok () w' ∧ HM w' hb (n + 1) (updN hd x (some k)) ∧ w.mapTurned w' hb := by
  subst hv
  obtain ⟨M, g, q⟩ := h
  obtain ⟨w', hrun, g', ht⟩ := g.store F.keyedA Try.underlying29 (by unfold maxLen; omega) (F.keyedA.key (F.keyA (x := (x : Int)) (wf16 x hx))) (F.keyA (x := (x : Int)) (wf16 x hx)) (val := .int .i64 (k : Int))
  have hq : M (F.kA (x : Int)) = none := by
    have := q x hx
    rw [hno] at this
    exact this
  rw [hq] at g'
  refine ⟨w', hrun, ⟨_, g', fun y hy => ?_⟩, ht⟩
  by_cases e : y = x
  · subst e
    show putM M (F.kA (y : Int)) _ (.int .u16 (y : Int)) = _
    unfold F.kA
    rw [putM_same]
    simp [updN]
  · show putM M (F.kA (x : Int)) _ (.int .u16 (y : Int)) = _
    unfold F.kA
    rw [putM_other _ _ (by simp; omega), q y hy]
    simp [updN, e]
theorem FI.more {j : Nat} {z : List Int} {hd : Nat → Option Nat} {R : Nat → Option F.Row} {fa : Int → Option Nat} {fb : ByteArray → Option Nat} (h : FI j z hd R fa fb) (he : (hd (z.getD j 0).toNat).isSome = true) : FI (j + 1) z hd R fa fb := by
  refine ⟨h.a, h.b, h.c, fun k r hr => ?_, fun i hi => ?_⟩
  · obtain ⟨x, i, q1, q2, q3, q4, q5, q6⟩ := h.d k r hr
    exact ⟨x, i, q1, q2, q3, q4, by omega, q6⟩
  · by_cases e : i = j
    · subst e; exact he
    · exact h.e i (by omega)
theorem FI.put {j : Nat} {z : List Int} {hd : Nat → Option Nat} {R : Nat → Option F.Row} {fa : Int → Option Nat} {fb : ByteArray → Option Nat} (h : FI j z hd R fa fb) (x n : Nat) (hx : x < 65536) (hz : z.getD j 0 = (x : Int)) (hno : hd x = none) : FI (j + 1) z (updN hd x (some n)) (F.setR R n (some ⟨(x : Int), nm x, (j : Int)⟩)) (F.updF fa (x : Int) (some n)) (F.updF fb (nm x) (some n)) := by
  refine ⟨fun y hy => ?_, fun y hy => ?_, fun s hs => ?_, fun k r hr => ?_, fun i hi => ?_⟩
  · unfold updN
    by_cases e : y = x
    · subst e; rw [F.updF_same, if_pos rfl]
    · rw [F.updF_other _ _ (by omega), if_neg e, h.a y hy]
  · unfold updN
    by_cases e : y = x
    · subst e; rw [F.updF_same, if_pos rfl]
    · rw [F.updF_other _ _ (fun q => e (nm_inj hy hx q)), if_neg e, h.b y hy]
  · rw [F.updF_other _ _ (fun q => hs (by rw [q]; rfl)), h.c s hs]
  · unfold F.setR at hr
    split at hr
    · cases hr; exact ⟨x, j, hx, rfl, rfl, rfl, by omega, hz⟩
    · obtain ⟨y, i, q1, q2, q3, q4, q5, q6⟩ := h.d k r hr
      exact ⟨y, i, q1, q2, q3, q4, by omega, q6⟩
  · unfold updN
    by_cases e : (z.getD i 0).toNat = x
    · rw [if_pos e]; rfl
    · rw [if_neg e]
      by_cases e2 : i = j
      · subst e2; rw [hz] at e; simp at e
      · exact h.e i (by omega)
end Go.Proofs.Ytckbffbjdcnklaa
