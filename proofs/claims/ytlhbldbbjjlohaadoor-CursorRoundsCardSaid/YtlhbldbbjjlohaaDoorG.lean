/- The walk of CursorRounds, in the frame's form. -/
import Derived.Test.YtlhbldbbjjlohaaDoorF
import Derived.Test.YtlhbldbbjjlohaaDoorArgs
namespace Go.Proofs.YtlhbldbbjjlohaaDoor
open Go.RowKit
theorem rounds_w (m : Int) (hm : (Lit.int .u16 m).wf = true) (y : Int) (hy : (Lit.int .u16 y).wf = true) (w : World) (hT : Tab w) (hz : 0 < w.heap.size) :
    Calls Tryd.prog 4 #[.int .u16 m, .int .u16 y] w fun e w' => e = .returned (.bool true) ∧ Below w.heap.size w w' := by
  obtain ⟨m0, m1⟩ := wf_u16 hm
  obtain ⟨y0, y1⟩ := wf_u16 hy
  have h1 : 0 < 1 + m % 300 := by omega
  have hn : ((1 + m % 300).toNat : Int) = 1 + m % 300 := by omega
  have h2 := Int.emod_nonneg y (show ((1 + m % 300).toNat : Int) ≠ 0 by omega)
  have h3 := Int.emod_lt_of_pos y (show 0 < ((1 + m % 300).toNat : Int) by omega)
  exact rounds_c m y (1 + m % 300).toNat (y % ((1 + m % 300).toNat : Int)).toNat (by omega) (by omega) m0 m1 y0 y1 (by omega) (by omega) (by omega) w hT hz
end Go.Proofs.YtlhbldbbjjlohaaDoor
