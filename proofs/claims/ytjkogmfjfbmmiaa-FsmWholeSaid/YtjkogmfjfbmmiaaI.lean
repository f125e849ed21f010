/- The walk of FsmWhole, in the frame's form. -/
import Derived.Test.YtjkogmfjfbmmiaaH
namespace Go.Proofs.Ytjkogmfjfbmmiaa
open Go.RowKit
theorem whole_f (first : Bool) (x : Int) (hx : (Lit.int .u8 x).wf = true) (y : Int) (hy : (Lit.int .u8 y).wf = true) (w : World) :
    Calls Try.prog 4 #[.bool first, .int .u8 x, .int .u8 y] w fun e w' => e = .returned (.bool true) ∧ Below w.heap.size w w' := by
  obtain ⟨hx0, hx1⟩ := wf_u8 hx
  obtain ⟨hy0, hy1⟩ := wf_u8 hy
  exact whole_w first x y (x % 10).toNat hx0 hx1 hy0 hy1 (by omega) (by omega) (by omega) w
end Go.Proofs.Ytjkogmfjfbmmiaa
