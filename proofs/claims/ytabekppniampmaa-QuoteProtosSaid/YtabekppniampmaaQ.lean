/- The walk of QuoteProtos, in the frame's form. -/
import Derived.Test.YtabekppniampmaaP
namespace Go.Proofs.Ytabekppniampmaa
open Go.RowKit
theorem protos_w (kd at1 to1 p s d a b fl tl sr ds qt nn : Int) (_ : IntKind.i64.has kd) (_ : IntKind.i64.has at1) (_ : IntKind.i64.has to1) (_ : IntKind.i64.has p) (_ : IntKind.u32.has s) (_ : IntKind.u32.has d) (_ : IntKind.i64.has a) (_ : IntKind.i64.has b) (_ : IntKind.i64.has fl) (_ : IntKind.i64.has tl) (_ : IntKind.u32.has sr) (_ : IntKind.u32.has ds) (_ : IntKind.i64.has qt) (_ : IntKind.i64.has nn) (back about : Bool) (w : World) :
    Calls Try.prog 5 #[.agg #[.int .i64 kd, .int .i64 at1, .int .i64 to1, .int .i64 p, .int .u32 s, .int .u32 d, .int .i64 a, .int .i64 b, .int .i64 fl, .int .i64 tl, .int .u32 sr, .int .u32 ds, .int .i64 qt, .int .i64 nn], .bool back, .bool about] w fun e w' => e = .returned (.bool true) ∧ Below w.heap.size w w' := by
  cases back <;> cases about
  · exact protos_ff kd at1 to1 p s d a b fl tl sr ds qt nn w
  · by_cases h1 : s = d
    · by_cases h2 : a = b
      · exact protos_fte kd at1 to1 p s d a b fl tl sr ds qt nn ⟨h1, h2⟩ w
      · exact protos_ftm kd at1 to1 p s d a b fl tl sr ds qt nn ⟨h1, h2⟩ w
    · exact protos_ftn kd at1 to1 p s d a b fl tl sr ds qt nn h1 w
  · by_cases h1 : s = d
    · by_cases h2 : a = b
      · exact protos_tfe kd at1 to1 p s d a b fl tl sr ds qt nn ⟨h1, h2⟩ w
      · exact protos_tfm kd at1 to1 p s d a b fl tl sr ds qt nn ⟨h1, h2⟩ w
    · exact protos_tfn kd at1 to1 p s d a b fl tl sr ds qt nn h1 w
  · exact protos_tt kd at1 to1 p s d a b fl tl sr ds qt nn w
end Go.Proofs.Ytabekppniampmaa
