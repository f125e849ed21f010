/- The walk of QuoteBack, in the frame's form. -/
import Derived.Test.YtabekppniampmaaF
namespace Go.Proofs.Ytabekppniampmaa
open Go.RowKit
theorem back_w (cp cs cd ca cb bp bs bd ba bb sv be st : Int) (dsr : Bool) (_ : IntKind.i64.has cp) (_ : IntKind.u32.has cs) (_ : IntKind.u32.has cd) (_ : IntKind.i64.has ca) (_ : IntKind.i64.has cb) (_ : IntKind.i64.has bp) (_ : IntKind.u32.has bs) (_ : IntKind.u32.has bd) (_ : IntKind.i64.has ba) (_ : IntKind.i64.has bb) (_ : IntKind.i64.has sv) (_ : IntKind.i64.has be) (_ : IntKind.i64.has st) (w : World) :
    Calls Try.prog 4 #[.agg #[.int .i64 cp, .int .u32 cs, .int .u32 cd, .int .i64 ca, .int .i64 cb, .int .i64 bp, .int .u32 bs, .int .u32 bd, .int .i64 ba, .int .i64 bb, .int .i64 sv, .int .i64 be, .int .i64 st, .bool dsr]] w fun e w' => e = .returned (.bool true) ∧ Below w.heap.size w w' :=
  back_c cp cs cd ca cb bp bs bd ba bb sv be st dsr w
end Go.Proofs.Ytabekppniampmaa
