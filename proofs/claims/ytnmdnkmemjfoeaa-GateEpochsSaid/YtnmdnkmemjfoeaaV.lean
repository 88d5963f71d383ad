/- The gateway's laws, as the rows ask for them (plain side). -/
import Derived.Test.YtnmdnkmemjfoeaaB
namespace Go.Proofs.Ytnmdnkmemjfoeaa
open Go Go.Eng
theorem gateEpochs_plain {x y z fh fp : Int} (hx : inK .u16 x) (hy : inK .u16 y) (hz : inK .u16 z) (hf : inK .u32 fh) (_ : inK .i64 fp) : embrasurelaw11_GateEpochs_wp x y z fh fp (· = true) :=
  gateEpochs_plain0 hx hy hz hf
end Go.Proofs.Ytnmdnkmemjfoeaa
