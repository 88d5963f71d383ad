/- The gateway's laws, as the rows ask for them (plain side). -/
import Derived.Test.YtnmdnkmemjfoeaaB
namespace Go.Proofs.Ytnmdnkmemjfoeaa
open Go Go.Eng
theorem gateDeaf_plain {b : List Int} {fh fp : Int} {both : Bool} (hb : ∀ x ∈ b, inK .u8 x) (_ : b.length ≤ 9223372036854775807) (hf : inK .u32 fh) (_ : inK .i64 fp) : embrasurelaw11_GateDeaf_wp b fh fp both (· = true) :=
  gateDeaf_plain0 (fun x hx => hb x hx) hf.1
end Go.Proofs.Ytnmdnkmemjfoeaa
