/- The gateway's laws, as the rows ask for them (plain side). -/
import Derived.Test.YtnmdnkmemjfoeaaB
namespace Go.Proofs.Ytnmdnkmemjfoeaa
open Go Go.Eng
theorem gateKeeps_plain {a0 i p a3 n a5 a6 a7 fh fp x y : Int} (_ : inK .i64 a0) (_ : inK .i64 i) (_ : inK .i64 p) (_ : inK .i64 a3) (hn : inK .u64 n) (_ : inK .i64 a5) (_ : inK .i64 a6) (_ : inK .u32 a7) (hf : inK .u32 fh) (_ : inK .i64 fp) (hx : inK .u16 x) (hy : inK .u16 y) : embrasurelaw11_GateKeeps_wp a0 i p a3 n a5 a6 a7 fh fp x y (· = true) :=
  gateKeeps_plain0 hn hf hx hy
end Go.Proofs.Ytnmdnkmemjfoeaa
