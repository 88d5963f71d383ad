/- The gateway's laws, as the rows ask for them (plain side). -/
import Derived.Test.YtnmdnkmemjfoeaaC
namespace Go.Proofs.Ytnmdnkmemjfoeaa
open Go Go.Eng
theorem gateGrants_plain {a0 i p s a4 a5 a6 a7 fh fp : Int} {script : List GDo} {ok : GDo → Prop} (_ : inK .i64 a0) (_ : inK .i64 i) (_ : inK .i64 p) (_ : inK .i64 s) (_ : inK .u64 a4) (_ : inK .i64 a5) (_ : inK .i64 a6) (_ : inK .u32 a7) (_ : inK .u32 fh) (_ : inK .i64 fp) (_ : ∀ x ∈ script, ok x) (_ : script.length ≤ 9223372036854775807) : law_GateGrants_wp a0 i p s a4 a5 a6 a7 fh fp script (· = true) :=
  gateGrants_plain0
end Go.Proofs.Ytnmdnkmemjfoeaa
