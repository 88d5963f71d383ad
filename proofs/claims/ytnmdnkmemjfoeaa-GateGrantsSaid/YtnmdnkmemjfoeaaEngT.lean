/-
  The engine, part T: pointers that may be nil, addresses two places deep, known tests.
-/
import Derived.Test.YtnmdnkmemjfoeaaEngN
import Derived.Test.YtnmdnkmemjfoeaaEngS
namespace Go.Eng
open Go Go.RowKit
theorem cond_tt {T F : Prop} (h : T) : cond true T F := h
theorem cond_ff {T F : Prop} (h : F) : cond false T F := h
section
variable {P : Program}
theorem eqlPtrNN {t : TypeId} {x y : Operand} {K : Value → World → Prop} {w : World} (hu : P.underlying t = some (.pointer (P.pointee t))) (hK : K (.bool true) w) :
    RunW P (binS .eql t x y (.pointer none) (.pointer none)) K w :=
  ⟨_, _, binS_run guardPtr (run_eql_pointer_nil w t none hu), hK⟩
end
end Go.Eng
