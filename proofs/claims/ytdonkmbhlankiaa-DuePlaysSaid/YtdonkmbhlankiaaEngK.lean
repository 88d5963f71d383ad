/-
  The engine, part K: two strings compared (an entry without a Go body).
-/
import Derived.Test.YtdonkmbhlankiaaEngU
import Derived.Lib.Bytealg
import Derived.Laws.Concat
namespace Go.Eng
open Go Go.RowKit

/-- How two strings stand to one another. -/
def cmpB (a b : ByteArray) : Int := Lib.compareBytes a.data.toList b.data.toList

theorem extCmp {P : Program} {f : FuncId} {fn : Func} {a b : ByteArray} {w : World} {R : Value → World → Prop} (hf : P.funcs[f]? = some fn) (hname : (fn.name == "runtime.NumGoroutine") = false) (hb : fn.body.isNone = true) (hn : Extern.findNext fn = none) (he : Extern.find fn = some Extern.BytealgCompare.compare) (h : R (.int .i64 (cmpB a b)) w) :
    ExtV P f #[.string a, .string b] w R := by
  refine ⟨_, _, ?_, h⟩
  rw [run_callFunc_extern hf hname hb hn he, Lib.run_compareString]
  rfl

theorem addStr {P : Program} {t : TypeId} {x y : Operand} {a b : ByteArray} {K : Value → World → Prop} {w : World} (h : a.size + b.size ≤ 9223372036854775807) (hK : K (.string (a ++ b)) w) : RunW P (binS .add t x y (.string a) (.string b)) K w :=
  ⟨_, _, binS_run guardStr (run_string_add_sum w a b h), hK⟩

theorem geqStr {P : Program} {t : TypeId} {x y : Operand} {a b : ByteArray} {K : Value → World → Prop} {w : World} (hK : K (.bool (!(Op.bytesLess a.toList b.toList))) w) : RunW P (binS .geq t x y (.string a) (.string b)) K w :=
  ⟨_, _, binS_run guardStr (by simp [binOp, Op.stringOp]), hK⟩

theorem lssStr {P : Program} {t : TypeId} {x y : Operand} {a b : ByteArray} {K : Value → World → Prop} {w : World} (hK : K (.bool (Op.bytesLess a.toList b.toList)) w) : RunW P (binS .lss t x y (.string a) (.string b)) K w :=
  ⟨_, _, binS_run guardStr (by simp [binOp, Op.stringOp]), hK⟩

end Go.Eng
