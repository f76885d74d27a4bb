/- Errors that are numbers of api.Code. -/
import Derived.Test.YtikfkkinhipfjaaProg
import Derived.Test.YtikfkkinhipfjaaMem
namespace Go.Proofs.Ytikfkkinhipfjaa
open Go.RowKit
set_option linter.unusedVariables false
set_option linter.unusedSimpArgs false
def errV : Option Int → Value
  | none => .nilIface
  | some c => .iface 43 (.int .i64 c)
theorem err_under : Try.prog.underlying 31 = some (.interface (Try.prog.methodsAt 31)) := by kernel_rfl
theorem err_comp : (Try.prog.info? 43).map (·.comparable) = some true := by kernel_rfl
theorem err_int : Try.prog.underlying 43 = some (.int .i64) := by kernel_rfl
@[go_sem] theorem err_eql (w : World) (a b : Int) : (binOp .eql 31 (.iface 43 (.int .i64 a)) (.iface 43 (.int .i64 b))).run Try.prog w = .ok (.bool (a == b)) w :=
  Lib.run_eql_iface_int w a b err_under err_comp err_int
@[go_sem] theorem err_neq (w : World) (a b : Int) : (binOp .neq 31 (.iface 43 (.int .i64 a)) (.iface 43 (.int .i64 b))).run Try.prog w = .ok (.bool (!(a == b))) w :=
  Lib.run_neq_iface_int w a b err_under err_comp err_int
end Go.Proofs.Ytikfkkinhipfjaa
