/- Errors that are numbers of api.Code. -/
import Derived.Test.YtmadkjmjohfkgaaProg
import Derived.Test.YtmadkjmjohfkgaaMem
namespace Go.Proofs.Ytmadkjmjohfkgaa
open Go.RowKit
set_option linter.unusedVariables false
set_option linter.unusedSimpArgs false
def errV : Option Int → Value
  | none => .nilIface
  | some c => .iface 39 (.int .i64 c)
theorem err_under : Try.prog.underlying 33 = some (.interface (Try.prog.methodsAt 33)) := by kernel_rfl
theorem err_comp : (Try.prog.info? 39).map (·.comparable) = some true := by kernel_rfl
theorem err_int : Try.prog.underlying 39 = some (.int .i64) := by kernel_rfl
@[go_sem] theorem err_eql (w : World) (a b : Int) : (binOp .eql 33 (.iface 39 (.int .i64 a)) (.iface 39 (.int .i64 b))).run Try.prog w = .ok (.bool (a == b)) w :=
  Lib.run_eql_iface_int w a b err_under err_comp err_int
@[go_sem] theorem err_neq (w : World) (a b : Int) : (binOp .neq 33 (.iface 39 (.int .i64 a)) (.iface 39 (.int .i64 b))).run Try.prog w = .ok (.bool (!(a == b))) w :=
  Lib.run_neq_iface_int w a b err_under err_comp err_int
end Go.Proofs.Ytmadkjmjohfkgaa
