/- cause.Top: the topmost code of an error that is nothing, or a code itself. -/
import Derived.Test.YtppdbadigecegaaCA
import Derived.Test.YtppdbadigecegaaGa
set_option linter.unusedVariables false
set_option linter.unusedSimpArgs false
namespace Go.Proofs.Ytppdbadigecegaa
section SCT
open Go.RowKit Go.Extern.Stop Go.Stop Go.Extern

/-- An error: nothing, or a code. -/
def ErrV (c : Int) : Value := if c = 0 then .nilIface else .iface 32 (.int .i64 c)

end SCT

end Go.Proofs.Ytppdbadigecegaa

