/- cause.Top: the topmost code of an error that is nothing, or a code itself. -/
import Derived.Test.YthihcgfdpilhiaaAs
set_option linter.unusedVariables false
namespace Go.Proofs.Ythihcgfdpilhiaa
open Go.RowKit Go.Extern.Stop Go.Stop Go.Extern

end Go.Proofs.Ythihcgfdpilhiaa

