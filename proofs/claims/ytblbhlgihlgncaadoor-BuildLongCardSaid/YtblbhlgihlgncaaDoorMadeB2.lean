/- A struct by numbers, as layer 7's laws make it. -/
import Derived.Test.YtblbhlgihlgncaaDoorGi
set_option linter.unusedVariables false
set_option linter.unusedSimpArgs false
namespace Go.Proofs.YtblbhlgihlgncaaDoor
section SMadeB2
open Go.RowKit

end SMadeB2

end Go.Proofs.YtblbhlgihlgncaaDoor

