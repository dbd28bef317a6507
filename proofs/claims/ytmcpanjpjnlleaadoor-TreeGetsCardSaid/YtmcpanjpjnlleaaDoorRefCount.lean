/- The contract of the document's Count. -/
import Derived.Test.YtmcpanjpjnlleaaDoorRows
import Derived.Test.YtmcpanjpjnlleaaDoorBitsV
import Derived.Deep.QuietTactic
import Derived.BigQuiet
set_option linter.unusedVariables false
namespace Go.Proofs.YtmcpanjpjnlleaaDoor
open Go.RowKit

theorem rcount_any (n : Int) (w : World) (hn : -9223372036854775808 ≤ n ∧ n ≤ 9223372036854775807) :
    Calls Tryd.prog 69 #[.int .i64 n] w fun e w' => e = .returned (.int .i64 (countV n)) ∧ w = w' := by
  by_cases h0 : n ≤ 0
  · have Hr : Hid (countV n = 0) := by unfold countV; exact if_pos h0
    go_enter Tryd.func69, Tryd.ntmps69
    go_wp2
    go_ret
    exact ⟨ret_i64 (by rw [Hr.out]), rfl⟩
  · have Hr : Hid (countV n = (n + 7) / 8) := by unfold countV; exact if_neg h0
    go_enter Tryd.func69, Tryd.ntmps69
    go_wp2
    go_ret
    exact ⟨ret_i64 (by rw [Hr.out]; omega), rfl⟩

end Go.Proofs.YtmcpanjpjnlleaaDoor

