/- The contract of bits.Count. -/
import Derived.Test.YtmcpanjpjnlleaaDoorRows
import Derived.Test.YtmcpanjpjnlleaaDoorBitsV
import Derived.Deep.QuietTactic
import Derived.BigQuiet
set_option linter.unusedVariables false
namespace Go.Proofs.YtmcpanjpjnlleaaDoor
open Go.RowKit

theorem count_any (n : Int) (w : World) (hn : -9223372036854775808 ≤ n ∧ n ≤ 9223372036854775807) :
    Calls Tryd.prog 37 #[.int .i64 n] w fun e w' => e = .returned (.int .i64 (countV n)) ∧ w = w' := by
  by_cases h0 : 0 < n
  · have Hr : Hid (countV n = (n + 7) / 8) := by unfold countV; exact if_neg (by omega)
    by_cases h8 : n % 8 = 0
    · have h8' : (n % 8 == 0) = true := by simp [h8]
      have H8 := hid h8
      clear h8
      go_enter Tryd.func37, Tryd.ntmps37
      go_wp2
      go_ret
      exact ⟨ret_i64 (by rw [Hr.out]; have := H8.out; omega), rfl⟩
    · have h8' : (n % 8 == 0) = false := by simp [h8]
      have H8 := hid h8
      clear h8
      go_enter Tryd.func37, Tryd.ntmps37
      go_wp2
      go_ret
      exact ⟨ret_i64 (by rw [Hr.out]; have := H8.out; omega), rfl⟩
  · have Hr : Hid (countV n = 0) := by unfold countV; exact if_pos (by omega)
    by_cases h1 : n < 0
    · go_enter Tryd.func37, Tryd.ntmps37
      go_wp2
      go_ret
      exact ⟨ret_i64 (by rw [Hr.out]), rfl⟩
    · obtain rfl : n = 0 := by omega
      go_enter Tryd.func37, Tryd.ntmps37
      go_wp2
      go_ret
      exact ⟨ret_i64 (by rw [Hr.out]), rfl⟩

end Go.Proofs.YtmcpanjpjnlleaaDoor

