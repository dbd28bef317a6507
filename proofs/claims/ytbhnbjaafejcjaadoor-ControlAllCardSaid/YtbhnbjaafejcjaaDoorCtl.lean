/- control's words: parts, Pack, Unpack. -/
import Derived.Test.YtbhnbjaafejcjaaDoorBitsSet
import Derived.Test.YtbhnbjaafejcjaaDoorPlBits
import Derived.Test.YtbhnbjaafejcjaaDoorTop
import Derived.Handy
set_option linter.unusedVariables false
namespace Go.Proofs.YtbhnbjaafejcjaaDoor
open Go.RowKit

/-- A value of api.Control. -/
abbrev CV (e g b : Int) (l u : Bool) : Value := .agg #[.int .i64 e, .int .i64 g, .int .i64 b, .bool l, .bool u]

def b01 (b : Bool) : Int := if b then 1 else 0

theorem parts_any (e g b : Int) (l u : Bool) (w : World) :
    Calls Tryd.prog 58 #[CV e g b l u] w fun r w' => r = .returned (.tuple #[.agg #[.int .i64 b, .int .i64 g, .int .i64 (b01 u), .int .i64 (b01 l), .int .i64 e], .agg #[.int .i64 16, .int .i64 31, .int .i64 1, .int .i64 1, .int .i64 15]]) ∧ Below w.heap.size w w' := by
  unfold CV
  cases l <;> cases u
  all_goals
    go_enter Tryd.func58, Tryd.ntmps58
    go_wp2
    go_returns
    refine ⟨rfl, ?_⟩
  all_goals go_grown
end Go.Proofs.YtbhnbjaafejcjaaDoor

