/- SchemaSpoilt: the law, by its eight cases. -/
import Derived.Test.YtbhnbjaafejcjaaDoorLSpoil0
import Derived.Test.YtbhnbjaafejcjaaDoorLSpoil1
import Derived.Test.YtbhnbjaafejcjaaDoorLSpoil2
import Derived.Test.YtbhnbjaafejcjaaDoorLSpoil3
import Derived.Test.YtbhnbjaafejcjaaDoorLSpoil4
import Derived.Test.YtbhnbjaafejcjaaDoorLSpoil5
import Derived.Test.YtbhnbjaafejcjaaDoorLSpoil6
import Derived.Test.YtbhnbjaafejcjaaDoorLSpoil7
namespace Go.Proofs.YtbhnbjaafejcjaaDoor
open Go.RowKit

theorem law_SchemaSpoilt (v : Value) (k : Nat) (l : List Int) (how q0 q1 : Int) (w : World) (hl : LaidE w) (hv : Row w 1 v k (l.map (Value.int .i64)))
    (hbl : ∀ z ∈ l, -9223372036854775808 ≤ z ∧ z ≤ 9223372036854775807)
    (hq0 : -9223372036854775808 ≤ q0 ∧ q0 ≤ 9223372036854775807) (hq1 : -9223372036854775808 ≤ q1 ∧ q1 ≤ 9223372036854775807) :
    Calls Tryd.prog 3 #[v, .int .i64 how, .agg #[.int .i64 q0, .int .i64 q1]] w fun r w' => r = .returned (.bool true) ∧ Below w.heap.size w w' := by
  have hv := row_len hv
  rcases (show how % 8 = 0 ∨ how % 8 = 1 ∨ how % 8 = 2 ∨ how % 8 = 3 ∨ how % 8 = 4 ∨ how % 8 = 5 ∨ how % 8 = 6 ∨ how % 8 = 7 by omega) with h | h | h | h | h | h | h | h
  · exact spoil_0 l v how q0 q1 w hl hv hbl hq0 hq1 h
  · exact spoil_1 l v how q0 q1 w hl hv hbl hq0 hq1 h
  · exact spoil_2 l v how q0 q1 w hl hv hbl hq0 hq1 h
  · exact spoil_3 l v how q0 q1 w hl hv hbl hq0 hq1 h
  · exact spoil_4 l v how q0 q1 w hl hv hbl hq0 hq1 h
  · exact spoil_5 l v how q0 q1 w hl hv hbl hq0 hq1 h
  · exact spoil_6 l v how q0 q1 w hl hv hbl hq0 hq1 h
  · exact spoil_7 l v how q0 q1 w hl hv hbl hq0 hq1 h
end Go.Proofs.YtbhnbjaafejcjaaDoor

