/- intagliolaw13.ControlGoes: the walk. -/
import Derived.Test.YtcgnflalcglfdaaDoorRefCtl2
set_option linter.unusedVariables false
namespace Go.Proofs.YtcgnflalcglfdaaDoor
open Go.RowKit

set_option maxRecDepth 100000 in
set_option maxHeartbeats 4000000 in
theorem goes_any (x v : BitVec 64) (p : Int) (w : World) (hl : LaidE w) :
    Calls Tryd.prog 38 #[U x, U v, .int .i64 p] w fun r w' => r = .returned (.bool true) ∧ Below w.heap.size w w' := by
  have h0 := hl.pos
  have hbl := Below.refl w.heap.size w
  have hA := written_any x
  have hB := rwritten_any x
  have hC := published_any x p
  have hD := rpublished_any x p
  have hE := still_any x v
  have hF := rstill_any x v
  have hG := still_any x x
  have hH := rstill_any x x
  have hI := born_any x
  have hJ := rborn_any x
  have hK := gone_any x
  have hL := rgone_any x
  have hM := busy_any x
  have hN := rbusy_any x
  have hP := top_err (writtenC x)
  have hQ := top_err (pubC x p)
  generalize writtenV x = a at *
  generalize writtenC x = e at *
  generalize pubV x p = b at *
  generalize pubC x p = f at *
  generalize stillV x v = s1 at *
  generalize stillV x x = s2 at *
  generalize bornV x = c1 at *
  generalize goneV x = c2 at *
  generalize busyV x = c3 at *
  generalize ErrV e = er at *
  generalize ErrV f = fr at *
  go_enter Tryd.func38, Tryd.ntmps38
  go_wp2_with (first
    | (go_at_call 33; (with_reducible refine (hA _).mono ?_); rintro r w1 ⟨rfl, hb⟩; replace hbl := via (w := w) hbl hb; clear hb)
    | (go_at_call 67; (with_reducible refine (hB _).mono ?_); rintro r w1 ⟨rfl, hb⟩; replace hbl := via (w := w) hbl hb; clear hb)
    | (go_at_call 37; (with_reducible refine (hC _).mono ?_); rintro r w1 ⟨rfl, hb⟩; replace hbl := via (w := w) hbl hb; clear hb)
    | (go_at_call 68; (with_reducible refine (hD _).mono ?_); rintro r w1 ⟨rfl, hb⟩; replace hbl := via (w := w) hbl hb; clear hb)
    | (go_at_call 34; (first | (with_reducible refine (hE _).mono ?_) | (with_reducible refine (hG _).mono ?_)); rintro r w1 ⟨rfl, hb⟩; replace hbl := via (w := w) hbl hb; clear hb)
    | (go_at_call 72; (first | (with_reducible refine (hF _).mono ?_) | (with_reducible refine (hH _).mono ?_)); rintro r w1 ⟨rfl, hb⟩; replace hbl := via (w := w) hbl hb; clear hb)
    | (go_at_call 36; (with_reducible refine (hI _).mono ?_); rintro r w1 ⟨rfl, hb⟩; replace hbl := via (w := w) hbl hb; clear hb)
    | (go_at_call 69; (with_reducible refine (hJ _).mono ?_); rintro r w1 ⟨rfl, hb⟩; replace hbl := via (w := w) hbl hb; clear hb)
    | (go_at_call 35; (with_reducible refine (hK _).mono ?_); rintro r w1 ⟨rfl, hb⟩; replace hbl := via (w := w) hbl hb; clear hb)
    | (go_at_call 70; (with_reducible refine (hL _).mono ?_); rintro r w1 ⟨rfl, hb⟩; replace hbl := via (w := w) hbl hb; clear hb)
    | (go_at_call 32; (with_reducible refine (hM _).mono ?_); rintro r w1 ⟨rfl, hb⟩; replace hbl := via (w := w) hbl hb; clear hb)
    | (go_at_call 71; (with_reducible refine (hN _).mono ?_); rintro r w1 ⟨rfl, hb⟩; replace hbl := via (w := w) hbl hb; clear hb)
    | (go_at_call 17; (first | (with_reducible refine (hP _ (hl.below hbl h0)).mono ?_) | (with_reducible refine (hQ _ (hl.below hbl h0)).mono ?_)); rintro r w1 ⟨rfl, hb⟩; replace hbl := via (w := w) hbl hb; clear hb))
  go_ret
  exact ⟨rfl, hbl⟩

set_option maxRecDepth 100000 in
set_option maxHeartbeats 2000000 in
theorem law_ControlGoes (x v : BitVec 64) (p : Int) (w : World) (hl : LaidE w) :
    Calls Tryd.prog 11 #[U x, U v, .int .i64 p] w fun r w' => r = .returned (.bool true) ∧ Below w.heap.size w w' := by
  have h0 := hl.pos
  have hbl := Below.refl w.heap.size w
  go_enter Tryd.func11, Tryd.ntmps11
  go_wp2_with (first
    | (go_at_call 13; (with_reducible refine (awake13 _).mono ?_); rintro r w1 ⟨rfl, hb⟩; replace hbl := via (w := w) hbl hb; clear hb)
    | (go_at_call 38; (with_reducible refine (goes_any _ _ _ _ (hl.below hbl h0)).mono ?_); rintro r w1 ⟨rfl, hb⟩; replace hbl := via (w := w) hbl hb; clear hb))
  go_ret
  exact ⟨rfl, hbl⟩
end Go.Proofs.YtcgnflalcglfdaaDoor
