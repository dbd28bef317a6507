/- intagliolaw13.ControlStill: the walk. -/
import Derived.Test.YtcgnflalcglfdaaDoorPlCtl2
set_option linter.unusedVariables false
namespace Go.Proofs.YtcgnflalcglfdaaDoor
open Go.RowKit

set_option maxRecDepth 100000 in
set_option maxHeartbeats 4000000 in
theorem still_walk (e g b : Int) (W0 W1 W2 W3 W4 G N : BitVec 64) (w : World)
    (hp : ∀ w, Calls Tryd.prog 14 #[CV (e % 32768) (g % 1073741824) (b % 65536) true false] w fun r w' => r = .returned (.tuple #[U W0, .nilIface]) ∧ Below w.heap.size w w')
    (hb0 : ∀ w, Calls Tryd.prog 32 #[U W0] w fun r w' => r = .returned (U W1) ∧ Below w.heap.size w w')
    (hw1 : ∀ w, Calls Tryd.prog 33 #[U W1] w fun r w' => r = .returned (.tuple #[U W2, .nilIface]) ∧ Below w.heap.size w w')
    (hb2 : ∀ w, Calls Tryd.prog 32 #[U W2] w fun r w' => r = .returned (U W3) ∧ Below w.heap.size w w')
    (hw3 : ∀ w, Calls Tryd.prog 33 #[U W3] w fun r w' => r = .returned (.tuple #[U W4, .nilIface]) ∧ Below w.heap.size w w')
    (hg0 : ∀ w, Calls Tryd.prog 35 #[U W0] w fun r w' => r = .returned (U G) ∧ Below w.heap.size w w')
    (hn : ∀ w, Calls Tryd.prog 36 #[U G] w fun r w' => r = .returned (U N) ∧ Below w.heap.size w w')
    (s00 : ∀ w, Calls Tryd.prog 34 #[U W0, U W0] w fun r w' => r = .returned (.bool true) ∧ Below w.heap.size w w')
    (s01 : ∀ w, Calls Tryd.prog 34 #[U W0, U W1] w fun r w' => r = .returned (.bool true) ∧ Below w.heap.size w w')
    (s02 : ∀ w, Calls Tryd.prog 34 #[U W0, U W2] w fun r w' => r = .returned (.bool true) ∧ Below w.heap.size w w')
    (s03 : ∀ w, Calls Tryd.prog 34 #[U W0, U W3] w fun r w' => r = .returned (.bool false) ∧ Below w.heap.size w w')
    (s04 : ∀ w, Calls Tryd.prog 34 #[U W0, U W4] w fun r w' => r = .returned (.bool false) ∧ Below w.heap.size w w')
    (s0G : ∀ w, Calls Tryd.prog 34 #[U W0, U G] w fun r w' => r = .returned (.bool false) ∧ Below w.heap.size w w')
    (s0N : ∀ w, Calls Tryd.prog 34 #[U W0, U N] w fun r w' => r = .returned (.bool false) ∧ Below w.heap.size w w')
    (s12 : ∀ w, Calls Tryd.prog 34 #[U W1, U W2] w fun r w' => r = .returned (.bool true) ∧ Below w.heap.size w w')
    (s20 : ∀ w, Calls Tryd.prog 34 #[U W2, U W0] w fun r w' => r = .returned (.bool false) ∧ Below w.heap.size w w') :
    Calls Tryd.prog 8 #[.int .i64 e, .int .i64 g, .int .i64 b] w fun r w' => r = .returned (.bool true) ∧ Below w.heap.size w w' := by
  have hbl := Below.refl w.heap.size w
  go_enter Tryd.func8, Tryd.ntmps8
  go_wp2_with (first
    | (go_at_call 13; (with_reducible refine (awake13 _).mono ?_); rintro r w1 ⟨rfl, hb⟩; replace hbl := via hbl hb; clear hb)
    | (go_at_call 17; (with_reducible refine (top_nil _).mono ?_); rintro r w1 ⟨rfl, hb⟩; replace hbl := via hbl hb; clear hb)
    | (go_at_call 14; (with_reducible refine (hp _).mono ?_); rintro r w1 ⟨rfl, hb⟩; replace hbl := via (w := w) (by have hsz := hbl.size; go_grown) hb; clear hb)
    | (go_at_call 32; (first | (with_reducible refine (hb0 _).mono ?_) | (with_reducible refine (hb2 _).mono ?_)); rintro r w1 ⟨rfl, hb⟩; replace hbl := via hbl hb; clear hb)
    | (go_at_call 33; (first | (with_reducible refine (hw1 _).mono ?_) | (with_reducible refine (hw3 _).mono ?_)); rintro r w1 ⟨rfl, hb⟩; replace hbl := via hbl hb; clear hb)
    | (go_at_call 35; (with_reducible refine (hg0 _).mono ?_); rintro r w1 ⟨rfl, hb⟩; replace hbl := via hbl hb; clear hb)
    | (go_at_call 36; (with_reducible refine (hn _).mono ?_); rintro r w1 ⟨rfl, hb⟩; replace hbl := via hbl hb; clear hb)
    | (go_at_call 34; (first | (with_reducible refine (s00 _).mono ?_) | (with_reducible refine (s01 _).mono ?_) | (with_reducible refine (s02 _).mono ?_) | (with_reducible refine (s03 _).mono ?_) | (with_reducible refine (s04 _).mono ?_) | (with_reducible refine (s0G _).mono ?_) | (with_reducible refine (s0N _).mono ?_) | (with_reducible refine (s12 _).mono ?_) | (with_reducible refine (s20 _).mono ?_)); rintro r w1 ⟨rfl, hb⟩; replace hbl := via hbl hb; clear hb))
  go_ret
  exact ⟨rfl, hbl⟩

theorem law_ControlStill (e g b : Int) (w : World) (hl : LaidE w) :
    Calls Tryd.prog 8 #[.int .i64 e, .int .i64 g, .int .i64 b] w fun r w' => r = .returned (.bool true) ∧ Below w.heap.size w w' := by
  have f0 : ctlFits (e % 32768) (g % 1073741824) (b % 65536) = true := fits_mk (by omega)
  have f1 : ctlFits (e % 32768) (g % 1073741824 + 1) (b % 65536) = true := fits_mk (by omega)
  have f2 : ctlFits (e % 32768) (g % 1073741824 + 1 + 1) (b % 65536) = true := fits_mk (by omega)
  have fg : ctlFits ((e % 32768 + 1) % 32768) 0 0 = true := fits_mk (by omega)
  have hne : ¬ e % 32768 = (e % 32768 + 1) % 32768 := by omega
  have hw := fun x w => written_any x w
  have st := fun x y v (h : stillV x y = v) w => show Calls Tryd.prog 34 #[U x, U y] w fun r w' => r = .returned (.bool v) ∧ Below w.heap.size w w' from h ▸ still_any x y w
  refine still_walk e g b (ctlW (e % 32768) (g % 1073741824) (b % 65536) true false) (ctlW (e % 32768) (g % 1073741824) (b % 65536) true true) (ctlW (e % 32768) (g % 1073741824 + 1) (b % 65536) true false) (ctlW (e % 32768) (g % 1073741824 + 1) (b % 65536) true true) (ctlW (e % 32768) (g % 1073741824 + 1 + 1) (b % 65536) true false)
    (ctlW ((e % 32768 + 1) % 32768) 0 0 false false) (ctlW ((e % 32768 + 1) % 32768) 0 0 true false) w (fun w => pack_yes _ _ _ _ _ f0 w) (fun w => by have := busy_any (ctlW (e % 32768) (g % 1073741824) (b % 65536) true false) w; rwa [busy_W f0] at this)
    (fun w => ?_) (fun w => by have := busy_any (ctlW (e % 32768) (g % 1073741824 + 1) (b % 65536) true false) w; rwa [busy_W f1] at this) (fun w => ?_)
    (fun w => by have := gone_any (ctlW (e % 32768) (g % 1073741824) (b % 65536) true false) w; rwa [gone_W f0] at this) (fun w => by have := born_any (ctlW ((e % 32768 + 1) % 32768) 0 0 false false) w; rwa [born_W fg] at this)
    (st _ _ _ ?_) (st _ _ _ ?_) (st _ _ _ ?_) (st _ _ _ ?_) (st _ _ _ ?_) (st _ _ _ ?_) (st _ _ _ ?_) (st _ _ _ ?_) (st _ _ _ ?_)
  · have h := written_any (ctlW (e % 32768) (g % 1073741824) (b % 65536) true true) w
    obtain ⟨h1, h2⟩ := written_W f0 (by omega : g % 1073741824 < 2147483647)
    rw [h1, h2] at h; exact h
  · have h := written_any (ctlW (e % 32768) (g % 1073741824 + 1) (b % 65536) true true) w
    obtain ⟨h1, h2⟩ := written_W f1 (by omega : g % 1073741824 + 1 < 2147483647)
    rw [h1, h2] at h; exact h
  · rw [still_W f0 f0]; simp
  · rw [still_W f0 f0]; simp
  · rw [still_W f0 f1]; simp
  · rw [still_W f0 f1]; simp; try omega
  · rw [still_W f0 f2]; simp; omega
  · rw [still_W f0 fg]; simp
  · rw [still_W f0 fg]; simp only [hne]; simp
  · rw [still_W f0 f1]; simp
  · rw [still_W f1 f0]; simp; omega
end Go.Proofs.YtcgnflalcglfdaaDoor
