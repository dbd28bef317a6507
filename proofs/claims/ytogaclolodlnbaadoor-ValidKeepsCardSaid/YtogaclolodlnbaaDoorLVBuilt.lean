/- ValidBuilt: what was built is right, and each of its words is claimed once but the first one. -/
import Derived.Test.YtogaclolodlnbaaDoorVAw
set_option linter.unusedVariables false
set_option linter.unusedSimpArgs false
namespace Go.Proofs.YtogaclolodlnbaaDoor
section SLVBuilt
open Go.RowKit

/-- valid.Check, then cause.Top of it. -/
def CheckTop (s : Schema) (ws : List (BitVec 64)) (sv wv : Value) (w : World) (e n : Int) : Prop :=
  ∀ W, Below w.heap.size w W →
    (Calls Tryd.prog 19 #[sv, wv] W fun r w' => ∃ u, r = .returned u ∧ Below W.heap.size W w' ∧ Below w.heap.size w w' ∧ Calls Tryd.prog 18 #[u] w' fun r w2 => r = .returned (.int .i64 e) ∧ Below w.heap.size w w2 ∧ Below w'.heap.size w' w2) ∧
    (Calls Tryd.prog 20 #[sv, wv] W fun r w' => r = .returned (.int .i64 n) ∧ Below w.heap.size w w' ∧ Below W.heap.size W w')
theorem checkTop_any {s : Schema} {ws : List (BitVec 64)} {sv wv : Value} {w : World} (hl : LaidE w) (hs : Sch w sv s) (hw : Row w 1 wv ws.length (ws.map U)) {e : Int} {p : Option Nat} {n : Nat} (ha : allW s ws = (e, p, n)) : CheckTop s ws sv wv w e (n : Int) := by
  intro W hW
  have h1 := vcheck_any s ws sv wv W (hs.below hW (Nat.le_refl _)) (hw.below hW (Nat.le_refl _))
  have h2 := vvisits_any s ws sv wv W (hs.below hW (Nat.le_refl _)) (hw.below hW (Nat.le_refl _))
  rw [ha] at h1 h2
  refine ⟨h1.mono ?_, h2.mono ?_⟩
  · rintro r w' ⟨u, rfl, hE, hb⟩
    refine ⟨u, rfl, hb, via hW hb, (top_errW (LaidE.below hl (via hW hb) (LaidE.pos hl)) hE).mono ?_⟩
    rintro r w2 ⟨rfl, hb2⟩
    exact ⟨rfl, via (via hW hb) hb2, hb2⟩
  · rintro r w' ⟨rfl, hb⟩
    exact ⟨rfl, via hW hb, hb⟩
theorem msg_all {s : Schema} (hr : rightB s = true) {ws : List (BitVec 64)} (h : MsgP s ws) : ws.length ≤ 200 ∧ allW s ws = if ws.length = 0 then (21, none, 0) else (0, none, ws.length - 1) := by
  rcases h with rfl | ⟨d, t, X, ht, hc, rfl, hl⟩
  · exact ⟨by simp, by rw [if_pos (show ([] : List (BitVec 64)).length = 0 from rfl)]; exact allW_long hr (.inr rfl)⟩
  · have := (build_lie hc).1
    exact ⟨hl, by rw [if_neg (by omega)]; exact allW_built hr ht hc hl⟩

set_option maxRecDepth 100000 in
set_option maxHeartbeats 8000000 in
theorem vbuilt_walk (u v : Value) (T : Int) (tl vl : List Int) (w : World) (hl : LaidE w) (hu : Row w 1 u tl.length (tl.map (Value.int .i64))) (hv : Row w 1 v vl.length (vl.map (Value.int .i64)))
    (hub : ∀ z ∈ tl, -9223372036854775808 ≤ z ∧ z ≤ 9223372036854775807) (hvb : ∀ z ∈ vl, -9223372036854775808 ≤ z ∧ z ≤ 9223372036854775807) (hT : -9223372036854775808 ≤ T ∧ T ≤ 9223372036854775807) :
    Calls Tryd.prog 3 #[.agg #[u, v, .int .i64 T]] w fun r w' => r = .returned (.bool true) ∧ Below w.heap.size w w' := by
  obtain ⟨au, cu, hue, -⟩ := hu.open
  obtain ⟨av, cv, hve, -⟩ := hv.open
  obtain ⟨w1, hw1, hb1, hlt1, hbox1⟩ := boxed w #[u, v, .int .i64 T] 24
  have q0 : w1.cell? ⟨w.heap.size, 0, none⟩ = some u := hbox1 0
  have q1 : w1.cell? ⟨w.heap.size, 1, none⟩ = some v := hbox1 1
  have q2 : w1.cell? ⟨w.heap.size, 2, none⟩ = some (.int .i64 T) := hbox1 2
  have hl1 := LaidE.below hl hb1 (LaidE.pos hl)
  have hspec := hid fun W (hW : Below w.heap.size w W) => spec8_any 4 5 (by omega) rfl u v T tl vl W (hu.below hW (Nat.le_refl _)) (hv.below hW (Nat.le_refl _)) hub hvb hT
  subst hue hve
  have HLaid := hid hl
  clear hu hv hub hvb hbox1 hl
  go_enter Tryd.func3, Tryd.ntmps3
  go_wp2_with fail
  ((refine (awake08 _ hl1).mono ?_); rintro r2 w2 ⟨rfl, hb2⟩)
  replace q0 := (hb2.cell hlt1).trans q0
  replace q1 := (hb2.cell hlt1).trans q1
  replace q2 := (hb2.cell hlt1).trans q2
  have hb12 := via hb1 hb2
  clear hw1
  go_wp2_with fail
  ((refine (hspec.out _ hb12).mono ?_); rintro r3 w3 ⟨sv, wv, s, ws, rfl, hb3, hs, hr, hrow, hmsg⟩)
  have hb13 := via hb12 hb3
  obtain ⟨h200, hall⟩ := msg_all hr hmsg
  have hl3 := LaidE.below HLaid.out hb13 (LaidE.pos HLaid.out)
  obtain ⟨wa, wc, rfl, -⟩ := hrow.open
  clear hspec q0 q1 q2 hb2 hb3 hl1 hb12 hb1 hmsg
  by_cases h0 : ws.length = 0
  · rw [if_pos h0] at hall
    have hct := hid (checkTop_any hl3 hs hrow hall)
    rw [h0]
    clear hall hs hrow hr
    go_wp2_with fail
    have hc := (hct.out w3 (Below.refl _ _)).1
    rw [h0] at hc
    ((refine hc.mono ?_); rintro r4 w4 ⟨u4, rfl, -, hb4, ht4⟩)
    go_wp2_with fail
    ((refine ht4.mono ?_); rintro r5 w5 ⟨rfl, hb5, -⟩)
    have hc2 := (hct.out w5 hb5).2
    rw [h0] at hc2
    clear ht4 hc
    go_wp2_with fail
    ((refine hc2.mono ?_); rintro r6 w6 ⟨rfl, hb6, -⟩)
    go_wp2_with fail
    go_returns
    exact ⟨rfl, hb13.trans (hb6.mono hb13.size)⟩
  · rw [if_neg h0] at hall
    have hct := hid (checkTop_any hl3 hs hrow hall)
    obtain ⟨L, hL⟩ : ∃ L, L = ws.length := ⟨_, rfl⟩
    rw [← hL] at h0 hct h200 ⊢
    have hL1 : ((L - 1 : Nat) : Int) = (L : Int) - 1 := by omega
    have hLw : IntKind.i64.wrap ((L : Int) - 1) = (L : Int) - 1 := IntWalk.i64_in _ (by omega)
    have hLe : (((L : Int) - 1) == ((L : Int) - 1)) = true := by simp
    have hLn : ((L : Int) == 0) = false := by rw [beq_eq_false_iff_ne]; omega
    rw [hL1] at hct
    have Hct := hid (show ∀ W, Below w3.heap.size w3 W → _ from hct.out)
    clear hall hs hrow hr hL hL1 hct
    go_wp2_with fail
    have hc := (Hct.out w3 (Below.refl _ _)).1
    ((refine hc.mono ?_); rintro r4 w4 ⟨u4, rfl, -, hb4, ht4⟩)
    go_wp2_with fail
    ((refine ht4.mono ?_); rintro r5 w5 ⟨rfl, hb5, -⟩)
    have hc2 := (Hct.out w5 hb5).2
    clear ht4 hc
    go_wp2_with fail
    ((refine hc2.mono ?_); rintro r6 w6 ⟨rfl, hb6, -⟩)
    go_wp2_with fail
    go_returns
    exact ⟨rfl, hb13.trans (hb6.mono hb13.size)⟩

theorem row_lenS {w : World} {v : Value} {n : Nat} {l : List Int} (h : Row w 1 v n (l.map (Value.int .i64))) : Row w 1 v l.length (l.map (Value.int .i64)) := by
  have : l.length = n := by have := h.len; simpa using this
  rw [this]; exact h
theorem law_ValidBuilt (u v : Value) (n m : Nat) (tl vl : List Int) (T : Int) (w : World) (hl : LaidE w) (hu : Row w 1 u n (tl.map (Value.int .i64))) (hv : Row w 1 v m (vl.map (Value.int .i64)))
    (hub : ∀ z ∈ tl, -9223372036854775808 ≤ z ∧ z ≤ 9223372036854775807) (hvb : ∀ z ∈ vl, -9223372036854775808 ≤ z ∧ z ≤ 9223372036854775807) (hT : -9223372036854775808 ≤ T ∧ T ≤ 9223372036854775807) :
    Calls Tryd.prog 3 #[.agg #[u, v, .int .i64 T]] w fun r w' => r = .returned (.bool true) ∧ Below w.heap.size w w' :=
  vbuilt_walk u v T tl vl w hl (row_lenS hu) (row_lenS hv) hub hvb hT
end SLVBuilt

end Go.Proofs.YtogaclolodlnbaaDoor

