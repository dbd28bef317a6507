/- intagliolaw13.ControlApart: the walks where a guard is false. -/
import Derived.Test.YtbhnbjaafejcjaaDoorLApart
set_option linter.unusedVariables false
namespace Go.Proofs.YtbhnbjaafejcjaaDoor
open Go.RowKit

set_option maxRecDepth 100000 in
set_option maxHeartbeats 4000000 in
theorem apart_walk_FF (x B X Y G A N : BitVec 64) (p g ec fc xe xg xb ye yg yb ae ag ab ge gg gb : Int) (xl xu yl yu al au gl gu : Bool) (er fr : Value) (w : World) (hl : LaidE w)
    (hxg : 0 ≤ xg ∧ xg ≤ 2147483647)
    (hmod : wrap64 (1 + (wrap64 (g.tmod 65535 + 65535)).tmod 65535) = p)
    (cB : ∀ w, Calls Tryd.prog 25 #[U x] w fun r w' => r = .returned (U B) ∧ Below w.heap.size w w')
    (cX : ∀ w, Calls Tryd.prog 26 #[U B] w fun r w' => r = .returned (.tuple #[U X, er]) ∧ Below w.heap.size w w')
    (cY : ∀ w, Calls Tryd.prog 27 #[U x, .int .i64 p] w fun r w' => r = .returned (.tuple #[U Y, fr]) ∧ Below w.heap.size w w')
    (cG : ∀ w, Calls Tryd.prog 29 #[U x] w fun r w' => r = .returned (U G) ∧ Below w.heap.size w w')
    (cA : ∀ w, Calls Tryd.prog 28 #[U G] w fun r w' => r = .returned (U A) ∧ Below w.heap.size w w')
    (cN : ∀ w, Calls Tryd.prog 28 #[U x] w fun r w' => r = .returned (U N) ∧ Below w.heap.size w w')
    (ux : ∀ w, Calls Tryd.prog 30 #[U x] w fun r w' => r = .returned (CV xe xg xb xl xu) ∧ Below w.heap.size w w')
    (uy : ∀ w, Calls Tryd.prog 30 #[U Y] w fun r w' => r = .returned (CV ye yg yb yl yu) ∧ Below w.heap.size w w')
    (ua : ∀ w, Calls Tryd.prog 30 #[U A] w fun r w' => r = .returned (CV ae ag ab true au) ∧ Below w.heap.size w w')
    (ug : ∀ w, Calls Tryd.prog 30 #[U G] w fun r w' => r = .returned (CV ge gg gb false gu) ∧ Below w.heap.size w w')
    (te : ∀ w, LaidE w → Calls Tryd.prog 13 #[er] w fun r w' => r = .returned (.int .i64 ec) ∧ Below w.heap.size w w')
    (tf : ∀ w, LaidE w → Calls Tryd.prog 13 #[fr] w fun r w' => r = .returned (.int .i64 fc) ∧ Below w.heap.size w w')
    (e1 : (ec == 0) = false) (f1 : (fc == 0) = false)
    (hG : (G != x) = true) (hAN : (A != N) = true) (hAx : (A != x) = true) :
    Calls Tryd.prog 7 #[U x, .int .i64 g] w fun r w' => r = .returned (.bool true) ∧ Below w.heap.size w w' := by
  have h0 := hl.pos
  have hbl := Below.refl w.heap.size w
  unfold CV at ux uy ua ug
  go_enter Tryd.func7, Tryd.ntmps7
  go_wp2_with (first
    | (go_at_call 24; (with_reducible refine (awake13 _).mono ?_); rintro r w1 ⟨rfl, hb⟩; replace hbl := via (w := w) hbl hb; clear hb)
    | (go_at_call 25; (with_reducible refine (cB _).mono ?_); rintro r w1 ⟨rfl, hb⟩; replace hbl := via (w := w) hbl hb; clear hb)
    | (go_at_call 26; (with_reducible refine (cX _).mono ?_); rintro r w1 ⟨rfl, hb⟩; replace hbl := via (w := w) hbl hb; clear hb)
    | (go_at_call 27; (with_reducible refine (cY _).mono ?_); rintro r w1 ⟨rfl, hb⟩; replace hbl := via (w := w) hbl hb; clear hb)
    | (go_at_call 29; (with_reducible refine (cG _).mono ?_); rintro r w1 ⟨rfl, hb⟩; replace hbl := via (w := w) hbl hb; clear hb)
    | (go_at_call 28; (first | (with_reducible refine (cA _).mono ?_) | (with_reducible refine (cN _).mono ?_)); rintro r w1 ⟨rfl, hb⟩; replace hbl := via (w := w) hbl hb; clear hb)
    | (go_at_call 30; (with_reducible refine (ux _).mono ?_); rintro r w1 ⟨rfl, hb⟩; replace hbl := via (w := w) hbl hb; clear hb))
  have bx := Box.mk' w1 xe xg xb xl xu 57
  replace hbl := hbl.alloc hbl.size (.cells #[.int .i64 xe, .int .i64 xg, .int .i64 xb, .bool xl, .bool xu] 57)
  generalize w1.alloc (.cells #[.int .i64 xe, .int .i64 xg, .int .i64 xb, .bool xl, .bool xu] 57) = w2 at *
  generalize w1.heap.size = D at *
  obtain ⟨dl, c0, c1, c2, c3, c4⟩ := bx
  refine wp_region_held_drew (S := (fun W => W.cell? ⟨D, 0, none⟩ = some (.int .i64 xe) ∧ W.cell? ⟨D, 1, none⟩ = some (.int .i64 xg) ∧ W.cell? ⟨D, 2, none⟩ = some (.int .i64 xb) ∧ W.cell? ⟨D, 3, none⟩ = some (.bool xl) ∧ W.cell? ⟨D, 4, none⟩ = some (.bool xu) ∧ D < W.heap.size ∧ Below w.heap.size w W)) (by kernel_rfl) ?_ (fun hHeld => ?_)
  · exact ⟨c0, c1, c2, c3, c4, dl, hbl.trans (below_drewN _ _ 1)⟩
  refine wpAnyH_take (i := 0) (oi := { dst := some 38, op := Op.move (Operand.tmp 9), type := 34, pos := "law.go:56", after := #[], guard := none }) (v := ?v0) rfl (by kernel_rfl) (by kernel_rfl) (by kernel_rfl) (fun _ _ _ h => h) (Or.inl ⟨by rfl, ?hy0⟩) (by assumption) ?rest0
  case hy0 => first | (intro w hSw; (try dsimp only at hSw); go_simp; done) | (intro w hSw; (try dsimp only at hSw); go_simp; with_reducible rfl)
  try simp only [Act.put, List.setIfInBounds_toArray, List.set_cons_zero, List.set_cons_succ]
  refine wpAnyH_ready (rs := [1]) (by kernel_rfl) (by simp) ?_
  refine AllReadyH.cons (o := { dst := some 39, op := Op.call { callee := Callee.value (Operand.func 13), args := #[Operand.tmp 38], argTypes := #[34] }, type := 31, pos := "law.go:56", after := #[{ on := 0, ground := Ground.data }], guard := none }) rfl (fun K hK => ?_) AllReadyH.nil
  go_simp
  ((refine (te _ (hl.below (held5_end (by assumption)) h0)).mono ?_); rintro r1 w10 ⟨rfl, hb3⟩)
  refine hK.out _ _ ?_ (fun hHeld => ?_)
  · exact held5 (by assumption) hb3
  clear hK K hb3
  try simp only [Act.put, List.setIfInBounds_toArray, List.set_cons_zero, List.set_cons_succ]
  refine wpAnyH_take (i := 2) (oi := { dst := some 40, op := Op.binOp BinOp.eql 31 (Operand.tmp 39) (Operand.const (Value.int IntKind.i64 0)) 31, type := 4, pos := "law.go:56", after := #[{ on := 1, ground := Ground.data }], guard := none }) (v := ?v2) rfl (by kernel_rfl) (by kernel_rfl) (by kernel_rfl) (fun _ _ _ h => h) (Or.inl ⟨by rfl, ?hy2⟩) (by assumption) ?rest2
  case hy2 => first | (intro w hSw; (try dsimp only at hSw); go_simp; done) | (intro w hSw; (try dsimp only at hSw); go_simp; with_reducible rfl)
  try simp only [Act.put, List.setIfInBounds_toArray, List.set_cons_zero, List.set_cons_succ]
  refine wpAnyH_take (i := 3) (oi := { dst := some 41, op := Op.move (Operand.tmp 40), type := 4, pos := "law.go:56", after := #[{ on := 2, ground := Ground.data }, { on := 1, ground := Ground.chain }], guard := none }) (v := ?v3) rfl (by kernel_rfl) (by kernel_rfl) (by kernel_rfl) (fun _ _ _ h => h) (Or.inl ⟨by rfl, ?hy3⟩) (by assumption) ?rest3
  case hy3 => first | (intro w hSw; (try dsimp only at hSw); go_simp; done) | (intro w hSw; (try dsimp only at hSw); go_simp; with_reducible rfl)
  try simp only [Act.put, List.setIfInBounds_toArray, List.set_cons_zero, List.set_cons_succ]
  refine wpAnyH_take (i := 4) (oi := { dst := some 42, op := Op.move (Operand.tmp 8), type := 41, pos := "law.go:56", after := #[{ on := 3, ground := Ground.guard }], guard := some (3, true) }) (v := undef) rfl (by kernel_rfl) (by kernel_rfl) (by kernel_rfl) (fun _ _ _ h => h) (Or.inr ⟨by rfl, rfl⟩) (by assumption) ?rest4
  try simp only [Act.put, List.setIfInBounds_toArray, List.set_cons_zero, List.set_cons_succ]
  refine wpAnyH_take (i := 5) (oi := { dst := some 43, op := Op.move (Operand.tmp 0), type := 41, pos := "law.go:56", after := #[{ on := 3, ground := Ground.guard }], guard := some (3, true) }) (v := undef) rfl (by kernel_rfl) (by kernel_rfl) (by kernel_rfl) (fun _ _ _ h => h) (Or.inr ⟨by rfl, rfl⟩) (by assumption) ?rest5
  try simp only [Act.put, List.setIfInBounds_toArray, List.set_cons_zero, List.set_cons_succ]
  refine wpAnyH_take (i := 6) (oi := { dst := some 44, op := Op.binOp BinOp.eql 41 (Operand.tmp 42) (Operand.tmp 43) 41, type := 4, pos := "law.go:56", after := #[{ on := 4, ground := Ground.data }, { on := 5, ground := Ground.data }, { on := 3, ground := Ground.guard }], guard := some (3, true) }) (v := undef) rfl (by kernel_rfl) (by kernel_rfl) (by kernel_rfl) (fun _ _ _ h => h) (Or.inr ⟨by rfl, rfl⟩) (by assumption) ?rest6
  try simp only [Act.put, List.setIfInBounds_toArray, List.set_cons_zero, List.set_cons_succ]
  refine wpAnyH_take (i := 7) (oi := { dst := some 45, op := Op.move (Operand.tmp 44), type := 4, pos := "law.go:56", after := #[{ on := 6, ground := Ground.data }, { on := 3, ground := Ground.chain }, { on := 3, ground := Ground.guard }], guard := some (3, true) }) (v := undef) rfl (by kernel_rfl) (by kernel_rfl) (by kernel_rfl) (fun _ _ _ h => h) (Or.inr ⟨by rfl, rfl⟩) (by assumption) ?rest7
  try simp only [Act.put, List.setIfInBounds_toArray, List.set_cons_zero, List.set_cons_succ]
  refine wpAnyH_take (i := 8) (oi := { dst := some 46, op := Op.move (Operand.tmp 8), type := 41, pos := "law.go:56", after := #[{ on := 7, ground := Ground.guard }], guard := some (7, false) }) (v := undef) rfl (by kernel_rfl) (by kernel_rfl) (by kernel_rfl) (fun _ _ _ h => h) (Or.inr ⟨by rfl, rfl⟩) (by assumption) ?rest8
  try simp only [Act.put, List.setIfInBounds_toArray, List.set_cons_zero, List.set_cons_succ]
  refine wpAnyH_take (i := 9) (oi := { dst := some 47, op := Op.move (Operand.tmp 7), type := 41, pos := "law.go:56", after := #[{ on := 7, ground := Ground.guard }], guard := some (7, false) }) (v := undef) rfl (by kernel_rfl) (by kernel_rfl) (by kernel_rfl) (fun _ _ _ h => h) (Or.inr ⟨by rfl, rfl⟩) (by assumption) ?rest9
  try simp only [Act.put, List.setIfInBounds_toArray, List.set_cons_zero, List.set_cons_succ]
  refine wpAnyH_take (i := 10) (oi := { dst := some 48, op := Op.binOp BinOp.eql 41 (Operand.tmp 46) (Operand.tmp 47) 41, type := 4, pos := "law.go:56", after := #[{ on := 8, ground := Ground.data }, { on := 9, ground := Ground.data }, { on := 7, ground := Ground.guard }], guard := some (7, false) }) (v := undef) rfl (by kernel_rfl) (by kernel_rfl) (by kernel_rfl) (fun _ _ _ h => h) (Or.inr ⟨by rfl, rfl⟩) (by assumption) ?rest10
  try simp only [Act.put, List.setIfInBounds_toArray, List.set_cons_zero, List.set_cons_succ]
  refine wpAnyH_take (i := 11) (oi := { dst := some 49, op := Op.pick (Operand.tmp 45) (Operand.const (Value.bool true)) (Operand.tmp 48), type := 4, pos := "law.go:56", after := #[{ on := 7, ground := Ground.data }, { on := 10, ground := Ground.data }, { on := 3, ground := Ground.guard }], guard := some (3, true) }) (v := undef) rfl (by kernel_rfl) (by kernel_rfl) (by kernel_rfl) (fun _ _ _ h => h) (Or.inr ⟨by rfl, rfl⟩) (by assumption) ?rest11
  try simp only [Act.put, List.setIfInBounds_toArray, List.set_cons_zero, List.set_cons_succ]
  refine wpAnyH_take (i := 12) (oi := { dst := some 50, op := Op.move (Operand.tmp 49), type := 4, pos := "law.go:56", after := #[{ on := 11, ground := Ground.data }, { on := 7, ground := Ground.chain }, { on := 3, ground := Ground.guard }], guard := some (3, true) }) (v := undef) rfl (by kernel_rfl) (by kernel_rfl) (by kernel_rfl) (fun _ _ _ h => h) (Or.inr ⟨by rfl, rfl⟩) (by assumption) ?rest12
  try simp only [Act.put, List.setIfInBounds_toArray, List.set_cons_zero, List.set_cons_succ]
  refine wpAnyH_take (i := 13) (oi := { dst := some 51, op := Op.fieldAddr 57 (Operand.tmp 13) 3, type := 0, pos := "law.go:56", after := #[{ on := 12, ground := Ground.guard }], guard := some (12, false) }) (v := undef) rfl (by kernel_rfl) (by kernel_rfl) (by kernel_rfl) (fun _ _ _ h => h) (Or.inr ⟨by rfl, rfl⟩) (by assumption) ?rest13
  try simp only [Act.put, List.setIfInBounds_toArray, List.set_cons_zero, List.set_cons_succ]
  refine wpAnyH_take (i := 14) (oi := { dst := some 52, op := Op.load 4 (Operand.tmp 51), type := 4, pos := "law.go:56", after := #[{ on := 13, ground := Ground.data }, { on := 12, ground := Ground.guard }], guard := some (12, false) }) (v := undef) rfl (by kernel_rfl) (by kernel_rfl) (by kernel_rfl) (fun _ _ _ h => h) (Or.inr ⟨by rfl, rfl⟩) (by assumption) ?rest14
  try simp only [Act.put, List.setIfInBounds_toArray, List.set_cons_zero, List.set_cons_succ]
  refine wpAnyH_take (i := 15) (oi := { dst := some 53, op := Op.unOp UnOp.not 4 (Operand.tmp 52), type := 4, pos := "law.go:56", after := #[{ on := 14, ground := Ground.data }, { on := 12, ground := Ground.guard }], guard := some (12, false) }) (v := undef) rfl (by kernel_rfl) (by kernel_rfl) (by kernel_rfl) (fun _ _ _ h => h) (Or.inr ⟨by rfl, rfl⟩) (by assumption) ?rest15
  try simp only [Act.put, List.setIfInBounds_toArray, List.set_cons_zero, List.set_cons_succ]
  refine wpAnyH_take (i := 16) (oi := { dst := some 54, op := Op.pick (Operand.tmp 50) (Operand.const (Value.bool true)) (Operand.tmp 53), type := 4, pos := "law.go:56", after := #[{ on := 12, ground := Ground.data }, { on := 15, ground := Ground.data }, { on := 3, ground := Ground.guard }], guard := some (3, true) }) (v := undef) rfl (by kernel_rfl) (by kernel_rfl) (by kernel_rfl) (fun _ _ _ h => h) (Or.inr ⟨by rfl, rfl⟩) (by assumption) ?rest16
  try simp only [Act.put, List.setIfInBounds_toArray, List.set_cons_zero, List.set_cons_succ]
  refine wpAnyH_take (i := 17) (oi := { dst := some 55, op := Op.pick (Operand.tmp 41) (Operand.tmp 54) (Operand.const (Value.bool false)), type := 4, pos := "law.go:56", after := #[{ on := 3, ground := Ground.data }, { on := 16, ground := Ground.data }], guard := none }) (v := ?v17) rfl (by kernel_rfl) (by kernel_rfl) (by kernel_rfl) (fun _ _ _ h => h) (Or.inl ⟨by rfl, ?hy17⟩) (by assumption) ?rest17
  case hy17 => first | (intro w hSw; (try dsimp only at hSw); go_simp; done) | (intro w hSw; (try dsimp only at hSw); go_simp; with_reducible rfl)
  try simp only [Act.put, List.setIfInBounds_toArray, List.set_cons_zero, List.set_cons_succ]
  refine wpAnyH_take (i := 18) (oi := { dst := some 56, op := Op.move (Operand.tmp 55), type := 4, pos := "law.go:56", after := #[{ on := 17, ground := Ground.data }, { on := 12, ground := Ground.chain }], guard := none }) (v := ?v18) rfl (by kernel_rfl) (by kernel_rfl) (by kernel_rfl) (fun _ _ _ h => h) (Or.inl ⟨by rfl, ?hy18⟩) (by assumption) ?rest18
  case hy18 => first | (intro w hSw; (try dsimp only at hSw); go_simp; done) | (intro w hSw; (try dsimp only at hSw); go_simp; with_reducible rfl)
  try simp only [Act.put, List.setIfInBounds_toArray, List.set_cons_zero, List.set_cons_succ]
  refine wpAnyH_take (i := 19) (oi := { dst := some 57, op := Op.move (Operand.tmp 11), type := 34, pos := "law.go:56", after := #[{ on := 18, ground := Ground.guard }], guard := some (18, false) }) (v := ?v19) rfl (by kernel_rfl) (by kernel_rfl) (by kernel_rfl) (fun _ _ _ h => h) (Or.inl ⟨by rfl, ?hy19⟩) (by assumption) ?rest19
  case hy19 => first | (intro w hSw; (try dsimp only at hSw); go_simp; done) | (intro w hSw; (try dsimp only at hSw); go_simp; with_reducible rfl)
  try simp only [Act.put, List.setIfInBounds_toArray, List.set_cons_zero, List.set_cons_succ]
  refine wpAnyH_ready (rs := [20]) (by kernel_rfl) (by simp) ?_
  refine AllReadyH.cons (o := { dst := some 58, op := Op.call { callee := Callee.value (Operand.func 13), args := #[Operand.tmp 57], argTypes := #[34] }, type := 31, pos := "law.go:56", after := #[{ on := 19, ground := Ground.data }, { on := 18, ground := Ground.chain }, { on := 18, ground := Ground.guard }], guard := some (18, false) }) rfl (fun K hK => ?_) AllReadyH.nil
  go_simp
  ((refine (tf _ (hl.below (held5_end (by assumption)) h0)).mono ?_); rintro r20 w11 ⟨rfl, hb3⟩)
  refine hK.out _ _ ?_ (fun hHeld => ?_)
  · exact held5 (by assumption) hb3
  clear hK K hb3
  try simp only [Act.put, List.setIfInBounds_toArray, List.set_cons_zero, List.set_cons_succ]
  refine wpAnyH_take (i := 21) (oi := { dst := some 59, op := Op.binOp BinOp.eql 31 (Operand.tmp 58) (Operand.const (Value.int IntKind.i64 0)) 31, type := 4, pos := "law.go:56", after := #[{ on := 20, ground := Ground.data }, { on := 18, ground := Ground.guard }], guard := some (18, false) }) (v := ?v21) rfl (by kernel_rfl) (by kernel_rfl) (by kernel_rfl) (fun _ _ _ h => h) (Or.inl ⟨by rfl, ?hy21⟩) (by assumption) ?rest21
  case hy21 => first | (intro w hSw; (try dsimp only at hSw); go_simp; done) | (intro w hSw; (try dsimp only at hSw); go_simp; with_reducible rfl)
  try simp only [Act.put, List.setIfInBounds_toArray, List.set_cons_zero, List.set_cons_succ]
  refine wpAnyH_take (i := 22) (oi := { dst := some 60, op := Op.move (Operand.tmp 59), type := 4, pos := "law.go:56", after := #[{ on := 21, ground := Ground.data }, { on := 20, ground := Ground.chain }, { on := 18, ground := Ground.guard }], guard := some (18, false) }) (v := ?v22) rfl (by kernel_rfl) (by kernel_rfl) (by kernel_rfl) (fun _ _ _ h => h) (Or.inl ⟨by rfl, ?hy22⟩) (by assumption) ?rest22
  case hy22 => first | (intro w hSw; (try dsimp only at hSw); go_simp; done) | (intro w hSw; (try dsimp only at hSw); go_simp; with_reducible rfl)
  try simp only [Act.put, List.setIfInBounds_toArray, List.set_cons_zero, List.set_cons_succ]
  refine wpAnyH_take (i := 23) (oi := { dst := some 61, op := Op.move (Operand.tmp 10), type := 41, pos := "law.go:56", after := #[{ on := 22, ground := Ground.guard }], guard := some (22, true) }) (v := undef) rfl (by kernel_rfl) (by kernel_rfl) (by kernel_rfl) (fun _ _ _ h => h) (Or.inr ⟨by rfl, rfl⟩) (by assumption) ?rest23
  try simp only [Act.put, List.setIfInBounds_toArray, List.set_cons_zero, List.set_cons_succ]
  refine wpAnyH_take (i := 24) (oi := { dst := some 62, op := Op.move (Operand.tmp 0), type := 41, pos := "law.go:56", after := #[{ on := 22, ground := Ground.guard }], guard := some (22, true) }) (v := undef) rfl (by kernel_rfl) (by kernel_rfl) (by kernel_rfl) (fun _ _ _ h => h) (Or.inr ⟨by rfl, rfl⟩) (by assumption) ?rest24
  try simp only [Act.put, List.setIfInBounds_toArray, List.set_cons_zero, List.set_cons_succ]
  refine wpAnyH_take (i := 25) (oi := { dst := some 63, op := Op.binOp BinOp.eql 41 (Operand.tmp 61) (Operand.tmp 62) 41, type := 4, pos := "law.go:56", after := #[{ on := 23, ground := Ground.data }, { on := 24, ground := Ground.data }, { on := 22, ground := Ground.guard }], guard := some (22, true) }) (v := undef) rfl (by kernel_rfl) (by kernel_rfl) (by kernel_rfl) (fun _ _ _ h => h) (Or.inr ⟨by rfl, rfl⟩) (by assumption) ?rest25
  try simp only [Act.put, List.setIfInBounds_toArray, List.set_cons_zero, List.set_cons_succ]
  refine wpAnyH_take (i := 26) (oi := { dst := some 64, op := Op.move (Operand.tmp 63), type := 4, pos := "law.go:56", after := #[{ on := 25, ground := Ground.data }, { on := 22, ground := Ground.chain }, { on := 22, ground := Ground.guard }], guard := some (22, true) }) (v := undef) rfl (by kernel_rfl) (by kernel_rfl) (by kernel_rfl) (fun _ _ _ h => h) (Or.inr ⟨by rfl, rfl⟩) (by assumption) ?rest26
  try simp only [Act.put, List.setIfInBounds_toArray, List.set_cons_zero, List.set_cons_succ]
  refine wpAnyH_take (i := 27) (oi := { dst := some 65, op := Op.move (Operand.tmp 10), type := 41, pos := "law.go:56", after := #[{ on := 26, ground := Ground.guard }], guard := some (26, false) }) (v := undef) rfl (by kernel_rfl) (by kernel_rfl) (by kernel_rfl) (fun _ _ _ h => h) (Or.inr ⟨by rfl, rfl⟩) (by assumption) ?rest27
  try simp only [Act.put, List.setIfInBounds_toArray, List.set_cons_zero, List.set_cons_succ]
  refine wpAnyH_take (i := 28) (oi := { dst := some 66, op := Op.call { callee := Callee.value (Operand.func 30), args := #[Operand.tmp 65], argTypes := #[41] }, type := 57, pos := "law.go:56", after := #[{ on := 27, ground := Ground.data }, { on := 26, ground := Ground.chain }, { on := 26, ground := Ground.guard }], guard := some (26, false) }) (v := undef) rfl (by kernel_rfl) (by kernel_rfl) (by kernel_rfl) (fun _ _ _ h => h) (Or.inr ⟨by rfl, rfl⟩) (by assumption) ?rest28
  try simp only [Act.put, List.setIfInBounds_toArray, List.set_cons_zero, List.set_cons_succ]
  refine wpAnyH_take (i := 29) (oi := { dst := some 67, op := Op.field 57 (Operand.tmp 66) 2, type := 3, pos := "law.go:56", after := #[{ on := 28, ground := Ground.data }, { on := 26, ground := Ground.guard }], guard := some (26, false) }) (v := undef) rfl (by kernel_rfl) (by kernel_rfl) (by kernel_rfl) (fun _ _ _ h => h) (Or.inr ⟨by rfl, rfl⟩) (by assumption) ?rest29
  try simp only [Act.put, List.setIfInBounds_toArray, List.set_cons_zero, List.set_cons_succ]
  refine wpAnyH_take (i := 30) (oi := { dst := some 68, op := Op.move (Operand.tmp 6), type := 3, pos := "law.go:56", after := #[{ on := 26, ground := Ground.guard }], guard := some (26, false) }) (v := undef) rfl (by kernel_rfl) (by kernel_rfl) (by kernel_rfl) (fun _ _ _ h => h) (Or.inr ⟨by rfl, rfl⟩) (by assumption) ?rest30
  try simp only [Act.put, List.setIfInBounds_toArray, List.set_cons_zero, List.set_cons_succ]
  refine wpAnyH_take (i := 31) (oi := { dst := some 69, op := Op.binOp BinOp.neq 3 (Operand.tmp 67) (Operand.tmp 68) 3, type := 4, pos := "law.go:56", after := #[{ on := 29, ground := Ground.data }, { on := 30, ground := Ground.data }, { on := 26, ground := Ground.guard }], guard := some (26, false) }) (v := undef) rfl (by kernel_rfl) (by kernel_rfl) (by kernel_rfl) (fun _ _ _ h => h) (Or.inr ⟨by rfl, rfl⟩) (by assumption) ?rest31
  try simp only [Act.put, List.setIfInBounds_toArray, List.set_cons_zero, List.set_cons_succ]
  refine wpAnyH_take (i := 32) (oi := { dst := some 70, op := Op.pick (Operand.tmp 64) (Operand.const (Value.bool true)) (Operand.tmp 69), type := 4, pos := "law.go:56", after := #[{ on := 26, ground := Ground.data }, { on := 31, ground := Ground.data }, { on := 22, ground := Ground.guard }], guard := some (22, true) }) (v := undef) rfl (by kernel_rfl) (by kernel_rfl) (by kernel_rfl) (fun _ _ _ h => h) (Or.inr ⟨by rfl, rfl⟩) (by assumption) ?rest32
  try simp only [Act.put, List.setIfInBounds_toArray, List.set_cons_zero, List.set_cons_succ]
  refine wpAnyH_take (i := 33) (oi := { dst := some 71, op := Op.move (Operand.tmp 70), type := 4, pos := "law.go:56", after := #[{ on := 32, ground := Ground.data }, { on := 28, ground := Ground.chain }, { on := 22, ground := Ground.guard }], guard := some (22, true) }) (v := undef) rfl (by kernel_rfl) (by kernel_rfl) (by kernel_rfl) (fun _ _ _ h => h) (Or.inr ⟨by rfl, rfl⟩) (by assumption) ?rest33
  try simp only [Act.put, List.setIfInBounds_toArray, List.set_cons_zero, List.set_cons_succ]
  refine wpAnyH_take (i := 34) (oi := { dst := some 72, op := Op.move (Operand.tmp 10), type := 41, pos := "law.go:56", after := #[{ on := 33, ground := Ground.guard }], guard := some (33, false) }) (v := undef) rfl (by kernel_rfl) (by kernel_rfl) (by kernel_rfl) (fun _ _ _ h => h) (Or.inr ⟨by rfl, rfl⟩) (by assumption) ?rest34
  try simp only [Act.put, List.setIfInBounds_toArray, List.set_cons_zero, List.set_cons_succ]
  refine wpAnyH_take (i := 35) (oi := { dst := some 73, op := Op.call { callee := Callee.value (Operand.func 30), args := #[Operand.tmp 72], argTypes := #[41] }, type := 57, pos := "law.go:56", after := #[{ on := 34, ground := Ground.data }, { on := 33, ground := Ground.chain }, { on := 33, ground := Ground.guard }], guard := some (33, false) }) (v := undef) rfl (by kernel_rfl) (by kernel_rfl) (by kernel_rfl) (fun _ _ _ h => h) (Or.inr ⟨by rfl, rfl⟩) (by assumption) ?rest35
  try simp only [Act.put, List.setIfInBounds_toArray, List.set_cons_zero, List.set_cons_succ]
  refine wpAnyH_take (i := 36) (oi := { dst := some 74, op := Op.field 57 (Operand.tmp 73) 1, type := 3, pos := "law.go:56", after := #[{ on := 35, ground := Ground.data }, { on := 33, ground := Ground.guard }], guard := some (33, false) }) (v := undef) rfl (by kernel_rfl) (by kernel_rfl) (by kernel_rfl) (fun _ _ _ h => h) (Or.inr ⟨by rfl, rfl⟩) (by assumption) ?rest36
  try simp only [Act.put, List.setIfInBounds_toArray, List.set_cons_zero, List.set_cons_succ]
  refine wpAnyH_take (i := 37) (oi := { dst := some 75, op := Op.fieldAddr 57 (Operand.tmp 13) 1, type := 0, pos := "law.go:56", after := #[{ on := 33, ground := Ground.guard }], guard := some (33, false) }) (v := undef) rfl (by kernel_rfl) (by kernel_rfl) (by kernel_rfl) (fun _ _ _ h => h) (Or.inr ⟨by rfl, rfl⟩) (by assumption) ?rest37
  try simp only [Act.put, List.setIfInBounds_toArray, List.set_cons_zero, List.set_cons_succ]
  refine wpAnyH_take (i := 38) (oi := { dst := some 76, op := Op.load 3 (Operand.tmp 75), type := 3, pos := "law.go:56", after := #[{ on := 37, ground := Ground.data }, { on := 33, ground := Ground.guard }], guard := some (33, false) }) (v := undef) rfl (by kernel_rfl) (by kernel_rfl) (by kernel_rfl) (fun _ _ _ h => h) (Or.inr ⟨by rfl, rfl⟩) (by assumption) ?rest38
  try simp only [Act.put, List.setIfInBounds_toArray, List.set_cons_zero, List.set_cons_succ]
  refine wpAnyH_take (i := 39) (oi := { dst := some 77, op := Op.binOp BinOp.add 3 (Operand.tmp 76) (Operand.const (Value.int IntKind.i64 1)) 3, type := 3, pos := "law.go:56", after := #[{ on := 38, ground := Ground.data }, { on := 33, ground := Ground.guard }], guard := some (33, false) }) (v := undef) rfl (by kernel_rfl) (by kernel_rfl) (by kernel_rfl) (fun _ _ _ h => h) (Or.inr ⟨by rfl, rfl⟩) (by assumption) ?rest39
  try simp only [Act.put, List.setIfInBounds_toArray, List.set_cons_zero, List.set_cons_succ]
  refine wpAnyH_take (i := 40) (oi := { dst := some 78, op := Op.binOp BinOp.neq 3 (Operand.tmp 74) (Operand.tmp 77) 3, type := 4, pos := "law.go:56", after := #[{ on := 36, ground := Ground.data }, { on := 39, ground := Ground.data }, { on := 33, ground := Ground.guard }], guard := some (33, false) }) (v := undef) rfl (by kernel_rfl) (by kernel_rfl) (by kernel_rfl) (fun _ _ _ h => h) (Or.inr ⟨by rfl, rfl⟩) (by assumption) ?rest40
  try simp only [Act.put, List.setIfInBounds_toArray, List.set_cons_zero, List.set_cons_succ]
  refine wpAnyH_take (i := 41) (oi := { dst := some 79, op := Op.pick (Operand.tmp 71) (Operand.const (Value.bool true)) (Operand.tmp 78), type := 4, pos := "law.go:56", after := #[{ on := 33, ground := Ground.data }, { on := 40, ground := Ground.data }, { on := 22, ground := Ground.guard }], guard := some (22, true) }) (v := undef) rfl (by kernel_rfl) (by kernel_rfl) (by kernel_rfl) (fun _ _ _ h => h) (Or.inr ⟨by rfl, rfl⟩) (by assumption) ?rest41
  try simp only [Act.put, List.setIfInBounds_toArray, List.set_cons_zero, List.set_cons_succ]
  refine wpAnyH_take (i := 42) (oi := { dst := some 80, op := Op.pick (Operand.tmp 60) (Operand.tmp 79) (Operand.const (Value.bool false)), type := 4, pos := "law.go:56", after := #[{ on := 22, ground := Ground.data }, { on := 41, ground := Ground.data }, { on := 18, ground := Ground.guard }], guard := some (18, false) }) (v := ?v42) rfl (by kernel_rfl) (by kernel_rfl) (by kernel_rfl) (fun _ _ _ h => h) (Or.inl ⟨by rfl, ?hy42⟩) (by assumption) ?rest42
  case hy42 => first | (intro w hSw; (try dsimp only at hSw); go_simp; done) | (intro w hSw; (try dsimp only at hSw); go_simp; with_reducible rfl)
  try simp only [Act.put, List.setIfInBounds_toArray, List.set_cons_zero, List.set_cons_succ]
  refine wpAnyH_take (i := 43) (oi := { dst := some 81, op := Op.pick (Operand.tmp 56) (Operand.const (Value.bool true)) (Operand.tmp 80), type := 4, pos := "law.go:56", after := #[{ on := 18, ground := Ground.data }, { on := 42, ground := Ground.data }], guard := none }) (v := ?v43) rfl (by kernel_rfl) (by kernel_rfl) (by kernel_rfl) (fun _ _ _ h => h) (Or.inl ⟨by rfl, ?hy43⟩) (by assumption) ?rest43
  case hy43 => first | (intro w hSw; (try dsimp only at hSw); go_simp; done) | (intro w hSw; (try dsimp only at hSw); go_simp; with_reducible rfl)
  try simp only [Act.put, List.setIfInBounds_toArray, List.set_cons_zero, List.set_cons_succ]
  refine wpAnyH_done (by kernel_rfl) ?_ _
  all_goals
    replace hbl := held5_end (w := w) (by assumption)
    go_wp2_with (first
      | (go_at_call 29; (with_reducible refine (cG _).mono ?_); rintro r w3 ⟨rfl, hb⟩; replace hbl := via (w := w) hbl hb; clear hb)
      | (go_at_call 28; (with_reducible refine (cN _).mono ?_); rintro r w3 ⟨rfl, hb⟩; replace hbl := via (w := w) hbl hb; clear hb)
      | (go_at_call 30; (first | (with_reducible refine (ua _).mono ?_) | (with_reducible refine (ug _).mono ?_)); rintro r w3 ⟨rfl, hb⟩; replace hbl := via (w := w) hbl hb; clear hb))
    go_ret
    exact ⟨rfl, hbl⟩

set_option maxRecDepth 100000 in
set_option maxHeartbeats 4000000 in
theorem apart_walk_TF (x B X Y G A N : BitVec 64) (p g ec fc xe xg xb ye yg yb ae ag ab ge gg gb : Int) (xl xu yl yu al au gl gu : Bool) (er fr : Value) (w : World) (hl : LaidE w)
    (hxg : 0 ≤ xg ∧ xg ≤ 2147483647)
    (hmod : wrap64 (1 + (wrap64 (g.tmod 65535 + 65535)).tmod 65535) = p)
    (cB : ∀ w, Calls Tryd.prog 25 #[U x] w fun r w' => r = .returned (U B) ∧ Below w.heap.size w w')
    (cX : ∀ w, Calls Tryd.prog 26 #[U B] w fun r w' => r = .returned (.tuple #[U X, er]) ∧ Below w.heap.size w w')
    (cY : ∀ w, Calls Tryd.prog 27 #[U x, .int .i64 p] w fun r w' => r = .returned (.tuple #[U Y, fr]) ∧ Below w.heap.size w w')
    (cG : ∀ w, Calls Tryd.prog 29 #[U x] w fun r w' => r = .returned (U G) ∧ Below w.heap.size w w')
    (cA : ∀ w, Calls Tryd.prog 28 #[U G] w fun r w' => r = .returned (U A) ∧ Below w.heap.size w w')
    (cN : ∀ w, Calls Tryd.prog 28 #[U x] w fun r w' => r = .returned (U N) ∧ Below w.heap.size w w')
    (ux : ∀ w, Calls Tryd.prog 30 #[U x] w fun r w' => r = .returned (CV xe xg xb xl xu) ∧ Below w.heap.size w w')
    (uy : ∀ w, Calls Tryd.prog 30 #[U Y] w fun r w' => r = .returned (CV ye yg yb yl yu) ∧ Below w.heap.size w w')
    (ua : ∀ w, Calls Tryd.prog 30 #[U A] w fun r w' => r = .returned (CV ae ag ab true au) ∧ Below w.heap.size w w')
    (ug : ∀ w, Calls Tryd.prog 30 #[U G] w fun r w' => r = .returned (CV ge gg gb false gu) ∧ Below w.heap.size w w')
    (te : ∀ w, LaidE w → Calls Tryd.prog 13 #[er] w fun r w' => r = .returned (.int .i64 ec) ∧ Below w.heap.size w w')
    (tf : ∀ w, LaidE w → Calls Tryd.prog 13 #[fr] w fun r w' => r = .returned (.int .i64 fc) ∧ Below w.heap.size w w')
    (e1 : (ec == 0) = true) (e2 : (X == x) = false) (e3 : (X == B) = false) (e4 : (!xl) = false) (f1 : (fc == 0) = false)
    (hG : (G != x) = true) (hAN : (A != N) = true) (hAx : (A != x) = true) :
    Calls Tryd.prog 7 #[U x, .int .i64 g] w fun r w' => r = .returned (.bool true) ∧ Below w.heap.size w w' := by
  have h0 := hl.pos
  have hbl := Below.refl w.heap.size w
  unfold CV at ux uy ua ug
  go_enter Tryd.func7, Tryd.ntmps7
  go_wp2_with (first
    | (go_at_call 24; (with_reducible refine (awake13 _).mono ?_); rintro r w1 ⟨rfl, hb⟩; replace hbl := via (w := w) hbl hb; clear hb)
    | (go_at_call 25; (with_reducible refine (cB _).mono ?_); rintro r w1 ⟨rfl, hb⟩; replace hbl := via (w := w) hbl hb; clear hb)
    | (go_at_call 26; (with_reducible refine (cX _).mono ?_); rintro r w1 ⟨rfl, hb⟩; replace hbl := via (w := w) hbl hb; clear hb)
    | (go_at_call 27; (with_reducible refine (cY _).mono ?_); rintro r w1 ⟨rfl, hb⟩; replace hbl := via (w := w) hbl hb; clear hb)
    | (go_at_call 29; (with_reducible refine (cG _).mono ?_); rintro r w1 ⟨rfl, hb⟩; replace hbl := via (w := w) hbl hb; clear hb)
    | (go_at_call 28; (first | (with_reducible refine (cA _).mono ?_) | (with_reducible refine (cN _).mono ?_)); rintro r w1 ⟨rfl, hb⟩; replace hbl := via (w := w) hbl hb; clear hb)
    | (go_at_call 30; (with_reducible refine (ux _).mono ?_); rintro r w1 ⟨rfl, hb⟩; replace hbl := via (w := w) hbl hb; clear hb))
  have bx := Box.mk' w1 xe xg xb xl xu 57
  replace hbl := hbl.alloc hbl.size (.cells #[.int .i64 xe, .int .i64 xg, .int .i64 xb, .bool xl, .bool xu] 57)
  generalize w1.alloc (.cells #[.int .i64 xe, .int .i64 xg, .int .i64 xb, .bool xl, .bool xu] 57) = w2 at *
  generalize w1.heap.size = D at *
  obtain ⟨dl, c0, c1, c2, c3, c4⟩ := bx
  refine wp_region_held_drew (S := (fun W => W.cell? ⟨D, 0, none⟩ = some (.int .i64 xe) ∧ W.cell? ⟨D, 1, none⟩ = some (.int .i64 xg) ∧ W.cell? ⟨D, 2, none⟩ = some (.int .i64 xb) ∧ W.cell? ⟨D, 3, none⟩ = some (.bool xl) ∧ W.cell? ⟨D, 4, none⟩ = some (.bool xu) ∧ D < W.heap.size ∧ Below w.heap.size w W)) (by kernel_rfl) ?_ (fun hHeld => ?_)
  · exact ⟨c0, c1, c2, c3, c4, dl, hbl.trans (below_drewN _ _ 1)⟩
  refine wpAnyH_take (i := 0) (oi := { dst := some 38, op := Op.move (Operand.tmp 9), type := 34, pos := "law.go:56", after := #[], guard := none }) (v := ?v0) rfl (by kernel_rfl) (by kernel_rfl) (by kernel_rfl) (fun _ _ _ h => h) (Or.inl ⟨by rfl, ?hy0⟩) (by assumption) ?rest0
  case hy0 => first | (intro w hSw; (try dsimp only at hSw); go_simp; done) | (intro w hSw; (try dsimp only at hSw); go_simp; with_reducible rfl)
  try simp only [Act.put, List.setIfInBounds_toArray, List.set_cons_zero, List.set_cons_succ]
  refine wpAnyH_ready (rs := [1]) (by kernel_rfl) (by simp) ?_
  refine AllReadyH.cons (o := { dst := some 39, op := Op.call { callee := Callee.value (Operand.func 13), args := #[Operand.tmp 38], argTypes := #[34] }, type := 31, pos := "law.go:56", after := #[{ on := 0, ground := Ground.data }], guard := none }) rfl (fun K hK => ?_) AllReadyH.nil
  go_simp
  ((refine (te _ (hl.below (held5_end (by assumption)) h0)).mono ?_); rintro r1 w10 ⟨rfl, hb3⟩)
  refine hK.out _ _ ?_ (fun hHeld => ?_)
  · exact held5 (by assumption) hb3
  clear hK K hb3
  try simp only [Act.put, List.setIfInBounds_toArray, List.set_cons_zero, List.set_cons_succ]
  refine wpAnyH_take (i := 2) (oi := { dst := some 40, op := Op.binOp BinOp.eql 31 (Operand.tmp 39) (Operand.const (Value.int IntKind.i64 0)) 31, type := 4, pos := "law.go:56", after := #[{ on := 1, ground := Ground.data }], guard := none }) (v := ?v2) rfl (by kernel_rfl) (by kernel_rfl) (by kernel_rfl) (fun _ _ _ h => h) (Or.inl ⟨by rfl, ?hy2⟩) (by assumption) ?rest2
  case hy2 => first | (intro w hSw; (try dsimp only at hSw); go_simp; done) | (intro w hSw; (try dsimp only at hSw); go_simp; with_reducible rfl)
  try simp only [Act.put, List.setIfInBounds_toArray, List.set_cons_zero, List.set_cons_succ]
  refine wpAnyH_take (i := 3) (oi := { dst := some 41, op := Op.move (Operand.tmp 40), type := 4, pos := "law.go:56", after := #[{ on := 2, ground := Ground.data }, { on := 1, ground := Ground.chain }], guard := none }) (v := ?v3) rfl (by kernel_rfl) (by kernel_rfl) (by kernel_rfl) (fun _ _ _ h => h) (Or.inl ⟨by rfl, ?hy3⟩) (by assumption) ?rest3
  case hy3 => first | (intro w hSw; (try dsimp only at hSw); go_simp; done) | (intro w hSw; (try dsimp only at hSw); go_simp; with_reducible rfl)
  try simp only [Act.put, List.setIfInBounds_toArray, List.set_cons_zero, List.set_cons_succ]
  refine wpAnyH_take (i := 4) (oi := { dst := some 42, op := Op.move (Operand.tmp 8), type := 41, pos := "law.go:56", after := #[{ on := 3, ground := Ground.guard }], guard := some (3, true) }) (v := ?v4) rfl (by kernel_rfl) (by kernel_rfl) (by kernel_rfl) (fun _ _ _ h => h) (Or.inl ⟨by rfl, ?hy4⟩) (by assumption) ?rest4
  case hy4 => first | (intro w hSw; (try dsimp only at hSw); go_simp; done) | (intro w hSw; (try dsimp only at hSw); go_simp; with_reducible rfl)
  try simp only [Act.put, List.setIfInBounds_toArray, List.set_cons_zero, List.set_cons_succ]
  refine wpAnyH_take (i := 5) (oi := { dst := some 43, op := Op.move (Operand.tmp 0), type := 41, pos := "law.go:56", after := #[{ on := 3, ground := Ground.guard }], guard := some (3, true) }) (v := ?v5) rfl (by kernel_rfl) (by kernel_rfl) (by kernel_rfl) (fun _ _ _ h => h) (Or.inl ⟨by rfl, ?hy5⟩) (by assumption) ?rest5
  case hy5 => first | (intro w hSw; (try dsimp only at hSw); go_simp; done) | (intro w hSw; (try dsimp only at hSw); go_simp; with_reducible rfl)
  try simp only [Act.put, List.setIfInBounds_toArray, List.set_cons_zero, List.set_cons_succ]
  refine wpAnyH_take (i := 6) (oi := { dst := some 44, op := Op.binOp BinOp.eql 41 (Operand.tmp 42) (Operand.tmp 43) 41, type := 4, pos := "law.go:56", after := #[{ on := 4, ground := Ground.data }, { on := 5, ground := Ground.data }, { on := 3, ground := Ground.guard }], guard := some (3, true) }) (v := ?v6) rfl (by kernel_rfl) (by kernel_rfl) (by kernel_rfl) (fun _ _ _ h => h) (Or.inl ⟨by rfl, ?hy6⟩) (by assumption) ?rest6
  case hy6 => first | (intro w hSw; (try dsimp only at hSw); go_simp; done) | (intro w hSw; (try dsimp only at hSw); go_simp; with_reducible rfl)
  try simp only [Act.put, List.setIfInBounds_toArray, List.set_cons_zero, List.set_cons_succ]
  refine wpAnyH_take (i := 7) (oi := { dst := some 45, op := Op.move (Operand.tmp 44), type := 4, pos := "law.go:56", after := #[{ on := 6, ground := Ground.data }, { on := 3, ground := Ground.chain }, { on := 3, ground := Ground.guard }], guard := some (3, true) }) (v := ?v7) rfl (by kernel_rfl) (by kernel_rfl) (by kernel_rfl) (fun _ _ _ h => h) (Or.inl ⟨by rfl, ?hy7⟩) (by assumption) ?rest7
  case hy7 => first | (intro w hSw; (try dsimp only at hSw); go_simp; done) | (intro w hSw; (try dsimp only at hSw); go_simp; with_reducible rfl)
  try simp only [Act.put, List.setIfInBounds_toArray, List.set_cons_zero, List.set_cons_succ]
  refine wpAnyH_take (i := 8) (oi := { dst := some 46, op := Op.move (Operand.tmp 8), type := 41, pos := "law.go:56", after := #[{ on := 7, ground := Ground.guard }], guard := some (7, false) }) (v := ?v8) rfl (by kernel_rfl) (by kernel_rfl) (by kernel_rfl) (fun _ _ _ h => h) (Or.inl ⟨by rfl, ?hy8⟩) (by assumption) ?rest8
  case hy8 => first | (intro w hSw; (try dsimp only at hSw); go_simp; done) | (intro w hSw; (try dsimp only at hSw); go_simp; with_reducible rfl)
  try simp only [Act.put, List.setIfInBounds_toArray, List.set_cons_zero, List.set_cons_succ]
  refine wpAnyH_take (i := 9) (oi := { dst := some 47, op := Op.move (Operand.tmp 7), type := 41, pos := "law.go:56", after := #[{ on := 7, ground := Ground.guard }], guard := some (7, false) }) (v := ?v9) rfl (by kernel_rfl) (by kernel_rfl) (by kernel_rfl) (fun _ _ _ h => h) (Or.inl ⟨by rfl, ?hy9⟩) (by assumption) ?rest9
  case hy9 => first | (intro w hSw; (try dsimp only at hSw); go_simp; done) | (intro w hSw; (try dsimp only at hSw); go_simp; with_reducible rfl)
  try simp only [Act.put, List.setIfInBounds_toArray, List.set_cons_zero, List.set_cons_succ]
  refine wpAnyH_take (i := 10) (oi := { dst := some 48, op := Op.binOp BinOp.eql 41 (Operand.tmp 46) (Operand.tmp 47) 41, type := 4, pos := "law.go:56", after := #[{ on := 8, ground := Ground.data }, { on := 9, ground := Ground.data }, { on := 7, ground := Ground.guard }], guard := some (7, false) }) (v := ?v10) rfl (by kernel_rfl) (by kernel_rfl) (by kernel_rfl) (fun _ _ _ h => h) (Or.inl ⟨by rfl, ?hy10⟩) (by assumption) ?rest10
  case hy10 => first | (intro w hSw; (try dsimp only at hSw); go_simp; done) | (intro w hSw; (try dsimp only at hSw); go_simp; with_reducible rfl)
  try simp only [Act.put, List.setIfInBounds_toArray, List.set_cons_zero, List.set_cons_succ]
  refine wpAnyH_take (i := 11) (oi := { dst := some 49, op := Op.pick (Operand.tmp 45) (Operand.const (Value.bool true)) (Operand.tmp 48), type := 4, pos := "law.go:56", after := #[{ on := 7, ground := Ground.data }, { on := 10, ground := Ground.data }, { on := 3, ground := Ground.guard }], guard := some (3, true) }) (v := ?v11) rfl (by kernel_rfl) (by kernel_rfl) (by kernel_rfl) (fun _ _ _ h => h) (Or.inl ⟨by rfl, ?hy11⟩) (by assumption) ?rest11
  case hy11 => first | (intro w hSw; (try dsimp only at hSw); go_simp; done) | (intro w hSw; (try dsimp only at hSw); go_simp; with_reducible rfl)
  try simp only [Act.put, List.setIfInBounds_toArray, List.set_cons_zero, List.set_cons_succ]
  refine wpAnyH_take (i := 12) (oi := { dst := some 50, op := Op.move (Operand.tmp 49), type := 4, pos := "law.go:56", after := #[{ on := 11, ground := Ground.data }, { on := 7, ground := Ground.chain }, { on := 3, ground := Ground.guard }], guard := some (3, true) }) (v := ?v12) rfl (by kernel_rfl) (by kernel_rfl) (by kernel_rfl) (fun _ _ _ h => h) (Or.inl ⟨by rfl, ?hy12⟩) (by assumption) ?rest12
  case hy12 => first | (intro w hSw; (try dsimp only at hSw); go_simp; done) | (intro w hSw; (try dsimp only at hSw); go_simp; with_reducible rfl)
  try simp only [Act.put, List.setIfInBounds_toArray, List.set_cons_zero, List.set_cons_succ]
  refine wpAnyH_take (i := 13) (oi := { dst := some 51, op := Op.fieldAddr 57 (Operand.tmp 13) 3, type := 0, pos := "law.go:56", after := #[{ on := 12, ground := Ground.guard }], guard := some (12, false) }) (v := ?v13) rfl (by kernel_rfl) (by kernel_rfl) (by kernel_rfl) (fun _ _ _ h => h) (Or.inl ⟨by rfl, ?hy13⟩) (by assumption) ?rest13
  case hy13 => first | (intro w hSw; (try dsimp only at hSw); go_simp; done) | (intro w hSw; (try dsimp only at hSw); go_simp; with_reducible rfl)
  try simp only [Act.put, List.setIfInBounds_toArray, List.set_cons_zero, List.set_cons_succ]
  refine wpAnyH_take (i := 14) (oi := { dst := some 52, op := Op.load 4 (Operand.tmp 51), type := 4, pos := "law.go:56", after := #[{ on := 13, ground := Ground.data }, { on := 12, ground := Ground.guard }], guard := some (12, false) }) (v := ?v14) rfl (by kernel_rfl) (by kernel_rfl) (by kernel_rfl) (fun _ _ _ h => h) (Or.inl ⟨by rfl, ?hy14⟩) (by assumption) ?rest14
  case hy14 => first | (intro w hSw; (try dsimp only at hSw); go_simp; done) | (intro w hSw; (try dsimp only at hSw); go_simp; with_reducible rfl)
  try simp only [Act.put, List.setIfInBounds_toArray, List.set_cons_zero, List.set_cons_succ]
  refine wpAnyH_take (i := 15) (oi := { dst := some 53, op := Op.unOp UnOp.not 4 (Operand.tmp 52), type := 4, pos := "law.go:56", after := #[{ on := 14, ground := Ground.data }, { on := 12, ground := Ground.guard }], guard := some (12, false) }) (v := ?v15) rfl (by kernel_rfl) (by kernel_rfl) (by kernel_rfl) (fun _ _ _ h => h) (Or.inl ⟨by rfl, ?hy15⟩) (by assumption) ?rest15
  case hy15 => first | (intro w hSw; (try dsimp only at hSw); go_simp; done) | (intro w hSw; (try dsimp only at hSw); go_simp; with_reducible rfl)
  try simp only [Act.put, List.setIfInBounds_toArray, List.set_cons_zero, List.set_cons_succ]
  refine wpAnyH_take (i := 16) (oi := { dst := some 54, op := Op.pick (Operand.tmp 50) (Operand.const (Value.bool true)) (Operand.tmp 53), type := 4, pos := "law.go:56", after := #[{ on := 12, ground := Ground.data }, { on := 15, ground := Ground.data }, { on := 3, ground := Ground.guard }], guard := some (3, true) }) (v := ?v16) rfl (by kernel_rfl) (by kernel_rfl) (by kernel_rfl) (fun _ _ _ h => h) (Or.inl ⟨by rfl, ?hy16⟩) (by assumption) ?rest16
  case hy16 => first | (intro w hSw; (try dsimp only at hSw); go_simp; done) | (intro w hSw; (try dsimp only at hSw); go_simp; with_reducible rfl)
  try simp only [Act.put, List.setIfInBounds_toArray, List.set_cons_zero, List.set_cons_succ]
  refine wpAnyH_take (i := 17) (oi := { dst := some 55, op := Op.pick (Operand.tmp 41) (Operand.tmp 54) (Operand.const (Value.bool false)), type := 4, pos := "law.go:56", after := #[{ on := 3, ground := Ground.data }, { on := 16, ground := Ground.data }], guard := none }) (v := ?v17) rfl (by kernel_rfl) (by kernel_rfl) (by kernel_rfl) (fun _ _ _ h => h) (Or.inl ⟨by rfl, ?hy17⟩) (by assumption) ?rest17
  case hy17 => first | (intro w hSw; (try dsimp only at hSw); go_simp; done) | (intro w hSw; (try dsimp only at hSw); go_simp; with_reducible rfl)
  try simp only [Act.put, List.setIfInBounds_toArray, List.set_cons_zero, List.set_cons_succ]
  refine wpAnyH_take (i := 18) (oi := { dst := some 56, op := Op.move (Operand.tmp 55), type := 4, pos := "law.go:56", after := #[{ on := 17, ground := Ground.data }, { on := 12, ground := Ground.chain }], guard := none }) (v := ?v18) rfl (by kernel_rfl) (by kernel_rfl) (by kernel_rfl) (fun _ _ _ h => h) (Or.inl ⟨by rfl, ?hy18⟩) (by assumption) ?rest18
  case hy18 => first | (intro w hSw; (try dsimp only at hSw); go_simp; done) | (intro w hSw; (try dsimp only at hSw); go_simp; with_reducible rfl)
  try simp only [Act.put, List.setIfInBounds_toArray, List.set_cons_zero, List.set_cons_succ]
  refine wpAnyH_take (i := 19) (oi := { dst := some 57, op := Op.move (Operand.tmp 11), type := 34, pos := "law.go:56", after := #[{ on := 18, ground := Ground.guard }], guard := some (18, false) }) (v := ?v19) rfl (by kernel_rfl) (by kernel_rfl) (by kernel_rfl) (fun _ _ _ h => h) (Or.inl ⟨by rfl, ?hy19⟩) (by assumption) ?rest19
  case hy19 => first | (intro w hSw; (try dsimp only at hSw); go_simp; done) | (intro w hSw; (try dsimp only at hSw); go_simp; with_reducible rfl)
  try simp only [Act.put, List.setIfInBounds_toArray, List.set_cons_zero, List.set_cons_succ]
  refine wpAnyH_ready (rs := [20]) (by kernel_rfl) (by simp) ?_
  refine AllReadyH.cons (o := { dst := some 58, op := Op.call { callee := Callee.value (Operand.func 13), args := #[Operand.tmp 57], argTypes := #[34] }, type := 31, pos := "law.go:56", after := #[{ on := 19, ground := Ground.data }, { on := 18, ground := Ground.chain }, { on := 18, ground := Ground.guard }], guard := some (18, false) }) rfl (fun K hK => ?_) AllReadyH.nil
  go_simp
  ((refine (tf _ (hl.below (held5_end (by assumption)) h0)).mono ?_); rintro r20 w11 ⟨rfl, hb3⟩)
  refine hK.out _ _ ?_ (fun hHeld => ?_)
  · exact held5 (by assumption) hb3
  clear hK K hb3
  try simp only [Act.put, List.setIfInBounds_toArray, List.set_cons_zero, List.set_cons_succ]
  refine wpAnyH_take (i := 21) (oi := { dst := some 59, op := Op.binOp BinOp.eql 31 (Operand.tmp 58) (Operand.const (Value.int IntKind.i64 0)) 31, type := 4, pos := "law.go:56", after := #[{ on := 20, ground := Ground.data }, { on := 18, ground := Ground.guard }], guard := some (18, false) }) (v := ?v21) rfl (by kernel_rfl) (by kernel_rfl) (by kernel_rfl) (fun _ _ _ h => h) (Or.inl ⟨by rfl, ?hy21⟩) (by assumption) ?rest21
  case hy21 => first | (intro w hSw; (try dsimp only at hSw); go_simp; done) | (intro w hSw; (try dsimp only at hSw); go_simp; with_reducible rfl)
  try simp only [Act.put, List.setIfInBounds_toArray, List.set_cons_zero, List.set_cons_succ]
  refine wpAnyH_take (i := 22) (oi := { dst := some 60, op := Op.move (Operand.tmp 59), type := 4, pos := "law.go:56", after := #[{ on := 21, ground := Ground.data }, { on := 20, ground := Ground.chain }, { on := 18, ground := Ground.guard }], guard := some (18, false) }) (v := ?v22) rfl (by kernel_rfl) (by kernel_rfl) (by kernel_rfl) (fun _ _ _ h => h) (Or.inl ⟨by rfl, ?hy22⟩) (by assumption) ?rest22
  case hy22 => first | (intro w hSw; (try dsimp only at hSw); go_simp; done) | (intro w hSw; (try dsimp only at hSw); go_simp; with_reducible rfl)
  try simp only [Act.put, List.setIfInBounds_toArray, List.set_cons_zero, List.set_cons_succ]
  refine wpAnyH_take (i := 23) (oi := { dst := some 61, op := Op.move (Operand.tmp 10), type := 41, pos := "law.go:56", after := #[{ on := 22, ground := Ground.guard }], guard := some (22, true) }) (v := undef) rfl (by kernel_rfl) (by kernel_rfl) (by kernel_rfl) (fun _ _ _ h => h) (Or.inr ⟨by rfl, rfl⟩) (by assumption) ?rest23
  try simp only [Act.put, List.setIfInBounds_toArray, List.set_cons_zero, List.set_cons_succ]
  refine wpAnyH_take (i := 24) (oi := { dst := some 62, op := Op.move (Operand.tmp 0), type := 41, pos := "law.go:56", after := #[{ on := 22, ground := Ground.guard }], guard := some (22, true) }) (v := undef) rfl (by kernel_rfl) (by kernel_rfl) (by kernel_rfl) (fun _ _ _ h => h) (Or.inr ⟨by rfl, rfl⟩) (by assumption) ?rest24
  try simp only [Act.put, List.setIfInBounds_toArray, List.set_cons_zero, List.set_cons_succ]
  refine wpAnyH_take (i := 25) (oi := { dst := some 63, op := Op.binOp BinOp.eql 41 (Operand.tmp 61) (Operand.tmp 62) 41, type := 4, pos := "law.go:56", after := #[{ on := 23, ground := Ground.data }, { on := 24, ground := Ground.data }, { on := 22, ground := Ground.guard }], guard := some (22, true) }) (v := undef) rfl (by kernel_rfl) (by kernel_rfl) (by kernel_rfl) (fun _ _ _ h => h) (Or.inr ⟨by rfl, rfl⟩) (by assumption) ?rest25
  try simp only [Act.put, List.setIfInBounds_toArray, List.set_cons_zero, List.set_cons_succ]
  refine wpAnyH_take (i := 26) (oi := { dst := some 64, op := Op.move (Operand.tmp 63), type := 4, pos := "law.go:56", after := #[{ on := 25, ground := Ground.data }, { on := 22, ground := Ground.chain }, { on := 22, ground := Ground.guard }], guard := some (22, true) }) (v := undef) rfl (by kernel_rfl) (by kernel_rfl) (by kernel_rfl) (fun _ _ _ h => h) (Or.inr ⟨by rfl, rfl⟩) (by assumption) ?rest26
  try simp only [Act.put, List.setIfInBounds_toArray, List.set_cons_zero, List.set_cons_succ]
  refine wpAnyH_take (i := 27) (oi := { dst := some 65, op := Op.move (Operand.tmp 10), type := 41, pos := "law.go:56", after := #[{ on := 26, ground := Ground.guard }], guard := some (26, false) }) (v := undef) rfl (by kernel_rfl) (by kernel_rfl) (by kernel_rfl) (fun _ _ _ h => h) (Or.inr ⟨by rfl, rfl⟩) (by assumption) ?rest27
  try simp only [Act.put, List.setIfInBounds_toArray, List.set_cons_zero, List.set_cons_succ]
  refine wpAnyH_take (i := 28) (oi := { dst := some 66, op := Op.call { callee := Callee.value (Operand.func 30), args := #[Operand.tmp 65], argTypes := #[41] }, type := 57, pos := "law.go:56", after := #[{ on := 27, ground := Ground.data }, { on := 26, ground := Ground.chain }, { on := 26, ground := Ground.guard }], guard := some (26, false) }) (v := undef) rfl (by kernel_rfl) (by kernel_rfl) (by kernel_rfl) (fun _ _ _ h => h) (Or.inr ⟨by rfl, rfl⟩) (by assumption) ?rest28
  try simp only [Act.put, List.setIfInBounds_toArray, List.set_cons_zero, List.set_cons_succ]
  refine wpAnyH_take (i := 29) (oi := { dst := some 67, op := Op.field 57 (Operand.tmp 66) 2, type := 3, pos := "law.go:56", after := #[{ on := 28, ground := Ground.data }, { on := 26, ground := Ground.guard }], guard := some (26, false) }) (v := undef) rfl (by kernel_rfl) (by kernel_rfl) (by kernel_rfl) (fun _ _ _ h => h) (Or.inr ⟨by rfl, rfl⟩) (by assumption) ?rest29
  try simp only [Act.put, List.setIfInBounds_toArray, List.set_cons_zero, List.set_cons_succ]
  refine wpAnyH_take (i := 30) (oi := { dst := some 68, op := Op.move (Operand.tmp 6), type := 3, pos := "law.go:56", after := #[{ on := 26, ground := Ground.guard }], guard := some (26, false) }) (v := undef) rfl (by kernel_rfl) (by kernel_rfl) (by kernel_rfl) (fun _ _ _ h => h) (Or.inr ⟨by rfl, rfl⟩) (by assumption) ?rest30
  try simp only [Act.put, List.setIfInBounds_toArray, List.set_cons_zero, List.set_cons_succ]
  refine wpAnyH_take (i := 31) (oi := { dst := some 69, op := Op.binOp BinOp.neq 3 (Operand.tmp 67) (Operand.tmp 68) 3, type := 4, pos := "law.go:56", after := #[{ on := 29, ground := Ground.data }, { on := 30, ground := Ground.data }, { on := 26, ground := Ground.guard }], guard := some (26, false) }) (v := undef) rfl (by kernel_rfl) (by kernel_rfl) (by kernel_rfl) (fun _ _ _ h => h) (Or.inr ⟨by rfl, rfl⟩) (by assumption) ?rest31
  try simp only [Act.put, List.setIfInBounds_toArray, List.set_cons_zero, List.set_cons_succ]
  refine wpAnyH_take (i := 32) (oi := { dst := some 70, op := Op.pick (Operand.tmp 64) (Operand.const (Value.bool true)) (Operand.tmp 69), type := 4, pos := "law.go:56", after := #[{ on := 26, ground := Ground.data }, { on := 31, ground := Ground.data }, { on := 22, ground := Ground.guard }], guard := some (22, true) }) (v := undef) rfl (by kernel_rfl) (by kernel_rfl) (by kernel_rfl) (fun _ _ _ h => h) (Or.inr ⟨by rfl, rfl⟩) (by assumption) ?rest32
  try simp only [Act.put, List.setIfInBounds_toArray, List.set_cons_zero, List.set_cons_succ]
  refine wpAnyH_take (i := 33) (oi := { dst := some 71, op := Op.move (Operand.tmp 70), type := 4, pos := "law.go:56", after := #[{ on := 32, ground := Ground.data }, { on := 28, ground := Ground.chain }, { on := 22, ground := Ground.guard }], guard := some (22, true) }) (v := undef) rfl (by kernel_rfl) (by kernel_rfl) (by kernel_rfl) (fun _ _ _ h => h) (Or.inr ⟨by rfl, rfl⟩) (by assumption) ?rest33
  try simp only [Act.put, List.setIfInBounds_toArray, List.set_cons_zero, List.set_cons_succ]
  refine wpAnyH_take (i := 34) (oi := { dst := some 72, op := Op.move (Operand.tmp 10), type := 41, pos := "law.go:56", after := #[{ on := 33, ground := Ground.guard }], guard := some (33, false) }) (v := undef) rfl (by kernel_rfl) (by kernel_rfl) (by kernel_rfl) (fun _ _ _ h => h) (Or.inr ⟨by rfl, rfl⟩) (by assumption) ?rest34
  try simp only [Act.put, List.setIfInBounds_toArray, List.set_cons_zero, List.set_cons_succ]
  refine wpAnyH_take (i := 35) (oi := { dst := some 73, op := Op.call { callee := Callee.value (Operand.func 30), args := #[Operand.tmp 72], argTypes := #[41] }, type := 57, pos := "law.go:56", after := #[{ on := 34, ground := Ground.data }, { on := 33, ground := Ground.chain }, { on := 33, ground := Ground.guard }], guard := some (33, false) }) (v := undef) rfl (by kernel_rfl) (by kernel_rfl) (by kernel_rfl) (fun _ _ _ h => h) (Or.inr ⟨by rfl, rfl⟩) (by assumption) ?rest35
  try simp only [Act.put, List.setIfInBounds_toArray, List.set_cons_zero, List.set_cons_succ]
  refine wpAnyH_take (i := 36) (oi := { dst := some 74, op := Op.field 57 (Operand.tmp 73) 1, type := 3, pos := "law.go:56", after := #[{ on := 35, ground := Ground.data }, { on := 33, ground := Ground.guard }], guard := some (33, false) }) (v := undef) rfl (by kernel_rfl) (by kernel_rfl) (by kernel_rfl) (fun _ _ _ h => h) (Or.inr ⟨by rfl, rfl⟩) (by assumption) ?rest36
  try simp only [Act.put, List.setIfInBounds_toArray, List.set_cons_zero, List.set_cons_succ]
  refine wpAnyH_take (i := 37) (oi := { dst := some 75, op := Op.fieldAddr 57 (Operand.tmp 13) 1, type := 0, pos := "law.go:56", after := #[{ on := 33, ground := Ground.guard }], guard := some (33, false) }) (v := undef) rfl (by kernel_rfl) (by kernel_rfl) (by kernel_rfl) (fun _ _ _ h => h) (Or.inr ⟨by rfl, rfl⟩) (by assumption) ?rest37
  try simp only [Act.put, List.setIfInBounds_toArray, List.set_cons_zero, List.set_cons_succ]
  refine wpAnyH_take (i := 38) (oi := { dst := some 76, op := Op.load 3 (Operand.tmp 75), type := 3, pos := "law.go:56", after := #[{ on := 37, ground := Ground.data }, { on := 33, ground := Ground.guard }], guard := some (33, false) }) (v := undef) rfl (by kernel_rfl) (by kernel_rfl) (by kernel_rfl) (fun _ _ _ h => h) (Or.inr ⟨by rfl, rfl⟩) (by assumption) ?rest38
  try simp only [Act.put, List.setIfInBounds_toArray, List.set_cons_zero, List.set_cons_succ]
  refine wpAnyH_take (i := 39) (oi := { dst := some 77, op := Op.binOp BinOp.add 3 (Operand.tmp 76) (Operand.const (Value.int IntKind.i64 1)) 3, type := 3, pos := "law.go:56", after := #[{ on := 38, ground := Ground.data }, { on := 33, ground := Ground.guard }], guard := some (33, false) }) (v := undef) rfl (by kernel_rfl) (by kernel_rfl) (by kernel_rfl) (fun _ _ _ h => h) (Or.inr ⟨by rfl, rfl⟩) (by assumption) ?rest39
  try simp only [Act.put, List.setIfInBounds_toArray, List.set_cons_zero, List.set_cons_succ]
  refine wpAnyH_take (i := 40) (oi := { dst := some 78, op := Op.binOp BinOp.neq 3 (Operand.tmp 74) (Operand.tmp 77) 3, type := 4, pos := "law.go:56", after := #[{ on := 36, ground := Ground.data }, { on := 39, ground := Ground.data }, { on := 33, ground := Ground.guard }], guard := some (33, false) }) (v := undef) rfl (by kernel_rfl) (by kernel_rfl) (by kernel_rfl) (fun _ _ _ h => h) (Or.inr ⟨by rfl, rfl⟩) (by assumption) ?rest40
  try simp only [Act.put, List.setIfInBounds_toArray, List.set_cons_zero, List.set_cons_succ]
  refine wpAnyH_take (i := 41) (oi := { dst := some 79, op := Op.pick (Operand.tmp 71) (Operand.const (Value.bool true)) (Operand.tmp 78), type := 4, pos := "law.go:56", after := #[{ on := 33, ground := Ground.data }, { on := 40, ground := Ground.data }, { on := 22, ground := Ground.guard }], guard := some (22, true) }) (v := undef) rfl (by kernel_rfl) (by kernel_rfl) (by kernel_rfl) (fun _ _ _ h => h) (Or.inr ⟨by rfl, rfl⟩) (by assumption) ?rest41
  try simp only [Act.put, List.setIfInBounds_toArray, List.set_cons_zero, List.set_cons_succ]
  refine wpAnyH_take (i := 42) (oi := { dst := some 80, op := Op.pick (Operand.tmp 60) (Operand.tmp 79) (Operand.const (Value.bool false)), type := 4, pos := "law.go:56", after := #[{ on := 22, ground := Ground.data }, { on := 41, ground := Ground.data }, { on := 18, ground := Ground.guard }], guard := some (18, false) }) (v := ?v42) rfl (by kernel_rfl) (by kernel_rfl) (by kernel_rfl) (fun _ _ _ h => h) (Or.inl ⟨by rfl, ?hy42⟩) (by assumption) ?rest42
  case hy42 => first | (intro w hSw; (try dsimp only at hSw); go_simp; done) | (intro w hSw; (try dsimp only at hSw); go_simp; with_reducible rfl)
  try simp only [Act.put, List.setIfInBounds_toArray, List.set_cons_zero, List.set_cons_succ]
  refine wpAnyH_take (i := 43) (oi := { dst := some 81, op := Op.pick (Operand.tmp 56) (Operand.const (Value.bool true)) (Operand.tmp 80), type := 4, pos := "law.go:56", after := #[{ on := 18, ground := Ground.data }, { on := 42, ground := Ground.data }], guard := none }) (v := ?v43) rfl (by kernel_rfl) (by kernel_rfl) (by kernel_rfl) (fun _ _ _ h => h) (Or.inl ⟨by rfl, ?hy43⟩) (by assumption) ?rest43
  case hy43 => first | (intro w hSw; (try dsimp only at hSw); go_simp; done) | (intro w hSw; (try dsimp only at hSw); go_simp; with_reducible rfl)
  try simp only [Act.put, List.setIfInBounds_toArray, List.set_cons_zero, List.set_cons_succ]
  refine wpAnyH_done (by kernel_rfl) ?_ _
  all_goals
    replace hbl := held5_end (w := w) (by assumption)
    go_wp2_with (first
      | (go_at_call 29; (with_reducible refine (cG _).mono ?_); rintro r w3 ⟨rfl, hb⟩; replace hbl := via (w := w) hbl hb; clear hb)
      | (go_at_call 28; (with_reducible refine (cN _).mono ?_); rintro r w3 ⟨rfl, hb⟩; replace hbl := via (w := w) hbl hb; clear hb)
      | (go_at_call 30; (first | (with_reducible refine (ua _).mono ?_) | (with_reducible refine (ug _).mono ?_)); rintro r w3 ⟨rfl, hb⟩; replace hbl := via (w := w) hbl hb; clear hb))
    go_ret
    exact ⟨rfl, hbl⟩

end Go.Proofs.YtbhnbjaafejcjaaDoor

