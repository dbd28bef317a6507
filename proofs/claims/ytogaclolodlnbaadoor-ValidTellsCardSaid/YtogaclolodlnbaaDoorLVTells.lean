/- ValidTells: words are looked at as the document says. -/
import Derived.Test.YtogaclolodlnbaaDoorLVEnds
import Derived.Test.YtogaclolodlnbaaDoorRCheck
import Derived.Test.YtogaclolodlnbaaDoorWord
import Derived.Test.YtogaclolodlnbaaDoorGe
set_option linter.unusedVariables false
set_option linter.unusedSimpArgs false
namespace Go.Proofs.YtogaclolodlnbaaDoor
section SLVTells
open Go.RowKit

set_option maxRecDepth 100000 in
set_option maxHeartbeats 8000000 in
theorem tells_any {s : Schema} {ws : List (BitVec 64)} {sv wv : Value} {w : World} (hl : LaidE w) (hs : Sch w sv s) (hw : Row w 1 wv ws.length (ws.map U)) :
    Calls Tryd.prog 32 #[sv, wv] w fun r w' => r = .returned (.bool true) ∧ Below w.heap.size w w' := by
  have hchk := vcheck_any s ws sv wv w hs hw
  have hrc := hid fun W (hW : Below w.heap.size w W) => rcheck_any s ws sv wv W (hs.below hW (Nat.le_refl _)) (hw.below hW (Nat.le_refl _))
  have hvi := hid fun W (hW : Below w.heap.size w W) => vvisits_any s ws sv wv W (hs.below hW (Nat.le_refl _)) (hw.below hW (Nat.le_refl _))
  have hla := hid fun W (hW : Below w.heap.size w W) => LaidE.below hl hW (LaidE.pos hl)
  obtain ⟨⟨e, p, n⟩, hA⟩ : ∃ r, allW s ws = r := ⟨_, rfl⟩
  rw [hA] at hchk hrc hvi
  unfold lookC at hrc
  simp only at hchk hrc hvi
  obtain ⟨pd, hpd⟩ : ∃ pd : Int, ((p.getD 0 : Nat) : Int) = pd := ⟨_, rfl⟩
  obtain ⟨ps, hps⟩ : ∃ ps, p.isSome = ps := ⟨_, rfl⟩
  have hword := hid fun (u : Value) (W : World) (hE : ErrW W u e p) => word_errW hE
  rw [hpd, hps] at hrc hword
  have hee : (e == e) = true := by simp
  have hpp : (pd == pd) = true := by simp
  have hnn : ((n : Int) == (n : Int)) = true := by simp
  clear hs hw hl hA hpd
  cases ps with
  | false =>
    go_enter Tryd.func32, Tryd.ntmps32
    go_wp2_with fail
    ((refine hchk.mono ?_); rintro r w1 ⟨u, rfl, hE, hb1⟩)
    go_wp2_with fail
    ((refine (hrc.out w1 hb1).mono ?_); rintro r w2 ⟨rfl, hb2⟩)
    obtain ⟨w3, hw3, hb3, hlt3, hbox⟩ := boxed w2 #[.int .i64 e, .int .i64 pd, .bool false, .int .i64 (n : Int)] 109
    have hb23 := via hb2 hb3
    have hb13 := via hb1 hb23
    go_wp2_with fail
    ((refine (hword.out u w3 (hE.below hb23)).mono ?_); rintro r w4 ⟨rfl, hb4⟩)
    have y0 := (hb4.cell (p := ⟨w2.heap.size, 0, none⟩) hlt3).trans (hbox 0)
    have y1 := (hb4.cell (p := ⟨w2.heap.size, 1, none⟩) hlt3).trans (hbox 1)
    have y2 := (hb4.cell (p := ⟨w2.heap.size, 2, none⟩) hlt3).trans (hbox 2)
    have y3 := (hb4.cell (p := ⟨w2.heap.size, 3, none⟩) hlt3).trans (hbox 3)
    simp only [List.getElem?_toArray, List.getElem?_cons_succ, List.getElem?_cons_zero] at y0 y1 y2 y3
    have hlt4 := Nat.lt_of_lt_of_le hlt3 hb4.size
    have hb24 := via hb23 hb4
    have hb14 := via hb1 hb24
    have HTop := hid fun W (hW : Below w4.heap.size w4 W) => top_errW (hla.out W (via hb14 hW)) (hE.below (via hb24 hW))
    have HVi := hid fun W (hW : Below w4.heap.size w4 W) => hvi.out W (via hb14 hW)
    clear hw3 hbox
    go_wp2_with fail
    refine wp_region_held_drew (S := (fun W => W.cell? ⟨w2.heap.size, 0, none⟩ = some (.int .i64 e) ∧ W.cell? ⟨w2.heap.size, 1, none⟩ = some (.int .i64 pd) ∧ W.cell? ⟨w2.heap.size, 2, none⟩ = some (.bool false) ∧ W.cell? ⟨w2.heap.size, 3, none⟩ = some (.int .i64 (n : Int)) ∧ w2.heap.size < W.heap.size ∧ Below w4.heap.size w4 W)) (by kernel_rfl) ?_ (fun hHeld => ?_)
    · exact ⟨y0, y1, y2, y3, hlt4, below_drewN _ _ 1⟩
    refine wpAnyH_take (i := 0) (oi := { dst := some 20, op := Op.move (Operand.tmp 5), type := 34, pos := "law.go:84", after := #[], guard := none }) (v := ?vtf0) rfl (by kernel_rfl) (by kernel_rfl) (by kernel_rfl) (fun _ _ _ h => h) (Or.inl ⟨by rfl, ?hytf0⟩) (by assumption) ?resttf0
    case hytf0 => first | (intro w hSw; (try dsimp only at hSw); go_simp; done) | (intro w hSw; (try dsimp only at hSw); go_simp; with_reducible rfl)
    try simp only [Act.put, List.setIfInBounds_toArray, List.set_cons_zero, List.set_cons_succ]
    refine wpAnyH_take (i := 2) (oi := { dst := some 22, op := Op.fieldAddr 109 (Operand.tmp 6) 0, type := 0, pos := "law.go:84", after := #[], guard := none }) (v := ?vtf2) rfl (by kernel_rfl) (by kernel_rfl) (by kernel_rfl) (fun _ _ _ h => h) (Or.inl ⟨by rfl, ?hytf2⟩) (by assumption) ?resttf2
    case hytf2 => first | (intro w hSw; (try dsimp only at hSw); go_simp; done) | (intro w hSw; (try dsimp only at hSw); go_simp; with_reducible rfl)
    try simp only [Act.put, List.setIfInBounds_toArray, List.set_cons_zero, List.set_cons_succ]
    refine wpAnyH_take (i := 3) (oi := { dst := some 23, op := Op.load 31 (Operand.tmp 22), type := 31, pos := "law.go:84", after := #[{ on := 2, ground := Ground.data }], guard := none }) (v := ?vtf3) rfl (by kernel_rfl) (by kernel_rfl) (by kernel_rfl) (fun _ _ _ h => h) (Or.inl ⟨by rfl, ?hytf3⟩) (by assumption) ?resttf3
    case hytf3 => first | (intro w hSw; (try dsimp only at hSw); go_simp; done) | (intro w hSw; (try dsimp only at hSw); go_simp; with_reducible rfl)
    try simp only [Act.put, List.setIfInBounds_toArray, List.set_cons_zero, List.set_cons_succ]
    refine wpAnyH_ready (rs := [1]) (by kernel_rfl) (by simp) ?_
    refine AllReadyH.cons (o := { dst := some 21, op := Op.call { callee := Callee.value (Operand.func 18), args := #[Operand.tmp 20], argTypes := #[34] }, type := 31, pos := "law.go:84", after := #[{ on := 0, ground := Ground.data }], guard := none }) rfl (fun K hK => ?_) AllReadyH.nil
    go_simp
    ((refine (HTop.out _ (below_drewN _ _ 1)).mono ?_); rintro r w5 ⟨rfl, hb5⟩)
    have hr5 := (below_drewN w4.heap.size w4 1).trans hb5
    refine hK.out _ _ ?_ (fun hHeld => ?_)
    · exact held4 (w := w4) (W := w4.drewN 1) ⟨y0, y1, y2, y3, hlt4, below_drewN _ _ 1⟩ hb5
    clear hK K
    try simp only [Act.put, List.setIfInBounds_toArray, List.set_cons_zero, List.set_cons_succ]
    refine wpAnyH_take (i := 4) (oi := { dst := some 24, op := Op.binOp BinOp.eql 31 (Operand.tmp 21) (Operand.tmp 23) 31, type := 4, pos := "law.go:84", after := #[{ on := 1, ground := Ground.data }, { on := 3, ground := Ground.data }], guard := none }) (v := ?vtf4) rfl (by kernel_rfl) (by kernel_rfl) (by kernel_rfl) (fun _ _ _ h => h) (Or.inl ⟨by rfl, ?hytf4⟩) (by assumption) ?resttf4
    case hytf4 => first | (intro w hSw; (try dsimp only at hSw); go_simp; done) | (intro w hSw; (try dsimp only at hSw); go_simp; with_reducible rfl)
    try simp only [Act.put, List.setIfInBounds_toArray, List.set_cons_zero, List.set_cons_succ]
    refine wpAnyH_take (i := 5) (oi := { dst := some 25, op := Op.move (Operand.tmp 24), type := 4, pos := "law.go:84", after := #[{ on := 4, ground := Ground.data }, { on := 1, ground := Ground.chain }], guard := none }) (v := ?vtf5) rfl (by kernel_rfl) (by kernel_rfl) (by kernel_rfl) (fun _ _ _ h => h) (Or.inl ⟨by rfl, ?hytf5⟩) (by assumption) ?resttf5
    case hytf5 => first | (intro w hSw; (try dsimp only at hSw); go_simp; done) | (intro w hSw; (try dsimp only at hSw); go_simp; with_reducible rfl)
    try simp only [Act.put, List.setIfInBounds_toArray, List.set_cons_zero, List.set_cons_succ]
    refine wpAnyH_take (i := 6) (oi := { dst := some 26, op := Op.move (Operand.tmp 8), type := 4, pos := "law.go:84", after := #[{ on := 5, ground := Ground.guard }], guard := some (5, true) }) (v := ?vtf6) rfl (by kernel_rfl) (by kernel_rfl) (by kernel_rfl) (fun _ _ _ h => h) (Or.inl ⟨by rfl, ?hytf6⟩) (by assumption) ?resttf6
    case hytf6 => first | (intro w hSw; (try dsimp only at hSw); go_simp; done) | (intro w hSw; (try dsimp only at hSw); go_simp; with_reducible rfl)
    try simp only [Act.put, List.setIfInBounds_toArray, List.set_cons_zero, List.set_cons_succ]
    refine wpAnyH_take (i := 7) (oi := { dst := some 27, op := Op.fieldAddr 109 (Operand.tmp 6) 2, type := 0, pos := "law.go:84", after := #[{ on := 5, ground := Ground.guard }], guard := some (5, true) }) (v := ?vtf7) rfl (by kernel_rfl) (by kernel_rfl) (by kernel_rfl) (fun _ _ _ h => h) (Or.inl ⟨by rfl, ?hytf7⟩) (by assumption) ?resttf7
    case hytf7 => first | (intro w hSw; (try dsimp only at hSw); go_simp; done) | (intro w hSw; (try dsimp only at hSw); go_simp; with_reducible rfl)
    try simp only [Act.put, List.setIfInBounds_toArray, List.set_cons_zero, List.set_cons_succ]
    refine wpAnyH_take (i := 8) (oi := { dst := some 28, op := Op.load 4 (Operand.tmp 27), type := 4, pos := "law.go:84", after := #[{ on := 7, ground := Ground.data }, { on := 5, ground := Ground.guard }], guard := some (5, true) }) (v := ?vtf8) rfl (by kernel_rfl) (by kernel_rfl) (by kernel_rfl) (fun _ _ _ h => h) (Or.inl ⟨by rfl, ?hytf8⟩) (by assumption) ?resttf8
    case hytf8 => first | (intro w hSw; (try dsimp only at hSw); go_simp; done) | (intro w hSw; (try dsimp only at hSw); go_simp; with_reducible rfl)
    try simp only [Act.put, List.setIfInBounds_toArray, List.set_cons_zero, List.set_cons_succ]
    refine wpAnyH_take (i := 9) (oi := { dst := some 29, op := Op.binOp BinOp.eql 4 (Operand.tmp 26) (Operand.tmp 28) 4, type := 4, pos := "law.go:84", after := #[{ on := 6, ground := Ground.data }, { on := 8, ground := Ground.data }, { on := 5, ground := Ground.guard }], guard := some (5, true) }) (v := ?vtf9) rfl (by kernel_rfl) (by kernel_rfl) (by kernel_rfl) (fun _ _ _ h => h) (Or.inl ⟨by rfl, ?hytf9⟩) (by assumption) ?resttf9
    case hytf9 => first | (intro w hSw; (try dsimp only at hSw); go_simp; done) | (intro w hSw; (try dsimp only at hSw); go_simp; with_reducible rfl)
    try simp only [Act.put, List.setIfInBounds_toArray, List.set_cons_zero, List.set_cons_succ]
    refine wpAnyH_take (i := 10) (oi := { dst := some 30, op := Op.pick (Operand.tmp 25) (Operand.tmp 29) (Operand.const (Value.bool false)), type := 4, pos := "law.go:84", after := #[{ on := 5, ground := Ground.data }, { on := 9, ground := Ground.data }], guard := none }) (v := ?vtf10) rfl (by kernel_rfl) (by kernel_rfl) (by kernel_rfl) (fun _ _ _ h => h) (Or.inl ⟨by rfl, ?hytf10⟩) (by assumption) ?resttf10
    case hytf10 => first | (intro w hSw; (try dsimp only at hSw); go_simp; done) | (intro w hSw; (try dsimp only at hSw); go_simp; with_reducible rfl)
    try simp only [Act.put, List.setIfInBounds_toArray, List.set_cons_zero, List.set_cons_succ]
    refine wpAnyH_take (i := 11) (oi := { dst := some 31, op := Op.move (Operand.tmp 30), type := 4, pos := "law.go:84", after := #[{ on := 10, ground := Ground.data }, { on := 5, ground := Ground.chain }], guard := none }) (v := ?vtf11) rfl (by kernel_rfl) (by kernel_rfl) (by kernel_rfl) (fun _ _ _ h => h) (Or.inl ⟨by rfl, ?hytf11⟩) (by assumption) ?resttf11
    case hytf11 => first | (intro w hSw; (try dsimp only at hSw); go_simp; done) | (intro w hSw; (try dsimp only at hSw); go_simp; with_reducible rfl)
    try simp only [Act.put, List.setIfInBounds_toArray, List.set_cons_zero, List.set_cons_succ]
    refine wpAnyH_take (i := 12) (oi := { dst := some 32, op := Op.move (Operand.tmp 8), type := 4, pos := "law.go:84", after := #[{ on := 11, ground := Ground.guard }], guard := some (11, true) }) (v := ?vtf12) rfl (by kernel_rfl) (by kernel_rfl) (by kernel_rfl) (fun _ _ _ h => h) (Or.inl ⟨by rfl, ?hytf12⟩) (by assumption) ?resttf12
    case hytf12 => first | (intro w hSw; (try dsimp only at hSw); go_simp; done) | (intro w hSw; (try dsimp only at hSw); go_simp; with_reducible rfl)
    try simp only [Act.put, List.setIfInBounds_toArray, List.set_cons_zero, List.set_cons_succ]
    refine wpAnyH_take (i := 13) (oi := { dst := some 33, op := Op.unOp UnOp.not 4 (Operand.tmp 32), type := 4, pos := "law.go:84", after := #[{ on := 12, ground := Ground.data }, { on := 11, ground := Ground.guard }], guard := some (11, true) }) (v := ?vtf13) rfl (by kernel_rfl) (by kernel_rfl) (by kernel_rfl) (fun _ _ _ h => h) (Or.inl ⟨by rfl, ?hytf13⟩) (by assumption) ?resttf13
    case hytf13 => first | (intro w hSw; (try dsimp only at hSw); go_simp; done) | (intro w hSw; (try dsimp only at hSw); go_simp; with_reducible rfl)
    try simp only [Act.put, List.setIfInBounds_toArray, List.set_cons_zero, List.set_cons_succ]
    refine wpAnyH_take (i := 14) (oi := { dst := some 34, op := Op.move (Operand.tmp 33), type := 4, pos := "law.go:84", after := #[{ on := 13, ground := Ground.data }, { on := 11, ground := Ground.chain }, { on := 11, ground := Ground.guard }], guard := some (11, true) }) (v := ?vtf14) rfl (by kernel_rfl) (by kernel_rfl) (by kernel_rfl) (fun _ _ _ h => h) (Or.inl ⟨by rfl, ?hytf14⟩) (by assumption) ?resttf14
    case hytf14 => first | (intro w hSw; (try dsimp only at hSw); go_simp; done) | (intro w hSw; (try dsimp only at hSw); go_simp; with_reducible rfl)
    try simp only [Act.put, List.setIfInBounds_toArray, List.set_cons_zero, List.set_cons_succ]
    refine wpAnyH_take (i := 15) (oi := { dst := some 35, op := Op.move (Operand.tmp 7), type := 3, pos := "law.go:84", after := #[{ on := 14, ground := Ground.guard }], guard := some (14, false) }) (v := undef) rfl (by kernel_rfl) (by kernel_rfl) (by kernel_rfl) (fun _ _ _ h => h) (Or.inr ⟨by rfl, rfl⟩) (by assumption) ?resttf15
    try simp only [Act.put, List.setIfInBounds_toArray, List.set_cons_zero, List.set_cons_succ]
    refine wpAnyH_take (i := 16) (oi := { dst := some 36, op := Op.fieldAddr 109 (Operand.tmp 6) 1, type := 0, pos := "law.go:84", after := #[{ on := 14, ground := Ground.guard }], guard := some (14, false) }) (v := undef) rfl (by kernel_rfl) (by kernel_rfl) (by kernel_rfl) (fun _ _ _ h => h) (Or.inr ⟨by rfl, rfl⟩) (by assumption) ?resttf16
    try simp only [Act.put, List.setIfInBounds_toArray, List.set_cons_zero, List.set_cons_succ]
    refine wpAnyH_take (i := 17) (oi := { dst := some 37, op := Op.load 3 (Operand.tmp 36), type := 3, pos := "law.go:84", after := #[{ on := 16, ground := Ground.data }, { on := 14, ground := Ground.guard }], guard := some (14, false) }) (v := undef) rfl (by kernel_rfl) (by kernel_rfl) (by kernel_rfl) (fun _ _ _ h => h) (Or.inr ⟨by rfl, rfl⟩) (by assumption) ?resttf17
    try simp only [Act.put, List.setIfInBounds_toArray, List.set_cons_zero, List.set_cons_succ]
    refine wpAnyH_take (i := 18) (oi := { dst := some 38, op := Op.binOp BinOp.eql 3 (Operand.tmp 35) (Operand.tmp 37) 3, type := 4, pos := "law.go:84", after := #[{ on := 15, ground := Ground.data }, { on := 17, ground := Ground.data }, { on := 14, ground := Ground.guard }], guard := some (14, false) }) (v := undef) rfl (by kernel_rfl) (by kernel_rfl) (by kernel_rfl) (fun _ _ _ h => h) (Or.inr ⟨by rfl, rfl⟩) (by assumption) ?resttf18
    try simp only [Act.put, List.setIfInBounds_toArray, List.set_cons_zero, List.set_cons_succ]
    refine wpAnyH_take (i := 19) (oi := { dst := some 39, op := Op.pick (Operand.tmp 34) (Operand.const (Value.bool true)) (Operand.tmp 38), type := 4, pos := "law.go:84", after := #[{ on := 14, ground := Ground.data }, { on := 18, ground := Ground.data }, { on := 11, ground := Ground.guard }], guard := some (11, true) }) (v := ?vtf19) rfl (by kernel_rfl) (by kernel_rfl) (by kernel_rfl) (fun _ _ _ h => h) (Or.inl ⟨by rfl, ?hytf19⟩) (by assumption) ?resttf19
    case hytf19 => first | (intro w hSw; (try dsimp only at hSw); go_simp; done) | (intro w hSw; (try dsimp only at hSw); go_simp; with_reducible rfl)
    try simp only [Act.put, List.setIfInBounds_toArray, List.set_cons_zero, List.set_cons_succ]
    refine wpAnyH_take (i := 20) (oi := { dst := some 40, op := Op.pick (Operand.tmp 31) (Operand.tmp 39) (Operand.const (Value.bool false)), type := 4, pos := "law.go:84", after := #[{ on := 11, ground := Ground.data }, { on := 19, ground := Ground.data }], guard := none }) (v := ?vtf20) rfl (by kernel_rfl) (by kernel_rfl) (by kernel_rfl) (fun _ _ _ h => h) (Or.inl ⟨by rfl, ?hytf20⟩) (by assumption) ?resttf20
    case hytf20 => first | (intro w hSw; (try dsimp only at hSw); go_simp; done) | (intro w hSw; (try dsimp only at hSw); go_simp; with_reducible rfl)
    try simp only [Act.put, List.setIfInBounds_toArray, List.set_cons_zero, List.set_cons_succ]
    refine wpAnyH_take (i := 21) (oi := { dst := some 41, op := Op.move (Operand.tmp 40), type := 4, pos := "law.go:84", after := #[{ on := 20, ground := Ground.data }, { on := 14, ground := Ground.chain }], guard := none }) (v := ?vtf21) rfl (by kernel_rfl) (by kernel_rfl) (by kernel_rfl) (fun _ _ _ h => h) (Or.inl ⟨by rfl, ?hytf21⟩) (by assumption) ?resttf21
    case hytf21 => first | (intro w hSw; (try dsimp only at hSw); go_simp; done) | (intro w hSw; (try dsimp only at hSw); go_simp; with_reducible rfl)
    try simp only [Act.put, List.setIfInBounds_toArray, List.set_cons_zero, List.set_cons_succ]
    refine wpAnyH_take (i := 22) (oi := { dst := some 42, op := Op.move (Operand.tmp 0), type := 27, pos := "law.go:84", after := #[{ on := 21, ground := Ground.guard }], guard := some (21, true) }) (v := ?vtf22) rfl (by kernel_rfl) (by kernel_rfl) (by kernel_rfl) (fun _ _ _ h => h) (Or.inl ⟨by rfl, ?hytf22⟩) (by assumption) ?resttf22
    case hytf22 => first | (intro w hSw; (try dsimp only at hSw); go_simp; done) | (intro w hSw; (try dsimp only at hSw); go_simp; with_reducible rfl)
    try simp only [Act.put, List.setIfInBounds_toArray, List.set_cons_zero, List.set_cons_succ]
    refine wpAnyH_take (i := 23) (oi := { dst := some 43, op := Op.move (Operand.tmp 1), type := 28, pos := "law.go:84", after := #[{ on := 21, ground := Ground.guard }], guard := some (21, true) }) (v := ?vtf23) rfl (by kernel_rfl) (by kernel_rfl) (by kernel_rfl) (fun _ _ _ h => h) (Or.inl ⟨by rfl, ?hytf23⟩) (by assumption) ?resttf23
    case hytf23 => first | (intro w hSw; (try dsimp only at hSw); go_simp; done) | (intro w hSw; (try dsimp only at hSw); go_simp; with_reducible rfl)
    try simp only [Act.put, List.setIfInBounds_toArray, List.set_cons_zero, List.set_cons_succ]
    refine wpAnyH_take (i := 25) (oi := { dst := some 45, op := Op.fieldAddr 109 (Operand.tmp 6) 3, type := 0, pos := "law.go:84", after := #[{ on := 21, ground := Ground.guard }], guard := some (21, true) }) (v := ?vtf25) rfl (by kernel_rfl) (by kernel_rfl) (by kernel_rfl) (fun _ _ _ h => h) (Or.inl ⟨by rfl, ?hytf25⟩) (by assumption) ?resttf25
    case hytf25 => first | (intro w hSw; (try dsimp only at hSw); go_simp; done) | (intro w hSw; (try dsimp only at hSw); go_simp; with_reducible rfl)
    try simp only [Act.put, List.setIfInBounds_toArray, List.set_cons_zero, List.set_cons_succ]
    refine wpAnyH_take (i := 26) (oi := { dst := some 46, op := Op.load 3 (Operand.tmp 45), type := 3, pos := "law.go:84", after := #[{ on := 25, ground := Ground.data }, { on := 21, ground := Ground.guard }], guard := some (21, true) }) (v := ?vtf26) rfl (by kernel_rfl) (by kernel_rfl) (by kernel_rfl) (fun _ _ _ h => h) (Or.inl ⟨by rfl, ?hytf26⟩) (by assumption) ?resttf26
    case hytf26 => first | (intro w hSw; (try dsimp only at hSw); go_simp; done) | (intro w hSw; (try dsimp only at hSw); go_simp; with_reducible rfl)
    try simp only [Act.put, List.setIfInBounds_toArray, List.set_cons_zero, List.set_cons_succ]
    refine wpAnyH_ready (rs := [24]) (by kernel_rfl) (by simp) ?_
    refine AllReadyH.cons (o := { dst := some 44, op := Op.call { callee := Callee.value (Operand.func 20), args := #[Operand.tmp 42, Operand.tmp 43], argTypes := #[27, 28] }, type := 3, pos := "law.go:84", after := #[{ on := 22, ground := Ground.data }, { on := 23, ground := Ground.data }, { on := 21, ground := Ground.chain }, { on := 21, ground := Ground.guard }], guard := some (21, true) }) rfl (fun K hK => ?_) AllReadyH.nil
    go_simp
    ((refine (HVi.out _ hr5).mono ?_); rintro r w6 ⟨rfl, hb6⟩)
    refine hK.out _ _ ?_ (fun hHeld => ?_)
    · exact held4 (w := w4) (W := w5) (held4 (w := w4) (W := w4.drewN 1) ⟨y0, y1, y2, y3, hlt4, below_drewN _ _ 1⟩ hb5) hb6
    clear hK K
    try simp only [Act.put, List.setIfInBounds_toArray, List.set_cons_zero, List.set_cons_succ]
    refine wpAnyH_take (i := 27) (oi := { dst := some 47, op := Op.binOp BinOp.eql 3 (Operand.tmp 44) (Operand.tmp 46) 3, type := 4, pos := "law.go:84", after := #[{ on := 24, ground := Ground.data }, { on := 26, ground := Ground.data }, { on := 21, ground := Ground.guard }], guard := some (21, true) }) (v := ?vtf27) rfl (by kernel_rfl) (by kernel_rfl) (by kernel_rfl) (fun _ _ _ h => h) (Or.inl ⟨by rfl, ?hytf27⟩) (by assumption) ?resttf27
    case hytf27 => first | (intro w hSw; (try dsimp only at hSw); go_simp; done) | (intro w hSw; (try dsimp only at hSw); go_simp; with_reducible rfl)
    try simp only [Act.put, List.setIfInBounds_toArray, List.set_cons_zero, List.set_cons_succ]
    refine wpAnyH_take (i := 28) (oi := { dst := some 48, op := Op.pick (Operand.tmp 41) (Operand.tmp 47) (Operand.const (Value.bool false)), type := 4, pos := "law.go:84", after := #[{ on := 21, ground := Ground.data }, { on := 27, ground := Ground.data }], guard := none }) (v := ?vtf28) rfl (by kernel_rfl) (by kernel_rfl) (by kernel_rfl) (fun _ _ _ h => h) (Or.inl ⟨by rfl, ?hytf28⟩) (by assumption) ?resttf28
    case hytf28 => first | (intro w hSw; (try dsimp only at hSw); go_simp; done) | (intro w hSw; (try dsimp only at hSw); go_simp; with_reducible rfl)
    try simp only [Act.put, List.setIfInBounds_toArray, List.set_cons_zero, List.set_cons_succ]
    refine wpAnyH_take (i := 29) (oi := { dst := some 4, op := Op.assign (Operand.tmp 48), type := 4, pos := "law.go:84", after := #[{ on := 28, ground := Ground.data }, { on := 24, ground := Ground.chain }, { on := 0, ground := Ground.phase }, { on := 1, ground := Ground.phase }, { on := 2, ground := Ground.phase }, { on := 3, ground := Ground.phase }, { on := 4, ground := Ground.phase }, { on := 5, ground := Ground.phase }, { on := 6, ground := Ground.phase }, { on := 7, ground := Ground.phase }, { on := 8, ground := Ground.phase }, { on := 9, ground := Ground.phase }, { on := 10, ground := Ground.phase }, { on := 11, ground := Ground.phase }, { on := 12, ground := Ground.phase }, { on := 13, ground := Ground.phase }, { on := 14, ground := Ground.phase }, { on := 15, ground := Ground.phase }, { on := 16, ground := Ground.phase }, { on := 17, ground := Ground.phase }, { on := 18, ground := Ground.phase }, { on := 19, ground := Ground.phase }, { on := 20, ground := Ground.phase }, { on := 21, ground := Ground.phase }, { on := 22, ground := Ground.phase }, { on := 23, ground := Ground.phase }, { on := 24, ground := Ground.phase }, { on := 25, ground := Ground.phase }, { on := 26, ground := Ground.phase }, { on := 27, ground := Ground.phase }, { on := 28, ground := Ground.phase }], guard := none }) (v := ?vtf29) rfl (by kernel_rfl) (by kernel_rfl) (by kernel_rfl) (fun _ _ _ h => h) (Or.inl ⟨by rfl, ?hytf29⟩) (by assumption) ?resttf29
    case hytf29 => first | (intro w hSw; (try dsimp only at hSw); go_simp; done) | (intro w hSw; (try dsimp only at hSw); go_simp; with_reducible rfl)
    try simp only [Act.put, List.setIfInBounds_toArray, List.set_cons_zero, List.set_cons_succ]
    refine wpAnyH_done (by kernel_rfl) ?_ _
    go_wp2_with fail
    go_returns
    exact ⟨rfl, via (hb14.trans (hr5.mono hb14.size)) hb6⟩
  | true =>
    go_enter Tryd.func32, Tryd.ntmps32
    go_wp2_with fail
    ((refine hchk.mono ?_); rintro r w1 ⟨u, rfl, hE, hb1⟩)
    go_wp2_with fail
    ((refine (hrc.out w1 hb1).mono ?_); rintro r w2 ⟨rfl, hb2⟩)
    obtain ⟨w3, hw3, hb3, hlt3, hbox⟩ := boxed w2 #[.int .i64 e, .int .i64 pd, .bool true, .int .i64 (n : Int)] 109
    have hb23 := via hb2 hb3
    have hb13 := via hb1 hb23
    go_wp2_with fail
    ((refine (hword.out u w3 (hE.below hb23)).mono ?_); rintro r w4 ⟨rfl, hb4⟩)
    have y0 := (hb4.cell (p := ⟨w2.heap.size, 0, none⟩) hlt3).trans (hbox 0)
    have y1 := (hb4.cell (p := ⟨w2.heap.size, 1, none⟩) hlt3).trans (hbox 1)
    have y2 := (hb4.cell (p := ⟨w2.heap.size, 2, none⟩) hlt3).trans (hbox 2)
    have y3 := (hb4.cell (p := ⟨w2.heap.size, 3, none⟩) hlt3).trans (hbox 3)
    simp only [List.getElem?_toArray, List.getElem?_cons_succ, List.getElem?_cons_zero] at y0 y1 y2 y3
    have hlt4 := Nat.lt_of_lt_of_le hlt3 hb4.size
    have hb24 := via hb23 hb4
    have hb14 := via hb1 hb24
    have HTop := hid fun W (hW : Below w4.heap.size w4 W) => top_errW (hla.out W (via hb14 hW)) (hE.below (via hb24 hW))
    have HVi := hid fun W (hW : Below w4.heap.size w4 W) => hvi.out W (via hb14 hW)
    clear hw3 hbox
    go_wp2_with fail
    refine wp_region_held_drew (S := (fun W => W.cell? ⟨w2.heap.size, 0, none⟩ = some (.int .i64 e) ∧ W.cell? ⟨w2.heap.size, 1, none⟩ = some (.int .i64 pd) ∧ W.cell? ⟨w2.heap.size, 2, none⟩ = some (.bool true) ∧ W.cell? ⟨w2.heap.size, 3, none⟩ = some (.int .i64 (n : Int)) ∧ w2.heap.size < W.heap.size ∧ Below w4.heap.size w4 W)) (by kernel_rfl) ?_ (fun hHeld => ?_)
    · exact ⟨y0, y1, y2, y3, hlt4, below_drewN _ _ 1⟩
    refine wpAnyH_take (i := 0) (oi := { dst := some 20, op := Op.move (Operand.tmp 5), type := 34, pos := "law.go:84", after := #[], guard := none }) (v := ?vtt0) rfl (by kernel_rfl) (by kernel_rfl) (by kernel_rfl) (fun _ _ _ h => h) (Or.inl ⟨by rfl, ?hytt0⟩) (by assumption) ?resttt0
    case hytt0 => first | (intro w hSw; (try dsimp only at hSw); go_simp; done) | (intro w hSw; (try dsimp only at hSw); go_simp; with_reducible rfl)
    try simp only [Act.put, List.setIfInBounds_toArray, List.set_cons_zero, List.set_cons_succ]
    refine wpAnyH_take (i := 2) (oi := { dst := some 22, op := Op.fieldAddr 109 (Operand.tmp 6) 0, type := 0, pos := "law.go:84", after := #[], guard := none }) (v := ?vtt2) rfl (by kernel_rfl) (by kernel_rfl) (by kernel_rfl) (fun _ _ _ h => h) (Or.inl ⟨by rfl, ?hytt2⟩) (by assumption) ?resttt2
    case hytt2 => first | (intro w hSw; (try dsimp only at hSw); go_simp; done) | (intro w hSw; (try dsimp only at hSw); go_simp; with_reducible rfl)
    try simp only [Act.put, List.setIfInBounds_toArray, List.set_cons_zero, List.set_cons_succ]
    refine wpAnyH_take (i := 3) (oi := { dst := some 23, op := Op.load 31 (Operand.tmp 22), type := 31, pos := "law.go:84", after := #[{ on := 2, ground := Ground.data }], guard := none }) (v := ?vtt3) rfl (by kernel_rfl) (by kernel_rfl) (by kernel_rfl) (fun _ _ _ h => h) (Or.inl ⟨by rfl, ?hytt3⟩) (by assumption) ?resttt3
    case hytt3 => first | (intro w hSw; (try dsimp only at hSw); go_simp; done) | (intro w hSw; (try dsimp only at hSw); go_simp; with_reducible rfl)
    try simp only [Act.put, List.setIfInBounds_toArray, List.set_cons_zero, List.set_cons_succ]
    refine wpAnyH_ready (rs := [1]) (by kernel_rfl) (by simp) ?_
    refine AllReadyH.cons (o := { dst := some 21, op := Op.call { callee := Callee.value (Operand.func 18), args := #[Operand.tmp 20], argTypes := #[34] }, type := 31, pos := "law.go:84", after := #[{ on := 0, ground := Ground.data }], guard := none }) rfl (fun K hK => ?_) AllReadyH.nil
    go_simp
    ((refine (HTop.out _ (below_drewN _ _ 1)).mono ?_); rintro r w5 ⟨rfl, hb5⟩)
    have hr5 := (below_drewN w4.heap.size w4 1).trans hb5
    refine hK.out _ _ ?_ (fun hHeld => ?_)
    · exact held4 (w := w4) (W := w4.drewN 1) ⟨y0, y1, y2, y3, hlt4, below_drewN _ _ 1⟩ hb5
    clear hK K
    try simp only [Act.put, List.setIfInBounds_toArray, List.set_cons_zero, List.set_cons_succ]
    refine wpAnyH_take (i := 4) (oi := { dst := some 24, op := Op.binOp BinOp.eql 31 (Operand.tmp 21) (Operand.tmp 23) 31, type := 4, pos := "law.go:84", after := #[{ on := 1, ground := Ground.data }, { on := 3, ground := Ground.data }], guard := none }) (v := ?vtt4) rfl (by kernel_rfl) (by kernel_rfl) (by kernel_rfl) (fun _ _ _ h => h) (Or.inl ⟨by rfl, ?hytt4⟩) (by assumption) ?resttt4
    case hytt4 => first | (intro w hSw; (try dsimp only at hSw); go_simp; done) | (intro w hSw; (try dsimp only at hSw); go_simp; with_reducible rfl)
    try simp only [Act.put, List.setIfInBounds_toArray, List.set_cons_zero, List.set_cons_succ]
    refine wpAnyH_take (i := 5) (oi := { dst := some 25, op := Op.move (Operand.tmp 24), type := 4, pos := "law.go:84", after := #[{ on := 4, ground := Ground.data }, { on := 1, ground := Ground.chain }], guard := none }) (v := ?vtt5) rfl (by kernel_rfl) (by kernel_rfl) (by kernel_rfl) (fun _ _ _ h => h) (Or.inl ⟨by rfl, ?hytt5⟩) (by assumption) ?resttt5
    case hytt5 => first | (intro w hSw; (try dsimp only at hSw); go_simp; done) | (intro w hSw; (try dsimp only at hSw); go_simp; with_reducible rfl)
    try simp only [Act.put, List.setIfInBounds_toArray, List.set_cons_zero, List.set_cons_succ]
    refine wpAnyH_take (i := 6) (oi := { dst := some 26, op := Op.move (Operand.tmp 8), type := 4, pos := "law.go:84", after := #[{ on := 5, ground := Ground.guard }], guard := some (5, true) }) (v := ?vtt6) rfl (by kernel_rfl) (by kernel_rfl) (by kernel_rfl) (fun _ _ _ h => h) (Or.inl ⟨by rfl, ?hytt6⟩) (by assumption) ?resttt6
    case hytt6 => first | (intro w hSw; (try dsimp only at hSw); go_simp; done) | (intro w hSw; (try dsimp only at hSw); go_simp; with_reducible rfl)
    try simp only [Act.put, List.setIfInBounds_toArray, List.set_cons_zero, List.set_cons_succ]
    refine wpAnyH_take (i := 7) (oi := { dst := some 27, op := Op.fieldAddr 109 (Operand.tmp 6) 2, type := 0, pos := "law.go:84", after := #[{ on := 5, ground := Ground.guard }], guard := some (5, true) }) (v := ?vtt7) rfl (by kernel_rfl) (by kernel_rfl) (by kernel_rfl) (fun _ _ _ h => h) (Or.inl ⟨by rfl, ?hytt7⟩) (by assumption) ?resttt7
    case hytt7 => first | (intro w hSw; (try dsimp only at hSw); go_simp; done) | (intro w hSw; (try dsimp only at hSw); go_simp; with_reducible rfl)
    try simp only [Act.put, List.setIfInBounds_toArray, List.set_cons_zero, List.set_cons_succ]
    refine wpAnyH_take (i := 8) (oi := { dst := some 28, op := Op.load 4 (Operand.tmp 27), type := 4, pos := "law.go:84", after := #[{ on := 7, ground := Ground.data }, { on := 5, ground := Ground.guard }], guard := some (5, true) }) (v := ?vtt8) rfl (by kernel_rfl) (by kernel_rfl) (by kernel_rfl) (fun _ _ _ h => h) (Or.inl ⟨by rfl, ?hytt8⟩) (by assumption) ?resttt8
    case hytt8 => first | (intro w hSw; (try dsimp only at hSw); go_simp; done) | (intro w hSw; (try dsimp only at hSw); go_simp; with_reducible rfl)
    try simp only [Act.put, List.setIfInBounds_toArray, List.set_cons_zero, List.set_cons_succ]
    refine wpAnyH_take (i := 9) (oi := { dst := some 29, op := Op.binOp BinOp.eql 4 (Operand.tmp 26) (Operand.tmp 28) 4, type := 4, pos := "law.go:84", after := #[{ on := 6, ground := Ground.data }, { on := 8, ground := Ground.data }, { on := 5, ground := Ground.guard }], guard := some (5, true) }) (v := ?vtt9) rfl (by kernel_rfl) (by kernel_rfl) (by kernel_rfl) (fun _ _ _ h => h) (Or.inl ⟨by rfl, ?hytt9⟩) (by assumption) ?resttt9
    case hytt9 => first | (intro w hSw; (try dsimp only at hSw); go_simp; done) | (intro w hSw; (try dsimp only at hSw); go_simp; with_reducible rfl)
    try simp only [Act.put, List.setIfInBounds_toArray, List.set_cons_zero, List.set_cons_succ]
    refine wpAnyH_take (i := 10) (oi := { dst := some 30, op := Op.pick (Operand.tmp 25) (Operand.tmp 29) (Operand.const (Value.bool false)), type := 4, pos := "law.go:84", after := #[{ on := 5, ground := Ground.data }, { on := 9, ground := Ground.data }], guard := none }) (v := ?vtt10) rfl (by kernel_rfl) (by kernel_rfl) (by kernel_rfl) (fun _ _ _ h => h) (Or.inl ⟨by rfl, ?hytt10⟩) (by assumption) ?resttt10
    case hytt10 => first | (intro w hSw; (try dsimp only at hSw); go_simp; done) | (intro w hSw; (try dsimp only at hSw); go_simp; with_reducible rfl)
    try simp only [Act.put, List.setIfInBounds_toArray, List.set_cons_zero, List.set_cons_succ]
    refine wpAnyH_take (i := 11) (oi := { dst := some 31, op := Op.move (Operand.tmp 30), type := 4, pos := "law.go:84", after := #[{ on := 10, ground := Ground.data }, { on := 5, ground := Ground.chain }], guard := none }) (v := ?vtt11) rfl (by kernel_rfl) (by kernel_rfl) (by kernel_rfl) (fun _ _ _ h => h) (Or.inl ⟨by rfl, ?hytt11⟩) (by assumption) ?resttt11
    case hytt11 => first | (intro w hSw; (try dsimp only at hSw); go_simp; done) | (intro w hSw; (try dsimp only at hSw); go_simp; with_reducible rfl)
    try simp only [Act.put, List.setIfInBounds_toArray, List.set_cons_zero, List.set_cons_succ]
    refine wpAnyH_take (i := 12) (oi := { dst := some 32, op := Op.move (Operand.tmp 8), type := 4, pos := "law.go:84", after := #[{ on := 11, ground := Ground.guard }], guard := some (11, true) }) (v := ?vtt12) rfl (by kernel_rfl) (by kernel_rfl) (by kernel_rfl) (fun _ _ _ h => h) (Or.inl ⟨by rfl, ?hytt12⟩) (by assumption) ?resttt12
    case hytt12 => first | (intro w hSw; (try dsimp only at hSw); go_simp; done) | (intro w hSw; (try dsimp only at hSw); go_simp; with_reducible rfl)
    try simp only [Act.put, List.setIfInBounds_toArray, List.set_cons_zero, List.set_cons_succ]
    refine wpAnyH_take (i := 13) (oi := { dst := some 33, op := Op.unOp UnOp.not 4 (Operand.tmp 32), type := 4, pos := "law.go:84", after := #[{ on := 12, ground := Ground.data }, { on := 11, ground := Ground.guard }], guard := some (11, true) }) (v := ?vtt13) rfl (by kernel_rfl) (by kernel_rfl) (by kernel_rfl) (fun _ _ _ h => h) (Or.inl ⟨by rfl, ?hytt13⟩) (by assumption) ?resttt13
    case hytt13 => first | (intro w hSw; (try dsimp only at hSw); go_simp; done) | (intro w hSw; (try dsimp only at hSw); go_simp; with_reducible rfl)
    try simp only [Act.put, List.setIfInBounds_toArray, List.set_cons_zero, List.set_cons_succ]
    refine wpAnyH_take (i := 14) (oi := { dst := some 34, op := Op.move (Operand.tmp 33), type := 4, pos := "law.go:84", after := #[{ on := 13, ground := Ground.data }, { on := 11, ground := Ground.chain }, { on := 11, ground := Ground.guard }], guard := some (11, true) }) (v := ?vtt14) rfl (by kernel_rfl) (by kernel_rfl) (by kernel_rfl) (fun _ _ _ h => h) (Or.inl ⟨by rfl, ?hytt14⟩) (by assumption) ?resttt14
    case hytt14 => first | (intro w hSw; (try dsimp only at hSw); go_simp; done) | (intro w hSw; (try dsimp only at hSw); go_simp; with_reducible rfl)
    try simp only [Act.put, List.setIfInBounds_toArray, List.set_cons_zero, List.set_cons_succ]
    refine wpAnyH_take (i := 15) (oi := { dst := some 35, op := Op.move (Operand.tmp 7), type := 3, pos := "law.go:84", after := #[{ on := 14, ground := Ground.guard }], guard := some (14, false) }) (v := ?vtt15) rfl (by kernel_rfl) (by kernel_rfl) (by kernel_rfl) (fun _ _ _ h => h) (Or.inl ⟨by rfl, ?hytt15⟩) (by assumption) ?resttt15
    case hytt15 => first | (intro w hSw; (try dsimp only at hSw); go_simp; done) | (intro w hSw; (try dsimp only at hSw); go_simp; with_reducible rfl)
    try simp only [Act.put, List.setIfInBounds_toArray, List.set_cons_zero, List.set_cons_succ]
    refine wpAnyH_take (i := 16) (oi := { dst := some 36, op := Op.fieldAddr 109 (Operand.tmp 6) 1, type := 0, pos := "law.go:84", after := #[{ on := 14, ground := Ground.guard }], guard := some (14, false) }) (v := ?vtt16) rfl (by kernel_rfl) (by kernel_rfl) (by kernel_rfl) (fun _ _ _ h => h) (Or.inl ⟨by rfl, ?hytt16⟩) (by assumption) ?resttt16
    case hytt16 => first | (intro w hSw; (try dsimp only at hSw); go_simp; done) | (intro w hSw; (try dsimp only at hSw); go_simp; with_reducible rfl)
    try simp only [Act.put, List.setIfInBounds_toArray, List.set_cons_zero, List.set_cons_succ]
    refine wpAnyH_take (i := 17) (oi := { dst := some 37, op := Op.load 3 (Operand.tmp 36), type := 3, pos := "law.go:84", after := #[{ on := 16, ground := Ground.data }, { on := 14, ground := Ground.guard }], guard := some (14, false) }) (v := ?vtt17) rfl (by kernel_rfl) (by kernel_rfl) (by kernel_rfl) (fun _ _ _ h => h) (Or.inl ⟨by rfl, ?hytt17⟩) (by assumption) ?resttt17
    case hytt17 => first | (intro w hSw; (try dsimp only at hSw); go_simp; done) | (intro w hSw; (try dsimp only at hSw); go_simp; with_reducible rfl)
    try simp only [Act.put, List.setIfInBounds_toArray, List.set_cons_zero, List.set_cons_succ]
    refine wpAnyH_take (i := 18) (oi := { dst := some 38, op := Op.binOp BinOp.eql 3 (Operand.tmp 35) (Operand.tmp 37) 3, type := 4, pos := "law.go:84", after := #[{ on := 15, ground := Ground.data }, { on := 17, ground := Ground.data }, { on := 14, ground := Ground.guard }], guard := some (14, false) }) (v := ?vtt18) rfl (by kernel_rfl) (by kernel_rfl) (by kernel_rfl) (fun _ _ _ h => h) (Or.inl ⟨by rfl, ?hytt18⟩) (by assumption) ?resttt18
    case hytt18 => first | (intro w hSw; (try dsimp only at hSw); go_simp; done) | (intro w hSw; (try dsimp only at hSw); go_simp; with_reducible rfl)
    try simp only [Act.put, List.setIfInBounds_toArray, List.set_cons_zero, List.set_cons_succ]
    refine wpAnyH_take (i := 19) (oi := { dst := some 39, op := Op.pick (Operand.tmp 34) (Operand.const (Value.bool true)) (Operand.tmp 38), type := 4, pos := "law.go:84", after := #[{ on := 14, ground := Ground.data }, { on := 18, ground := Ground.data }, { on := 11, ground := Ground.guard }], guard := some (11, true) }) (v := ?vtt19) rfl (by kernel_rfl) (by kernel_rfl) (by kernel_rfl) (fun _ _ _ h => h) (Or.inl ⟨by rfl, ?hytt19⟩) (by assumption) ?resttt19
    case hytt19 => first | (intro w hSw; (try dsimp only at hSw); go_simp; done) | (intro w hSw; (try dsimp only at hSw); go_simp; with_reducible rfl)
    try simp only [Act.put, List.setIfInBounds_toArray, List.set_cons_zero, List.set_cons_succ]
    refine wpAnyH_take (i := 20) (oi := { dst := some 40, op := Op.pick (Operand.tmp 31) (Operand.tmp 39) (Operand.const (Value.bool false)), type := 4, pos := "law.go:84", after := #[{ on := 11, ground := Ground.data }, { on := 19, ground := Ground.data }], guard := none }) (v := ?vtt20) rfl (by kernel_rfl) (by kernel_rfl) (by kernel_rfl) (fun _ _ _ h => h) (Or.inl ⟨by rfl, ?hytt20⟩) (by assumption) ?resttt20
    case hytt20 => first | (intro w hSw; (try dsimp only at hSw); go_simp; done) | (intro w hSw; (try dsimp only at hSw); go_simp; with_reducible rfl)
    try simp only [Act.put, List.setIfInBounds_toArray, List.set_cons_zero, List.set_cons_succ]
    refine wpAnyH_take (i := 21) (oi := { dst := some 41, op := Op.move (Operand.tmp 40), type := 4, pos := "law.go:84", after := #[{ on := 20, ground := Ground.data }, { on := 14, ground := Ground.chain }], guard := none }) (v := ?vtt21) rfl (by kernel_rfl) (by kernel_rfl) (by kernel_rfl) (fun _ _ _ h => h) (Or.inl ⟨by rfl, ?hytt21⟩) (by assumption) ?resttt21
    case hytt21 => first | (intro w hSw; (try dsimp only at hSw); go_simp; done) | (intro w hSw; (try dsimp only at hSw); go_simp; with_reducible rfl)
    try simp only [Act.put, List.setIfInBounds_toArray, List.set_cons_zero, List.set_cons_succ]
    refine wpAnyH_take (i := 22) (oi := { dst := some 42, op := Op.move (Operand.tmp 0), type := 27, pos := "law.go:84", after := #[{ on := 21, ground := Ground.guard }], guard := some (21, true) }) (v := ?vtt22) rfl (by kernel_rfl) (by kernel_rfl) (by kernel_rfl) (fun _ _ _ h => h) (Or.inl ⟨by rfl, ?hytt22⟩) (by assumption) ?resttt22
    case hytt22 => first | (intro w hSw; (try dsimp only at hSw); go_simp; done) | (intro w hSw; (try dsimp only at hSw); go_simp; with_reducible rfl)
    try simp only [Act.put, List.setIfInBounds_toArray, List.set_cons_zero, List.set_cons_succ]
    refine wpAnyH_take (i := 23) (oi := { dst := some 43, op := Op.move (Operand.tmp 1), type := 28, pos := "law.go:84", after := #[{ on := 21, ground := Ground.guard }], guard := some (21, true) }) (v := ?vtt23) rfl (by kernel_rfl) (by kernel_rfl) (by kernel_rfl) (fun _ _ _ h => h) (Or.inl ⟨by rfl, ?hytt23⟩) (by assumption) ?resttt23
    case hytt23 => first | (intro w hSw; (try dsimp only at hSw); go_simp; done) | (intro w hSw; (try dsimp only at hSw); go_simp; with_reducible rfl)
    try simp only [Act.put, List.setIfInBounds_toArray, List.set_cons_zero, List.set_cons_succ]
    refine wpAnyH_take (i := 25) (oi := { dst := some 45, op := Op.fieldAddr 109 (Operand.tmp 6) 3, type := 0, pos := "law.go:84", after := #[{ on := 21, ground := Ground.guard }], guard := some (21, true) }) (v := ?vtt25) rfl (by kernel_rfl) (by kernel_rfl) (by kernel_rfl) (fun _ _ _ h => h) (Or.inl ⟨by rfl, ?hytt25⟩) (by assumption) ?resttt25
    case hytt25 => first | (intro w hSw; (try dsimp only at hSw); go_simp; done) | (intro w hSw; (try dsimp only at hSw); go_simp; with_reducible rfl)
    try simp only [Act.put, List.setIfInBounds_toArray, List.set_cons_zero, List.set_cons_succ]
    refine wpAnyH_take (i := 26) (oi := { dst := some 46, op := Op.load 3 (Operand.tmp 45), type := 3, pos := "law.go:84", after := #[{ on := 25, ground := Ground.data }, { on := 21, ground := Ground.guard }], guard := some (21, true) }) (v := ?vtt26) rfl (by kernel_rfl) (by kernel_rfl) (by kernel_rfl) (fun _ _ _ h => h) (Or.inl ⟨by rfl, ?hytt26⟩) (by assumption) ?resttt26
    case hytt26 => first | (intro w hSw; (try dsimp only at hSw); go_simp; done) | (intro w hSw; (try dsimp only at hSw); go_simp; with_reducible rfl)
    try simp only [Act.put, List.setIfInBounds_toArray, List.set_cons_zero, List.set_cons_succ]
    refine wpAnyH_ready (rs := [24]) (by kernel_rfl) (by simp) ?_
    refine AllReadyH.cons (o := { dst := some 44, op := Op.call { callee := Callee.value (Operand.func 20), args := #[Operand.tmp 42, Operand.tmp 43], argTypes := #[27, 28] }, type := 3, pos := "law.go:84", after := #[{ on := 22, ground := Ground.data }, { on := 23, ground := Ground.data }, { on := 21, ground := Ground.chain }, { on := 21, ground := Ground.guard }], guard := some (21, true) }) rfl (fun K hK => ?_) AllReadyH.nil
    go_simp
    ((refine (HVi.out _ hr5).mono ?_); rintro r w6 ⟨rfl, hb6⟩)
    refine hK.out _ _ ?_ (fun hHeld => ?_)
    · exact held4 (w := w4) (W := w5) (held4 (w := w4) (W := w4.drewN 1) ⟨y0, y1, y2, y3, hlt4, below_drewN _ _ 1⟩ hb5) hb6
    clear hK K
    try simp only [Act.put, List.setIfInBounds_toArray, List.set_cons_zero, List.set_cons_succ]
    refine wpAnyH_take (i := 27) (oi := { dst := some 47, op := Op.binOp BinOp.eql 3 (Operand.tmp 44) (Operand.tmp 46) 3, type := 4, pos := "law.go:84", after := #[{ on := 24, ground := Ground.data }, { on := 26, ground := Ground.data }, { on := 21, ground := Ground.guard }], guard := some (21, true) }) (v := ?vtt27) rfl (by kernel_rfl) (by kernel_rfl) (by kernel_rfl) (fun _ _ _ h => h) (Or.inl ⟨by rfl, ?hytt27⟩) (by assumption) ?resttt27
    case hytt27 => first | (intro w hSw; (try dsimp only at hSw); go_simp; done) | (intro w hSw; (try dsimp only at hSw); go_simp; with_reducible rfl)
    try simp only [Act.put, List.setIfInBounds_toArray, List.set_cons_zero, List.set_cons_succ]
    refine wpAnyH_take (i := 28) (oi := { dst := some 48, op := Op.pick (Operand.tmp 41) (Operand.tmp 47) (Operand.const (Value.bool false)), type := 4, pos := "law.go:84", after := #[{ on := 21, ground := Ground.data }, { on := 27, ground := Ground.data }], guard := none }) (v := ?vtt28) rfl (by kernel_rfl) (by kernel_rfl) (by kernel_rfl) (fun _ _ _ h => h) (Or.inl ⟨by rfl, ?hytt28⟩) (by assumption) ?resttt28
    case hytt28 => first | (intro w hSw; (try dsimp only at hSw); go_simp; done) | (intro w hSw; (try dsimp only at hSw); go_simp; with_reducible rfl)
    try simp only [Act.put, List.setIfInBounds_toArray, List.set_cons_zero, List.set_cons_succ]
    refine wpAnyH_take (i := 29) (oi := { dst := some 4, op := Op.assign (Operand.tmp 48), type := 4, pos := "law.go:84", after := #[{ on := 28, ground := Ground.data }, { on := 24, ground := Ground.chain }, { on := 0, ground := Ground.phase }, { on := 1, ground := Ground.phase }, { on := 2, ground := Ground.phase }, { on := 3, ground := Ground.phase }, { on := 4, ground := Ground.phase }, { on := 5, ground := Ground.phase }, { on := 6, ground := Ground.phase }, { on := 7, ground := Ground.phase }, { on := 8, ground := Ground.phase }, { on := 9, ground := Ground.phase }, { on := 10, ground := Ground.phase }, { on := 11, ground := Ground.phase }, { on := 12, ground := Ground.phase }, { on := 13, ground := Ground.phase }, { on := 14, ground := Ground.phase }, { on := 15, ground := Ground.phase }, { on := 16, ground := Ground.phase }, { on := 17, ground := Ground.phase }, { on := 18, ground := Ground.phase }, { on := 19, ground := Ground.phase }, { on := 20, ground := Ground.phase }, { on := 21, ground := Ground.phase }, { on := 22, ground := Ground.phase }, { on := 23, ground := Ground.phase }, { on := 24, ground := Ground.phase }, { on := 25, ground := Ground.phase }, { on := 26, ground := Ground.phase }, { on := 27, ground := Ground.phase }, { on := 28, ground := Ground.phase }], guard := none }) (v := ?vtt29) rfl (by kernel_rfl) (by kernel_rfl) (by kernel_rfl) (fun _ _ _ h => h) (Or.inl ⟨by rfl, ?hytt29⟩) (by assumption) ?resttt29
    case hytt29 => first | (intro w hSw; (try dsimp only at hSw); go_simp; done) | (intro w hSw; (try dsimp only at hSw); go_simp; with_reducible rfl)
    try simp only [Act.put, List.setIfInBounds_toArray, List.set_cons_zero, List.set_cons_succ]
    refine wpAnyH_done (by kernel_rfl) ?_ _
    go_wp2_with fail
    go_returns
    exact ⟨rfl, via (hb14.trans (hr5.mono hb14.size)) hb6⟩
theorem sch_empty (w : World) (n : Nat) : Sch w (.slice (some ⟨n, 0, none⟩) 0 0) [] := ⟨[], ⟨by simp, Nat.zero_le _, _, 0, rfl, Nat.le_refl _, Nat.zero_le _, (fun h => by cases h), fun h => absurd h (by decide)⟩, fun i l h => by simp at h⟩

set_option maxRecDepth 100000 in
set_option maxHeartbeats 16000000 in
theorem vtells_walk (rv : Value) (N : Nat) (rl : List (BitVec 64)) (u v : Value) (T : Int) (tl vl : List Int) (h0 a0 b0 : Int) (x0 : BitVec 64) (h1 a1 b1 : Int) (x1 : BitVec 64) (w : World) (hl : LaidE w) (hraw : Row w 1 rv N (rl.map U)) (hu : Row w 1 u tl.length (tl.map (Value.int .i64))) (hv : Row w 1 v vl.length (vl.map (Value.int .i64)))
    (hub : ∀ z ∈ tl, -9223372036854775808 ≤ z ∧ z ≤ 9223372036854775807) (hvb : ∀ z ∈ vl, -9223372036854775808 ≤ z ∧ z ≤ 9223372036854775807) (hT : -9223372036854775808 ≤ T ∧ T ≤ 9223372036854775807) (hat0 : -9223372036854775808 ≤ a0 ∧ a0 ≤ 9223372036854775807) (hat1 : -9223372036854775808 ≤ a1 ∧ a1 ≤ 9223372036854775807) :
    Calls Tryd.prog 11 #[rv, .agg #[u, v, .int .i64 T], .agg #[.int .i64 h0, .int .i64 a0, .int .i64 b0, U x0, .int .i64 h1, .int .i64 a1, .int .i64 b1, U x1]] w fun r w' => r = .returned (.bool true) ∧ Below w.heap.size w w' := by
  obtain ⟨iU, hiU, hzU, hsU, hbU⟩ := info_parts (show (Tryd.prog.info? 38).map (fun i => (i.zero, i.size, i.bytes)) = some (some (.int .u64 0), 1, 8) by kernel_rfl)
  have hNl : rl.length = N := by have := hraw.len; simpa using this
  obtain ⟨ra, rc, rfl, hrc, hrcm, -⟩ := hraw.open
  unfold maxLen at hrcm
  obtain ⟨au, cu, hue, -⟩ := hu.open
  obtain ⟨av, cv, hve, -⟩ := hv.open
  obtain ⟨w1, hw1, hb1, hlt1, hbox1⟩ := boxed w #[u, v, .int .i64 T] 24
  obtain ⟨w2, hw2, hb2, hlt2, hbox2⟩ := boxed w1 #[.int .i64 h0, .int .i64 a0, .int .i64 b0, U x0, .int .i64 h1, .int .i64 a1, .int .i64 b1, U x1] 69
  have q0 := (hb2.cell hlt1).trans (hbox1 0)
  have q1 := (hb2.cell hlt1).trans (hbox1 1)
  have q2 := (hb2.cell hlt1).trans (hbox1 2)
  have y0 := hbox2 0
  have y1 := hbox2 1
  have y2 := hbox2 2
  have y3 := hbox2 3
  have y4 := hbox2 4
  have y5 := hbox2 5
  have y6 := hbox2 6
  have y7 := hbox2 7
  simp only [List.getElem?_toArray, List.getElem?_cons_succ, List.getElem?_cons_zero] at q0 q1 q2 y0 y1 y2 y3 y4 y5 y6 y7
  have Hbox := hid hbox2
  have hb12 := via hb1 hb2
  have hl2 := LaidE.below hl hb12 (LaidE.pos hl)
  have hspec := hid fun W (hW : Below w.heap.size w W) => spec8_any 4 5 (by omega) rfl u v T tl vl W (hu.below hW (Nat.le_refl _)) (hv.below hW (Nat.le_refl _)) hub hvb hT
  subst hue hve
  have HLaid := hid hl
  have Hraw := hid hraw
  clear hu hv hub hvb hbox1 hbox2 hl hraw
  by_cases h30 : 30 < N
  · have h30' : (30 : Int) < (N : Int) := by omega
    have hrc30 : (30 : Int) ≤ (rc : Int) := by omega
    have hRS := hid fun W (hW : Below w.heap.size w W) => row_cutU (k := 30) (Hraw.out.below hW (Nat.le_refl _)) hNl (by omega)
    clear hNl
    go_enter Tryd.func11, Tryd.ntmps11
    go_wp2_with fail
    ((refine (awake08 _ hl2).mono ?_); rintro r3 w3 ⟨rfl, hb23⟩)
    replace q0 := (hb23.cell (Nat.lt_of_lt_of_le hlt1 hb2.size)).trans q0
    replace q1 := (hb23.cell (Nat.lt_of_lt_of_le hlt1 hb2.size)).trans q1
    replace q2 := (hb23.cell (Nat.lt_of_lt_of_le hlt1 hb2.size)).trans q2
    have hb13 := via hb12 hb23
    clear hw1 hw2
    go_wp2_with fail
    ((refine (hspec.out _ hb13).mono ?_); rintro r4 w4 ⟨sv, wv, s, ws, rfl, hb34, hs, hr, hrow, hmsg⟩)
    have hb14 := via hb13 hb34
    have h200 := (msg_all hr hmsg).1
    have Hs := hid fun W (hW : Below w4.heap.size w4 W) => hs.below hW (Nat.le_refl _)
    have Hw := hid fun W (hW : Below w4.heap.size w4 W) => hrow.below hW (Nat.le_refl _)
    have hl4 := hid fun W (hW : Below w4.heap.size w4 W) => LaidE.below HLaid.out (via hb14 hW) (LaidE.pos HLaid.out)
    have HR := hid fun W (hW : Below w4.heap.size w4 W) => hRS.out W (via hb14 hW)
    have Hcell := hid fun W (hW : Below w4.heap.size w4 W) (j : Nat) => show W.cell? ⟨w1.heap.size, j, none⟩ = (#[.int .i64 h0, .int .i64 a0, .int .i64 b0, U x0, .int .i64 h1, .int .i64 a1, .int .i64 b1, U x1] : Array Value)[j]? from (hW.cell (p := ⟨w1.heap.size, j, none⟩) (Nat.lt_of_lt_of_le (Nat.lt_of_lt_of_le hlt2 hb23.size) hb34.size)).trans ((hb34.cell (p := ⟨w1.heap.size, j, none⟩) (Nat.lt_of_lt_of_le hlt2 hb23.size)).trans ((hb23.cell (p := ⟨w1.heap.size, j, none⟩) hlt2).trans (Hbox.out j)))
    have hsp1 := hid (vspoilt_any _ ws h0 a0 b0 x0 w4 hrow (by omega) hat0)
    have d0 := Hcell.out _ (Below.refl _ _) 0
    have d1 := Hcell.out _ (Below.refl _ _) 1
    have d2 := Hcell.out _ (Below.refl _ _) 2
    have d3 := Hcell.out _ (Below.refl _ _) 3
    simp only [List.getElem?_toArray, List.getElem?_cons_succ, List.getElem?_cons_zero] at d0 d1 d2 d3
    have Hb14 := hid hb14
    clear hmsg hspec hb13 hs hrow hr q0 q1 q2 y0 y1 y2 y3 y4 y5 y6 y7
    go_wp2_with fail
    ((refine hsp1.out.mono ?_); rintro r5 w5 ⟨xv, xs, rfl, hx, hxr, hb5⟩)
    have hsp2 := hid (vspoilt_any _ xs h1 a1 b1 x1 w5 hxr (by omega) hat1)
    have Hx := hid fun W (hW : Below w5.heap.size w5 W) => hxr.below hW (Nat.le_refl _)
    have f0 := Hcell.out _ hb5 4
    have f1 := Hcell.out _ hb5 5
    have f2 := Hcell.out _ hb5 6
    have f3 := Hcell.out _ hb5 7
    simp only [List.getElem?_toArray, List.getElem?_cons_succ, List.getElem?_cons_zero] at f0 f1 f2 f3
    clear d0 d1 d2 d3 hsp1 hxr
    go_wp2_with fail
    ((refine hsp2.out.mono ?_); rintro r6 w6 ⟨yv, ys, rfl, hy, hyr, hb6⟩)
    clear f0 f1 f2 f3 hsp2
    have hb46 := via hb5 hb6
    have Hy := hid fun W (hW : Below w6.heap.size w6 W) => hyr.below hW (Nat.le_refl _)
    have Hb46 := hid hb46
    have T1 := hid fun W (hW : Below w6.heap.size w6 W) => tells_any (hl4.out W (via Hb46.out hW)) (Hs.out W (via Hb46.out hW)) (HR.out W (via Hb46.out hW))
    have T2 := hid fun W (hW : Below w6.heap.size w6 W) => tells_any (hl4.out W (via Hb46.out hW)) (Hs.out W (via Hb46.out hW)) (Hw.out W (via Hb46.out hW))
    have T3 := hid fun W (hW : Below w6.heap.size w6 W) => tells_any (hl4.out W (via Hb46.out hW)) (Hs.out W (via Hb46.out hW)) (Hx.out W (via hb6 hW))
    have T4 := hid fun W (hW : Below w6.heap.size w6 W) => tells_any (hl4.out W (via Hb46.out hW)) (Hs.out W (via Hb46.out hW)) (Hy.out W hW)
    have T5 := hid fun W (hW : Below w6.heap.size w6 W) => tells_any (w := W.alloc (.cells #[] 62)) (hl4.out _ (via Hb46.out (via hW (below_alloc W _)))) (sch_empty _ W.heap.size) (Hw.out _ (via Hb46.out (via hW (below_alloc W _))))
    have T6 := hid fun W (hW : Below w6.heap.size w6 W) (g : Value) (hg : Row W 1 g 201 ((List.replicate 201 0#64).map U)) => tells_any (hl4.out W (via Hb46.out hW)) (Hs.out W (via Hb46.out hW)) (ws := List.replicate 201 0#64) (by rw [List.length_replicate]; exact hg)
    clear hyr hb46 hx hy hb5
    go_wp2_with fail
    ((refine (T1.out w6 (Below.refl _ _)).mono ?_); rintro r7 w7 ⟨rfl, hb7⟩)
    go_wp2_with fail
    ((refine (T2.out w7 hb7).mono ?_); rintro r8 w8 ⟨rfl, hb8'⟩)
    have hb8 := via hb7 hb8'
    go_wp2_with fail
    ((refine (T3.out w8 hb8).mono ?_); rintro r9 w9 ⟨rfl, hb9'⟩)
    have hb9 := via hb8 hb9'
    go_wp2_with fail
    ((refine (T4.out w9 hb9).mono ?_); rintro r10 w10 ⟨rfl, hb10'⟩)
    have hb10 := via hb9 hb10'
    go_wp2_with fail
    ((refine (T5.out w10 hb10).mono ?_); rintro r11 w11 ⟨rfl, hb11'⟩)
    have hb11 := via hb10 (via (below_alloc w10 _) hb11')
    obtain ⟨w12, hrun, ho12, hg12⟩ := run_make_full (P := Tryd.prog) (w := w11) w11.heap.size 28 38 iU _ 1 Tryd.underlying28 hiU hzU hsU .i64 .i64 201 (by rw [hbU]; omega) (by unfold maxLen; omega) (Nat.le_refl _)
    have hrow12 := hid (show Row w12 1 (.slice (some ⟨w11.heap.size, 0, none⟩) 201 201) 201 ((List.replicate 201 0#64).map U) from by
      have hx := Row.of_owns ho12
      rw [show (Value.int IntKind.u64 0).cells = #[.int .u64 0] from rfl, toList_madeCells_one, Nat.mul_one] at hx
      rw [List.map_replicate]
      exact hx)
    have hb12' := hid ((Below.refl _ w11).grown hg12 (Nat.le_refl _) (fun q e => by cases e))
    have hrun' : (Instr.makeSlice 28 (.int .i64 201) (.int .i64 201)).run Tryd.prog w11 = .ok (.slice (some ⟨w11.heap.size, 0, none⟩) 201 201) w12 := hrun
    clear hrun ho12 hg12
    go_wp2_with fail
    ((refine (T6.out w12 (via hb11 hb12'.out) _ hrow12.out).mono ?_); rintro r13 w13 ⟨rfl, hb13⟩)
    go_wp2_with fail
    go_returns
    exact ⟨rfl, via (via Hb14.out Hb46.out) (via (via hb11 hb12'.out) hb13)⟩
  · have h30' : (N : Int) ≤ 30 := by omega
    have hRS := hid fun W (hW : Below w.heap.size w W) => show Row W 1 (.slice ra N rc) rl.length (rl.map U) from by rw [hNl]; exact Hraw.out.below hW (Nat.le_refl _)
    clear hNl
    go_enter Tryd.func11, Tryd.ntmps11
    go_wp2_with fail
    ((refine (awake08 _ hl2).mono ?_); rintro r3 w3 ⟨rfl, hb23⟩)
    replace q0 := (hb23.cell (Nat.lt_of_lt_of_le hlt1 hb2.size)).trans q0
    replace q1 := (hb23.cell (Nat.lt_of_lt_of_le hlt1 hb2.size)).trans q1
    replace q2 := (hb23.cell (Nat.lt_of_lt_of_le hlt1 hb2.size)).trans q2
    have hb13 := via hb12 hb23
    clear hw1 hw2
    go_wp2_with fail
    ((refine (hspec.out _ hb13).mono ?_); rintro r4 w4 ⟨sv, wv, s, ws, rfl, hb34, hs, hr, hrow, hmsg⟩)
    have hb14 := via hb13 hb34
    have h200 := (msg_all hr hmsg).1
    have Hs := hid fun W (hW : Below w4.heap.size w4 W) => hs.below hW (Nat.le_refl _)
    have Hw := hid fun W (hW : Below w4.heap.size w4 W) => hrow.below hW (Nat.le_refl _)
    have hl4 := hid fun W (hW : Below w4.heap.size w4 W) => LaidE.below HLaid.out (via hb14 hW) (LaidE.pos HLaid.out)
    have HR := hid fun W (hW : Below w4.heap.size w4 W) => hRS.out W (via hb14 hW)
    have Hcell := hid fun W (hW : Below w4.heap.size w4 W) (j : Nat) => show W.cell? ⟨w1.heap.size, j, none⟩ = (#[.int .i64 h0, .int .i64 a0, .int .i64 b0, U x0, .int .i64 h1, .int .i64 a1, .int .i64 b1, U x1] : Array Value)[j]? from (hW.cell (p := ⟨w1.heap.size, j, none⟩) (Nat.lt_of_lt_of_le (Nat.lt_of_lt_of_le hlt2 hb23.size) hb34.size)).trans ((hb34.cell (p := ⟨w1.heap.size, j, none⟩) (Nat.lt_of_lt_of_le hlt2 hb23.size)).trans ((hb23.cell (p := ⟨w1.heap.size, j, none⟩) hlt2).trans (Hbox.out j)))
    have hsp1 := hid (vspoilt_any _ ws h0 a0 b0 x0 w4 hrow (by omega) hat0)
    have d0 := Hcell.out _ (Below.refl _ _) 0
    have d1 := Hcell.out _ (Below.refl _ _) 1
    have d2 := Hcell.out _ (Below.refl _ _) 2
    have d3 := Hcell.out _ (Below.refl _ _) 3
    simp only [List.getElem?_toArray, List.getElem?_cons_succ, List.getElem?_cons_zero] at d0 d1 d2 d3
    have Hb14 := hid hb14
    clear hmsg hspec hb13 hs hrow hr q0 q1 q2 y0 y1 y2 y3 y4 y5 y6 y7
    go_wp2_with fail
    ((refine hsp1.out.mono ?_); rintro r5 w5 ⟨xv, xs, rfl, hx, hxr, hb5⟩)
    have hsp2 := hid (vspoilt_any _ xs h1 a1 b1 x1 w5 hxr (by omega) hat1)
    have Hx := hid fun W (hW : Below w5.heap.size w5 W) => hxr.below hW (Nat.le_refl _)
    have f0 := Hcell.out _ hb5 4
    have f1 := Hcell.out _ hb5 5
    have f2 := Hcell.out _ hb5 6
    have f3 := Hcell.out _ hb5 7
    simp only [List.getElem?_toArray, List.getElem?_cons_succ, List.getElem?_cons_zero] at f0 f1 f2 f3
    clear d0 d1 d2 d3 hsp1 hxr
    go_wp2_with fail
    ((refine hsp2.out.mono ?_); rintro r6 w6 ⟨yv, ys, rfl, hy, hyr, hb6⟩)
    clear f0 f1 f2 f3 hsp2
    have hb46 := via hb5 hb6
    have Hy := hid fun W (hW : Below w6.heap.size w6 W) => hyr.below hW (Nat.le_refl _)
    have Hb46 := hid hb46
    have T1 := hid fun W (hW : Below w6.heap.size w6 W) => tells_any (hl4.out W (via Hb46.out hW)) (Hs.out W (via Hb46.out hW)) (HR.out W (via Hb46.out hW))
    have T2 := hid fun W (hW : Below w6.heap.size w6 W) => tells_any (hl4.out W (via Hb46.out hW)) (Hs.out W (via Hb46.out hW)) (Hw.out W (via Hb46.out hW))
    have T3 := hid fun W (hW : Below w6.heap.size w6 W) => tells_any (hl4.out W (via Hb46.out hW)) (Hs.out W (via Hb46.out hW)) (Hx.out W (via hb6 hW))
    have T4 := hid fun W (hW : Below w6.heap.size w6 W) => tells_any (hl4.out W (via Hb46.out hW)) (Hs.out W (via Hb46.out hW)) (Hy.out W hW)
    have T5 := hid fun W (hW : Below w6.heap.size w6 W) => tells_any (w := W.alloc (.cells #[] 62)) (hl4.out _ (via Hb46.out (via hW (below_alloc W _)))) (sch_empty _ W.heap.size) (Hw.out _ (via Hb46.out (via hW (below_alloc W _))))
    have T6 := hid fun W (hW : Below w6.heap.size w6 W) (g : Value) (hg : Row W 1 g 201 ((List.replicate 201 0#64).map U)) => tells_any (hl4.out W (via Hb46.out hW)) (Hs.out W (via Hb46.out hW)) (ws := List.replicate 201 0#64) (by rw [List.length_replicate]; exact hg)
    clear hyr hb46 hx hy hb5
    go_wp2_with fail
    ((refine (T1.out w6 (Below.refl _ _)).mono ?_); rintro r7 w7 ⟨rfl, hb7⟩)
    go_wp2_with fail
    ((refine (T2.out w7 hb7).mono ?_); rintro r8 w8 ⟨rfl, hb8'⟩)
    have hb8 := via hb7 hb8'
    go_wp2_with fail
    ((refine (T3.out w8 hb8).mono ?_); rintro r9 w9 ⟨rfl, hb9'⟩)
    have hb9 := via hb8 hb9'
    go_wp2_with fail
    ((refine (T4.out w9 hb9).mono ?_); rintro r10 w10 ⟨rfl, hb10'⟩)
    have hb10 := via hb9 hb10'
    go_wp2_with fail
    ((refine (T5.out w10 hb10).mono ?_); rintro r11 w11 ⟨rfl, hb11'⟩)
    have hb11 := via hb10 (via (below_alloc w10 _) hb11')
    obtain ⟨w12, hrun, ho12, hg12⟩ := run_make_full (P := Tryd.prog) (w := w11) w11.heap.size 28 38 iU _ 1 Tryd.underlying28 hiU hzU hsU .i64 .i64 201 (by rw [hbU]; omega) (by unfold maxLen; omega) (Nat.le_refl _)
    have hrow12 := hid (show Row w12 1 (.slice (some ⟨w11.heap.size, 0, none⟩) 201 201) 201 ((List.replicate 201 0#64).map U) from by
      have hx := Row.of_owns ho12
      rw [show (Value.int IntKind.u64 0).cells = #[.int .u64 0] from rfl, toList_madeCells_one, Nat.mul_one] at hx
      rw [List.map_replicate]
      exact hx)
    have hb12' := hid ((Below.refl _ w11).grown hg12 (Nat.le_refl _) (fun q e => by cases e))
    have hrun' : (Instr.makeSlice 28 (.int .i64 201) (.int .i64 201)).run Tryd.prog w11 = .ok (.slice (some ⟨w11.heap.size, 0, none⟩) 201 201) w12 := hrun
    clear hrun ho12 hg12
    go_wp2_with fail
    ((refine (T6.out w12 (via hb11 hb12'.out) _ hrow12.out).mono ?_); rintro r13 w13 ⟨rfl, hb13⟩)
    go_wp2_with fail
    go_returns
    exact ⟨rfl, via (via Hb14.out Hb46.out) (via (via hb11 hb12'.out) hb13)⟩

theorem law_ValidTells (rv : Value) (N : Nat) (rl : List (BitVec 64)) (u v : Value) (n m : Nat) (tl vl : List Int) (T : Int) (h0 a0 b0 : Int) (x0 : BitVec 64) (h1 a1 b1 : Int) (x1 : BitVec 64) (w : World) (hl : LaidE w) (hraw : Row w 1 rv N (rl.map U)) (hu : Row w 1 u n (tl.map (Value.int .i64))) (hv : Row w 1 v m (vl.map (Value.int .i64)))
    (hub : ∀ z ∈ tl, -9223372036854775808 ≤ z ∧ z ≤ 9223372036854775807) (hvb : ∀ z ∈ vl, -9223372036854775808 ≤ z ∧ z ≤ 9223372036854775807) (hT : -9223372036854775808 ≤ T ∧ T ≤ 9223372036854775807) (hat0 : -9223372036854775808 ≤ a0 ∧ a0 ≤ 9223372036854775807) (hat1 : -9223372036854775808 ≤ a1 ∧ a1 ≤ 9223372036854775807) :
    Calls Tryd.prog 11 #[rv, .agg #[u, v, .int .i64 T], .agg #[.int .i64 h0, .int .i64 a0, .int .i64 b0, U x0, .int .i64 h1, .int .i64 a1, .int .i64 b1, U x1]] w fun r w' => r = .returned (.bool true) ∧ Below w.heap.size w w' :=
  vtells_walk rv N rl u v T tl vl h0 a0 b0 x0 h1 a1 b1 x1 w hl hraw (row_lenS hu) (row_lenS hv) hub hvb hT hat0 hat1
end SLVTells

end Go.Proofs.YtogaclolodlnbaaDoor

