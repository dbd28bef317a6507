/- build's builder: the fields of the chapter's example. -/
import Derived.Test.YtmcpanjpjnlleaaDoorBField
import Derived.Test.YtmcpanjpjnlleaaDoorAw6
set_option linter.unusedVariables false
namespace Go.Proofs.YtmcpanjpjnlleaaDoor
open Go.RowKit

/-- What the drawn region reads. -/
def FldS (B D : Nat) (sv x0 x1 x2 x3 : Value) (W : World) : Prop :=
  W.cell? ⟨B, 0, none⟩ = some sv ∧ W.cell? ⟨D, 0, none⟩ = some x0 ∧ W.cell? ⟨D, 1, none⟩ = some x1 ∧ W.cell? ⟨D, 2, none⟩ = some x2 ∧ W.cell? ⟨D, 3, none⟩ = some x3
theorem FldS.of {B D : Nat} {sv x0 x1 x2 x3 : Value} {W : World} (h : W.cell? ⟨B, 0, none⟩ = some sv) (hD : TB W D x0 x1 x2 x3) : FldS B D sv x0 x1 x2 x3 W := ⟨h, hD.c0, hD.c1, hD.c2, hD.c3⟩

theorem tb_new (w : World) (x0 x1 x2 x3 : Value) (T : TypeId) : TB (w.alloc (.cells #[x0, x1, x2, x3] T)) w.heap.size x0 x1 x2 x3 := by
  obtain ⟨w2, h, _, _, h4⟩ := TB.make w x0 x1 x2 x3 T
  rw [h]; exact h4
theorem tb_lt {w w' : World} {D B g : Nat} {x0 x1 x2 x3 : Value} (h : TB w D x0 x1 x2 x3) (hk : ∀ b, b < w.heap.size → b ≠ B → b ≠ g → w'.heap[b]? = w.heap[b]?) (h1 : D ≠ B) (h2 : D ≠ g) : D < w'.heap.size := by
  have h3 := hk D h.lt h1 h2
  rcases Nat.lt_or_ge D w'.heap.size with h4 | h4
  · exact h4
  · rw [Array.getElem?_eq_none h4, Array.getElem?_eq_getElem h.lt] at h3; cases h3
/-- Two trees in a row. -/
def TB8 (w : World) (b : Nat) (x0 x1 x2 x3 y0 y1 y2 y3 : Value) : Prop :=
  w.cell? ⟨b, 0, none⟩ = some x0 ∧ w.cell? ⟨b, 1, none⟩ = some x1 ∧ w.cell? ⟨b, 2, none⟩ = some x2 ∧ w.cell? ⟨b, 3, none⟩ = some x3 ∧ w.cell? ⟨b, 4, none⟩ = some y0 ∧ w.cell? ⟨b, 5, none⟩ = some y1 ∧ w.cell? ⟨b, 6, none⟩ = some y2 ∧ w.cell? ⟨b, 7, none⟩ = some y3
theorem TB8.base {w w' : World} {b base : Nat} {x0 x1 x2 x3 y0 y1 y2 y3 : Value} (h : TB8 w b x0 x1 x2 x3 y0 y1 y2 y3) (hb : Below base w w') (hlt : b < base) : TB8 w' b x0 x1 x2 x3 y0 y1 y2 y3 := by
  obtain ⟨h0, h1, h2, h3, h4, h5, h6, h7⟩ := h
  exact ⟨(hb.cell hlt).trans h0, (hb.cell hlt).trans h1, (hb.cell hlt).trans h2, (hb.cell hlt).trans h3, (hb.cell hlt).trans h4, (hb.cell hlt).trans h5, (hb.cell hlt).trans h6, (hb.cell hlt).trans h7⟩

set_option maxRecDepth 100000 in
set_option maxHeartbeats 8000000 in
theorem bfields_T2 (sv : Value) (kb nb B g cap base : Nat) (w0 w : World) (hs : Sch w0 sv S2) (h0 : w0.heap.size ≤ base) (hb0 : Below base w0 w) (hbB : base ≤ B)
    (hBB : BB w B sv base (.slice (some ⟨g, 0, none⟩) 3 cap) [0#64, 0#64, 0#64])
    (hk0 : TB8 w kb (U 7#64) (.string ⟨#[]⟩) (.slice none 0 0) (.slice none 0 0) (U 0#64) (.string ⟨#[]⟩) (.slice (some ⟨nb, 0, none⟩) 2 2) (.slice none 0 0)) (hkb : kb < base)
    (hn : Row w0 1 (.slice (some ⟨nb, 0, none⟩) 2 2) 2 ([5#64, 6#64].map U)) (hnb : nb < base) :
    Calls Tryd.prog 61 #[.pointer (some ⟨B, 0, none⟩), .int .i64 0, .agg #[U 0#64, .string ⟨#[]⟩, .slice none 0 0, .slice (some ⟨kb, 0, none⟩) 2 2], .func (.func 62) #[.pointer (some ⟨B, 0, none⟩)] #[], .int .i64 1] w
      fun e w' => e = .returned (.tuple #[]) ∧ (∃ wv', BB w' B sv base wv' [0#64, 7#64, 8589934593#64, 5#64, 6#64]) ∧ Below base w w' := by
  have hkind0 := hid fun W (hW : Sch W sv S2) => show Calls Tryd.prog 46 #[sv, .int .i64 0, .int .i64 0] W fun r w' => r = .returned (.int .i64 1) ∧ Below W.heap.size W w' from kind_any S2 sv 0 (0 : Nat) W hW
  have htype0 := hid fun W (hW : Sch W sv S2) => show Calls Tryd.prog 45 #[sv, .int .i64 0, .int .i64 0] W fun r w' => r = .returned (.int .i64 0) ∧ Below W.heap.size W w' from type_any S2 sv 0 (0 : Nat) W hW
  have hkind1 := hid fun W (hW : Sch W sv S2) => show Calls Tryd.prog 46 #[sv, .int .i64 0, .int .i64 1] W fun r w' => r = .returned (.int .i64 3) ∧ Below W.heap.size W w' from kind_any S2 sv 0 (1 : Nat) W hW
  have htype1 := hid fun W (hW : Sch W sv S2) => show Calls Tryd.prog 45 #[sv, .int .i64 0, .int .i64 1] W fun r w' => r = .returned (.int .i64 0) ∧ Below W.heap.size W w' from type_any S2 sv 0 (1 : Nat) W hW
  obtain ⟨w1, hw1, hb1, hz1, hV⟩ := TB.make w (U 0#64) (.string ⟨#[]⟩) (.slice none 0 0) (.slice (some ⟨kb, 0, none⟩) 2 2) 34
  clear hz1
  have hltB := hBB.lt
  have hbw1 : Below base w w1 := hb1.mono (by omega)
  have Hs := hid fun W (hW : Below base w W) => hs.below (hb0.trans hW) h0
  have Hn := hid fun W (hW : Below base w W) => hn.below (hb0.trans hW) h0
  have hBB1 := hBB.below hb1
  have hT1 := hk0.base hbw1 hkb
  clear hs hBB hk0 hn
  have v3 := hV.c3
  have hD := tb_new w1 (U 7#64) (.string ⟨#[]⟩) (.slice none 0 0) (.slice none 0 0) 34
  have hb2 := below_alloc w1 (.cells #[U 7#64, .string ⟨#[]⟩, .slice none 0 0, .slice none 0 0] 34)
  have ⟨t0, t1, t2, t3, _, _, _, _⟩ := hT1
  go_enter Tryd.func61, Tryd.ntmps61
  go_wp2_with fail
  refine wp_loop_rounds 3 ?_
  rw [rounds_succ]
  have hgB : g ≠ B := fun e => hBB1.ne (by simp [Value.ownBlock, e])
  have hgl : g < w1.heap.size := (own_blk hBB1.own (g := g) rfl).1.lt
  have hBl : B < w1.heap.size := hBB1.lt
  have HA := hid fun W (hW : Below (w1.alloc (.cells #[U 7#64, .string ⟨#[]⟩, .slice none 0 0, .slice none 0 0] 34)).heap.size (w1.alloc (.cells #[U 7#64, .string ⟨#[]⟩, .slice none 0 0, .slice none 0 0] 34)) W) =>
    show Sch W sv S2 ∧ BB W B sv base (.slice (some ⟨g, 0, none⟩) 3 cap) [0#64, 0#64, 0#64] ∧ TB W w1.heap.size (U 7#64) (.string ⟨#[]⟩) (.slice none 0 0) (.slice none 0 0) ∧ Below base w W from
    ⟨Hs.out _ ((hbw1.trans (hb2.mono (Nat.le_trans hbB (Nat.le_of_lt hBl)))).trans (hW.mono (by have := hb2.size; omega))), (hBB1.below hb2).below hW, hD.below hW, (hbw1.trans (hb2.mono (Nat.le_trans hbB (Nat.le_of_lt hBl)))).trans (hW.mono (by have := hb2.size; omega))⟩
  have HT := hid fun W (hW : Below base w1 W) => hT1.base hW hkb
  clear hD hBB1 hT1
  go_wp2_with fail
  clear hw1 v3 t0 t1 t2 t3
  refine wp_region_held_drew (S := (fun W => W.cell? ⟨B, 0, none⟩ = some sv ∧ W.cell? ⟨w1.heap.size, 0, none⟩ = some (U 7#64) ∧ W.cell? ⟨w1.heap.size, 1, none⟩ = some (.string ⟨#[]⟩) ∧ W.cell? ⟨w1.heap.size, 2, none⟩ = some (.slice none 0 0) ∧ W.cell? ⟨w1.heap.size, 3, none⟩ = some (.slice none 0 0))) (by kernel_rfl) ?_ (fun hHeld => ?_)
  · exact FldS.of (HA.out _ (below_drewN _ _ 1)).2.1.c0 (HA.out _ (below_drewN _ _ 1)).2.2.1
  refine wpAnyH_take (i := 0) (oi := { dst := some 20, op := Op.move (Operand.tmp 3), type := 110, pos := "build.go:39", after := #[], guard := none }) (v := ?vr0) rfl (by kernel_rfl) (by kernel_rfl) (by kernel_rfl) (fun _ _ _ h => h) (Or.inl ⟨by rfl, ?hyr0⟩) (by assumption) ?restr0
  case hyr0 => first | (intro w hSw; (try dsimp only at hSw); go_simp; done) | (intro w hSw; (try dsimp only at hSw); go_simp; with_reducible rfl)
  try simp only [Act.put, List.setIfInBounds_toArray, List.set_cons_zero, List.set_cons_succ]
  refine wpAnyH_take (i := 1) (oi := { dst := some 21, op := Op.move (Operand.tmp 0), type := 106, pos := "build.go:39", after := #[], guard := none }) (v := ?vr1) rfl (by kernel_rfl) (by kernel_rfl) (by kernel_rfl) (fun _ _ _ h => h) (Or.inl ⟨by rfl, ?hyr1⟩) (by assumption) ?restr1
  case hyr1 => first | (intro w hSw; (try dsimp only at hSw); go_simp; done) | (intro w hSw; (try dsimp only at hSw); go_simp; with_reducible rfl)
  try simp only [Act.put, List.setIfInBounds_toArray, List.set_cons_zero, List.set_cons_succ]
  refine wpAnyH_take (i := 2) (oi := { dst := some 22, op := Op.nilCheck (Operand.tmp 21), type := 0, pos := "build.go:39", after := #[{ on := 1, ground := Ground.data }], guard := none }) (v := ?vr2) rfl (by kernel_rfl) (by kernel_rfl) (by kernel_rfl) (fun _ _ _ h => h) (Or.inl ⟨by rfl, ?hyr2⟩) (by assumption) ?restr2
  case hyr2 => first | (intro w hSw; (try dsimp only at hSw); go_simp; done) | (intro w hSw; (try dsimp only at hSw); go_simp; with_reducible rfl)
  try simp only [Act.put, List.setIfInBounds_toArray, List.set_cons_zero, List.set_cons_succ]
  refine wpAnyH_take (i := 3) (oi := { dst := some 23, op := Op.fieldAddr 108 (Operand.tmp 22) 0, type := 0, pos := "build.go:39", after := #[{ on := 2, ground := Ground.data }], guard := none }) (v := ?vr3) rfl (by kernel_rfl) (by kernel_rfl) (by kernel_rfl) (fun _ _ _ h => h) (Or.inl ⟨by rfl, ?hyr3⟩) (by assumption) ?restr3
  case hyr3 => first | (intro w hSw; (try dsimp only at hSw); go_simp; done) | (intro w hSw; (try dsimp only at hSw); go_simp; with_reducible rfl)
  try simp only [Act.put, List.setIfInBounds_toArray, List.set_cons_zero, List.set_cons_succ]
  refine wpAnyH_take (i := 4) (oi := { dst := some 24, op := Op.load 29 (Operand.tmp 23), type := 29, pos := "build.go:39", after := #[{ on := 3, ground := Ground.data }], guard := none }) (v := ?vr4) rfl (by kernel_rfl) (by kernel_rfl) (by kernel_rfl) (fun _ _ _ h => h) (Or.inl ⟨by rfl, ?hyr4⟩) (by assumption) ?restr4
  case hyr4 => first | (intro w hSw; (try dsimp only at hSw); go_simp; done) | (intro w hSw; (try dsimp only at hSw); go_simp; with_reducible rfl)
  try simp only [Act.put, List.setIfInBounds_toArray, List.set_cons_zero, List.set_cons_succ]
  refine wpAnyH_take (i := 5) (oi := { dst := some 25, op := Op.move (Operand.tmp 1), type := 3, pos := "build.go:39", after := #[], guard := none }) (v := ?vr5) rfl (by kernel_rfl) (by kernel_rfl) (by kernel_rfl) (fun _ _ _ h => h) (Or.inl ⟨by rfl, ?hyr5⟩) (by assumption) ?restr5
  case hyr5 => first | (intro w hSw; (try dsimp only at hSw); go_simp; done) | (intro w hSw; (try dsimp only at hSw); go_simp; with_reducible rfl)
  try simp only [Act.put, List.setIfInBounds_toArray, List.set_cons_zero, List.set_cons_succ]
  refine wpAnyH_take (i := 6) (oi := { dst := some 26, op := Op.move (Operand.tmp 10), type := 3, pos := "build.go:39", after := #[], guard := none }) (v := ?vr6) rfl (by kernel_rfl) (by kernel_rfl) (by kernel_rfl) (fun _ _ _ h => h) (Or.inl ⟨by rfl, ?hyr6⟩) (by assumption) ?restr6
  case hyr6 => first | (intro w hSw; (try dsimp only at hSw); go_simp; done) | (intro w hSw; (try dsimp only at hSw); go_simp; with_reducible rfl)
  try simp only [Act.put, List.setIfInBounds_toArray, List.set_cons_zero, List.set_cons_succ]
  refine wpAnyH_take (i := 8) (oi := { dst := some 28, op := Op.move (Operand.tmp 0), type := 106, pos := "build.go:39", after := #[], guard := none }) (v := ?vr8) rfl (by kernel_rfl) (by kernel_rfl) (by kernel_rfl) (fun _ _ _ h => h) (Or.inl ⟨by rfl, ?hyr8⟩) (by assumption) ?restr8
  case hyr8 => first | (intro w hSw; (try dsimp only at hSw); go_simp; done) | (intro w hSw; (try dsimp only at hSw); go_simp; with_reducible rfl)
  try simp only [Act.put, List.setIfInBounds_toArray, List.set_cons_zero, List.set_cons_succ]
  refine wpAnyH_take (i := 9) (oi := { dst := some 29, op := Op.nilCheck (Operand.tmp 28), type := 0, pos := "build.go:39", after := #[{ on := 8, ground := Ground.data }], guard := none }) (v := ?vr9) rfl (by kernel_rfl) (by kernel_rfl) (by kernel_rfl) (fun _ _ _ h => h) (Or.inl ⟨by rfl, ?hyr9⟩) (by assumption) ?restr9
  case hyr9 => first | (intro w hSw; (try dsimp only at hSw); go_simp; done) | (intro w hSw; (try dsimp only at hSw); go_simp; with_reducible rfl)
  try simp only [Act.put, List.setIfInBounds_toArray, List.set_cons_zero, List.set_cons_succ]
  refine wpAnyH_take (i := 10) (oi := { dst := some 30, op := Op.fieldAddr 108 (Operand.tmp 29) 0, type := 0, pos := "build.go:39", after := #[{ on := 9, ground := Ground.data }], guard := none }) (v := ?vr10) rfl (by kernel_rfl) (by kernel_rfl) (by kernel_rfl) (fun _ _ _ h => h) (Or.inl ⟨by rfl, ?hyr10⟩) (by assumption) ?restr10
  case hyr10 => first | (intro w hSw; (try dsimp only at hSw); go_simp; done) | (intro w hSw; (try dsimp only at hSw); go_simp; with_reducible rfl)
  try simp only [Act.put, List.setIfInBounds_toArray, List.set_cons_zero, List.set_cons_succ]
  refine wpAnyH_take (i := 11) (oi := { dst := some 31, op := Op.load 29 (Operand.tmp 30), type := 29, pos := "build.go:39", after := #[{ on := 10, ground := Ground.data }], guard := none }) (v := ?vr11) rfl (by kernel_rfl) (by kernel_rfl) (by kernel_rfl) (fun _ _ _ h => h) (Or.inl ⟨by rfl, ?hyr11⟩) (by assumption) ?restr11
  case hyr11 => first | (intro w hSw; (try dsimp only at hSw); go_simp; done) | (intro w hSw; (try dsimp only at hSw); go_simp; with_reducible rfl)
  try simp only [Act.put, List.setIfInBounds_toArray, List.set_cons_zero, List.set_cons_succ]
  refine wpAnyH_take (i := 12) (oi := { dst := some 32, op := Op.move (Operand.tmp 1), type := 3, pos := "build.go:39", after := #[], guard := none }) (v := ?vr12) rfl (by kernel_rfl) (by kernel_rfl) (by kernel_rfl) (fun _ _ _ h => h) (Or.inl ⟨by rfl, ?hyr12⟩) (by assumption) ?restr12
  case hyr12 => first | (intro w hSw; (try dsimp only at hSw); go_simp; done) | (intro w hSw; (try dsimp only at hSw); go_simp; with_reducible rfl)
  try simp only [Act.put, List.setIfInBounds_toArray, List.set_cons_zero, List.set_cons_succ]
  refine wpAnyH_take (i := 13) (oi := { dst := some 33, op := Op.move (Operand.tmp 10), type := 3, pos := "build.go:39", after := #[], guard := none }) (v := ?vr13) rfl (by kernel_rfl) (by kernel_rfl) (by kernel_rfl) (fun _ _ _ h => h) (Or.inl ⟨by rfl, ?hyr13⟩) (by assumption) ?restr13
  case hyr13 => first | (intro w hSw; (try dsimp only at hSw); go_simp; done) | (intro w hSw; (try dsimp only at hSw); go_simp; with_reducible rfl)
  try simp only [Act.put, List.setIfInBounds_toArray, List.set_cons_zero, List.set_cons_succ]
  refine wpAnyH_take (i := 15) (oi := { dst := some 35, op := Op.load 34 (Operand.tmp 11), type := 34, pos := "build.go:39", after := #[], guard := none }) (v := ?vr15) rfl (by kernel_rfl) (by kernel_rfl) (by kernel_rfl) (fun _ _ _ h => h) (Or.inl ⟨by rfl, ?hyr15⟩) (by assumption) ?restr15
  case hyr15 => first | (intro w hSw; (try dsimp only at hSw); go_simp; done) | (intro w hSw; (try dsimp only at hSw); go_simp; with_reducible rfl)
  try simp only [Act.put, List.setIfInBounds_toArray, List.set_cons_zero, List.set_cons_succ]
  refine wpAnyH_take (i := 16) (oi := { dst := some 36, op := Op.move (Operand.tmp 4), type := 3, pos := "build.go:39", after := #[], guard := none }) (v := ?vr16) rfl (by kernel_rfl) (by kernel_rfl) (by kernel_rfl) (fun _ _ _ h => h) (Or.inl ⟨by rfl, ?hyr16⟩) (by assumption) ?restr16
  case hyr16 => first | (intro w hSw; (try dsimp only at hSw); go_simp; done) | (intro w hSw; (try dsimp only at hSw); go_simp; with_reducible rfl)
  try simp only [Act.put, List.setIfInBounds_toArray, List.set_cons_zero, List.set_cons_succ]
  refine wpAnyH_take (i := 17) (oi := { dst := some 37, op := Op.move (Operand.tmp 10), type := 3, pos := "build.go:39", after := #[], guard := none }) (v := ?vr17) rfl (by kernel_rfl) (by kernel_rfl) (by kernel_rfl) (fun _ _ _ h => h) (Or.inl ⟨by rfl, ?hyr17⟩) (by assumption) ?restr17
  case hyr17 => first | (intro w hSw; (try dsimp only at hSw); go_simp; done) | (intro w hSw; (try dsimp only at hSw); go_simp; with_reducible rfl)
  try simp only [Act.put, List.setIfInBounds_toArray, List.set_cons_zero, List.set_cons_succ]
  refine wpAnyH_take (i := 18) (oi := { dst := some 38, op := Op.binOp BinOp.add 3 (Operand.tmp 36) (Operand.tmp 37) 3, type := 3, pos := "build.go:39", after := #[{ on := 16, ground := Ground.data }, { on := 17, ground := Ground.data }], guard := none }) (v := ?vr18) rfl (by kernel_rfl) (by kernel_rfl) (by kernel_rfl) (fun _ _ _ h => h) (Or.inl ⟨by rfl, ?hyr18⟩) (by assumption) ?restr18
  case hyr18 => first | (intro w hSw; (try dsimp only at hSw); go_simp; done) | (intro w hSw; (try dsimp only at hSw); go_simp; with_reducible rfl)
  try simp only [Act.put, List.setIfInBounds_toArray, List.set_cons_zero, List.set_cons_succ]
  refine wpAnyH_ready (rs := [7]) (by kernel_rfl) (by simp) ?_
  refine AllReadyH.cons (o := { dst := some 27, op := Op.call { callee := Callee.value (Operand.func 46), args := #[Operand.tmp 24, Operand.tmp 25, Operand.tmp 26], argTypes := #[29, 3, 3] }, type := 3, pos := "build.go:39", after := #[{ on := 4, ground := Ground.data }, { on := 5, ground := Ground.data }, { on := 6, ground := Ground.data }], guard := none }) rfl (fun K hK => ?_) AllReadyH.nil
  go_simp
  ((refine (hkind0.out _ (HA.out _ (below_drewN _ _ 1)).1).mono ?_); rintro rr5 wr5 ⟨rfl, hbr5⟩)
  have har5 := (below_drewN _ _ 1).trans hbr5
  refine hK.out _ _ ?_ (fun hHeld => ?_)
  · exact FldS.of (HA.out _ har5).2.1.c0 (HA.out _ har5).2.2.1
  clear hK K
  try simp only [Act.put, List.setIfInBounds_toArray, List.set_cons_zero, List.set_cons_succ]
  refine wpAnyH_ready (rs := [14]) (by kernel_rfl) (by simp) ?_
  refine AllReadyH.cons (o := { dst := some 34, op := Op.call { callee := Callee.value (Operand.func 45), args := #[Operand.tmp 31, Operand.tmp 32, Operand.tmp 33], argTypes := #[29, 3, 3] }, type := 3, pos := "build.go:39", after := #[{ on := 11, ground := Ground.data }, { on := 12, ground := Ground.data }, { on := 13, ground := Ground.data }, { on := 7, ground := Ground.chain }], guard := none }) rfl (fun K hK => ?_) AllReadyH.nil
  go_simp
  ((refine (htype0.out _ (HA.out _ har5).1).mono ?_); rintro rr6 wr6 ⟨rfl, hbr6⟩)
  have har6 := har5.trans (hbr6.mono har5.size)
  refine hK.out _ _ ?_ (fun hHeld => ?_)
  · exact FldS.of (HA.out _ har6).2.1.c0 (HA.out _ har6).2.2.1
  clear hK K
  try simp only [Act.put, List.setIfInBounds_toArray, List.set_cons_zero, List.set_cons_succ]
  refine wpAnyH_ready (rs := [19]) (by kernel_rfl) (by simp) ?_
  refine AllReadyH.cons (o := { dst := some 39, op := Op.call { callee := Callee.value (Operand.tmp 20), args := #[Operand.tmp 27, Operand.tmp 34, Operand.tmp 35, Operand.tmp 38], argTypes := #[3, 3, 34, 3] }, type := 0, pos := "build.go:39", after := #[{ on := 0, ground := Ground.data }, { on := 7, ground := Ground.data }, { on := 14, ground := Ground.data }, { on := 15, ground := Ground.data }, { on := 18, ground := Ground.data }, { on := 14, ground := Ground.chain }], guard := none }) rfl (fun K hK => ?_) AllReadyH.nil
  go_simp
  ((refine (bfield_num 7#64 ⟨#[]⟩ (.slice none 0 0) (.slice none 0 0) 0 1 B base g cap 3 sv [0#64, 0#64, 0#64] wr6 rfl (by omega) (by omega) hbB (HA.out _ har6).2.1).mono ?_); rintro rr7 wr7 ⟨rfl, hB7, hb7, hk7⟩)
  refine hK.out _ _ ?_ (fun hHeld => ?_)
  · exact FldS.of hB7.c0 ((HA.out _ har6).2.2.1.of_block (hk7 _ (HA.out _ har6).2.2.1.lt (by omega) (by omega)) (tb_lt (HA.out _ har6).2.2.1 hk7 (by omega) (by omega)))
  clear hK K
  try simp only [Act.put, List.setIfInBounds_toArray, List.set_cons_zero, List.set_cons_succ]
  refine wpAnyH_done (by kernel_rfl) ?_ _
  have hbA := (HA.out _ har6).2.2.2.trans hb7
  have hb17 : Below base w1 wr7 := ((hb2.trans (har6.mono hb2.size)).mono (Nat.le_trans hbB (Nat.le_of_lt hBl))).trans hb7
  obtain ⟨_, _, _, _, t4, t5, t6, t7⟩ := HT.out _ hb17
  clear hb7 hk7 har6 har5 hbr5 hbr6 hHeld HA hb2
  have hgl7 : g < wr7.heap.size := (own_blk hB7.own (g := g) rfl).1.lt
  have hBl7 : B < wr7.heap.size := hB7.lt
  have hD := tb_new wr7 (U 0#64) (.string ⟨#[]⟩) (.slice (some ⟨nb, 0, none⟩) 2 2) (.slice none 0 0) 34
  have hb2 := below_alloc wr7 (.cells #[U 0#64, .string ⟨#[]⟩, .slice (some ⟨nb, 0, none⟩) 2 2, .slice none 0 0] 34)
  have HB := hid fun W (hW : Below (wr7.alloc (.cells #[U 0#64, .string ⟨#[]⟩, .slice (some ⟨nb, 0, none⟩) 2 2, .slice none 0 0] 34)).heap.size (wr7.alloc (.cells #[U 0#64, .string ⟨#[]⟩, .slice (some ⟨nb, 0, none⟩) 2 2, .slice none 0 0] 34)) W) =>
    show Sch W sv S2 ∧ BB W B sv base (.slice (some ⟨g, 0, none⟩) 3 cap) [0#64, 7#64, 0#64] ∧ TB W wr7.heap.size (U 0#64) (.string ⟨#[]⟩) (.slice (some ⟨nb, 0, none⟩) 2 2) (.slice none 0 0) ∧ Below base w W ∧ Row W 1 (.slice (some ⟨nb, 0, none⟩) 2 2) 2 ([5#64, 6#64].map U) from by
      have hh : Below base w W := (hbA.trans (hb2.mono (by omega))).trans (hW.mono (by have := hb2.size; omega))
      exact ⟨Hs.out _ hh, (hB7.below hb2).below hW, hD.below hW, hh, Hn.out _ hh⟩
  clear hD hB7
  go_wp2_with fail
  rw [rounds_succ]
  go_wp2_with fail
  clear t4 t5 t6 t7
  refine wp_region_held_drew (S := (fun W => W.cell? ⟨B, 0, none⟩ = some sv ∧ W.cell? ⟨wr7.heap.size, 0, none⟩ = some (U 0#64) ∧ W.cell? ⟨wr7.heap.size, 1, none⟩ = some (.string ⟨#[]⟩) ∧ W.cell? ⟨wr7.heap.size, 2, none⟩ = some (.slice (some ⟨nb, 0, none⟩) 2 2) ∧ W.cell? ⟨wr7.heap.size, 3, none⟩ = some (.slice none 0 0))) (by kernel_rfl) ?_ (fun hHeld => ?_)
  · exact FldS.of (HB.out _ (below_drewN _ _ 1)).2.1.c0 (HB.out _ (below_drewN _ _ 1)).2.2.1
  refine wpAnyH_take (i := 0) (oi := { dst := some 20, op := Op.move (Operand.tmp 3), type := 110, pos := "build.go:39", after := #[], guard := none }) (v := ?vs0) rfl (by kernel_rfl) (by kernel_rfl) (by kernel_rfl) (fun _ _ _ h => h) (Or.inl ⟨by rfl, ?hys0⟩) (by assumption) ?rests0
  case hys0 => first | (intro w hSw; (try dsimp only at hSw); go_simp; done) | (intro w hSw; (try dsimp only at hSw); go_simp; with_reducible rfl)
  try simp only [Act.put, List.setIfInBounds_toArray, List.set_cons_zero, List.set_cons_succ]
  refine wpAnyH_take (i := 1) (oi := { dst := some 21, op := Op.move (Operand.tmp 0), type := 106, pos := "build.go:39", after := #[], guard := none }) (v := ?vs1) rfl (by kernel_rfl) (by kernel_rfl) (by kernel_rfl) (fun _ _ _ h => h) (Or.inl ⟨by rfl, ?hys1⟩) (by assumption) ?rests1
  case hys1 => first | (intro w hSw; (try dsimp only at hSw); go_simp; done) | (intro w hSw; (try dsimp only at hSw); go_simp; with_reducible rfl)
  try simp only [Act.put, List.setIfInBounds_toArray, List.set_cons_zero, List.set_cons_succ]
  refine wpAnyH_take (i := 2) (oi := { dst := some 22, op := Op.nilCheck (Operand.tmp 21), type := 0, pos := "build.go:39", after := #[{ on := 1, ground := Ground.data }], guard := none }) (v := ?vs2) rfl (by kernel_rfl) (by kernel_rfl) (by kernel_rfl) (fun _ _ _ h => h) (Or.inl ⟨by rfl, ?hys2⟩) (by assumption) ?rests2
  case hys2 => first | (intro w hSw; (try dsimp only at hSw); go_simp; done) | (intro w hSw; (try dsimp only at hSw); go_simp; with_reducible rfl)
  try simp only [Act.put, List.setIfInBounds_toArray, List.set_cons_zero, List.set_cons_succ]
  refine wpAnyH_take (i := 3) (oi := { dst := some 23, op := Op.fieldAddr 108 (Operand.tmp 22) 0, type := 0, pos := "build.go:39", after := #[{ on := 2, ground := Ground.data }], guard := none }) (v := ?vs3) rfl (by kernel_rfl) (by kernel_rfl) (by kernel_rfl) (fun _ _ _ h => h) (Or.inl ⟨by rfl, ?hys3⟩) (by assumption) ?rests3
  case hys3 => first | (intro w hSw; (try dsimp only at hSw); go_simp; done) | (intro w hSw; (try dsimp only at hSw); go_simp; with_reducible rfl)
  try simp only [Act.put, List.setIfInBounds_toArray, List.set_cons_zero, List.set_cons_succ]
  refine wpAnyH_take (i := 4) (oi := { dst := some 24, op := Op.load 29 (Operand.tmp 23), type := 29, pos := "build.go:39", after := #[{ on := 3, ground := Ground.data }], guard := none }) (v := ?vs4) rfl (by kernel_rfl) (by kernel_rfl) (by kernel_rfl) (fun _ _ _ h => h) (Or.inl ⟨by rfl, ?hys4⟩) (by assumption) ?rests4
  case hys4 => first | (intro w hSw; (try dsimp only at hSw); go_simp; done) | (intro w hSw; (try dsimp only at hSw); go_simp; with_reducible rfl)
  try simp only [Act.put, List.setIfInBounds_toArray, List.set_cons_zero, List.set_cons_succ]
  refine wpAnyH_take (i := 5) (oi := { dst := some 25, op := Op.move (Operand.tmp 1), type := 3, pos := "build.go:39", after := #[], guard := none }) (v := ?vs5) rfl (by kernel_rfl) (by kernel_rfl) (by kernel_rfl) (fun _ _ _ h => h) (Or.inl ⟨by rfl, ?hys5⟩) (by assumption) ?rests5
  case hys5 => first | (intro w hSw; (try dsimp only at hSw); go_simp; done) | (intro w hSw; (try dsimp only at hSw); go_simp; with_reducible rfl)
  try simp only [Act.put, List.setIfInBounds_toArray, List.set_cons_zero, List.set_cons_succ]
  refine wpAnyH_take (i := 6) (oi := { dst := some 26, op := Op.move (Operand.tmp 10), type := 3, pos := "build.go:39", after := #[], guard := none }) (v := ?vs6) rfl (by kernel_rfl) (by kernel_rfl) (by kernel_rfl) (fun _ _ _ h => h) (Or.inl ⟨by rfl, ?hys6⟩) (by assumption) ?rests6
  case hys6 => first | (intro w hSw; (try dsimp only at hSw); go_simp; done) | (intro w hSw; (try dsimp only at hSw); go_simp; with_reducible rfl)
  try simp only [Act.put, List.setIfInBounds_toArray, List.set_cons_zero, List.set_cons_succ]
  refine wpAnyH_take (i := 8) (oi := { dst := some 28, op := Op.move (Operand.tmp 0), type := 106, pos := "build.go:39", after := #[], guard := none }) (v := ?vs8) rfl (by kernel_rfl) (by kernel_rfl) (by kernel_rfl) (fun _ _ _ h => h) (Or.inl ⟨by rfl, ?hys8⟩) (by assumption) ?rests8
  case hys8 => first | (intro w hSw; (try dsimp only at hSw); go_simp; done) | (intro w hSw; (try dsimp only at hSw); go_simp; with_reducible rfl)
  try simp only [Act.put, List.setIfInBounds_toArray, List.set_cons_zero, List.set_cons_succ]
  refine wpAnyH_take (i := 9) (oi := { dst := some 29, op := Op.nilCheck (Operand.tmp 28), type := 0, pos := "build.go:39", after := #[{ on := 8, ground := Ground.data }], guard := none }) (v := ?vs9) rfl (by kernel_rfl) (by kernel_rfl) (by kernel_rfl) (fun _ _ _ h => h) (Or.inl ⟨by rfl, ?hys9⟩) (by assumption) ?rests9
  case hys9 => first | (intro w hSw; (try dsimp only at hSw); go_simp; done) | (intro w hSw; (try dsimp only at hSw); go_simp; with_reducible rfl)
  try simp only [Act.put, List.setIfInBounds_toArray, List.set_cons_zero, List.set_cons_succ]
  refine wpAnyH_take (i := 10) (oi := { dst := some 30, op := Op.fieldAddr 108 (Operand.tmp 29) 0, type := 0, pos := "build.go:39", after := #[{ on := 9, ground := Ground.data }], guard := none }) (v := ?vs10) rfl (by kernel_rfl) (by kernel_rfl) (by kernel_rfl) (fun _ _ _ h => h) (Or.inl ⟨by rfl, ?hys10⟩) (by assumption) ?rests10
  case hys10 => first | (intro w hSw; (try dsimp only at hSw); go_simp; done) | (intro w hSw; (try dsimp only at hSw); go_simp; with_reducible rfl)
  try simp only [Act.put, List.setIfInBounds_toArray, List.set_cons_zero, List.set_cons_succ]
  refine wpAnyH_take (i := 11) (oi := { dst := some 31, op := Op.load 29 (Operand.tmp 30), type := 29, pos := "build.go:39", after := #[{ on := 10, ground := Ground.data }], guard := none }) (v := ?vs11) rfl (by kernel_rfl) (by kernel_rfl) (by kernel_rfl) (fun _ _ _ h => h) (Or.inl ⟨by rfl, ?hys11⟩) (by assumption) ?rests11
  case hys11 => first | (intro w hSw; (try dsimp only at hSw); go_simp; done) | (intro w hSw; (try dsimp only at hSw); go_simp; with_reducible rfl)
  try simp only [Act.put, List.setIfInBounds_toArray, List.set_cons_zero, List.set_cons_succ]
  refine wpAnyH_take (i := 12) (oi := { dst := some 32, op := Op.move (Operand.tmp 1), type := 3, pos := "build.go:39", after := #[], guard := none }) (v := ?vs12) rfl (by kernel_rfl) (by kernel_rfl) (by kernel_rfl) (fun _ _ _ h => h) (Or.inl ⟨by rfl, ?hys12⟩) (by assumption) ?rests12
  case hys12 => first | (intro w hSw; (try dsimp only at hSw); go_simp; done) | (intro w hSw; (try dsimp only at hSw); go_simp; with_reducible rfl)
  try simp only [Act.put, List.setIfInBounds_toArray, List.set_cons_zero, List.set_cons_succ]
  refine wpAnyH_take (i := 13) (oi := { dst := some 33, op := Op.move (Operand.tmp 10), type := 3, pos := "build.go:39", after := #[], guard := none }) (v := ?vs13) rfl (by kernel_rfl) (by kernel_rfl) (by kernel_rfl) (fun _ _ _ h => h) (Or.inl ⟨by rfl, ?hys13⟩) (by assumption) ?rests13
  case hys13 => first | (intro w hSw; (try dsimp only at hSw); go_simp; done) | (intro w hSw; (try dsimp only at hSw); go_simp; with_reducible rfl)
  try simp only [Act.put, List.setIfInBounds_toArray, List.set_cons_zero, List.set_cons_succ]
  refine wpAnyH_take (i := 15) (oi := { dst := some 35, op := Op.load 34 (Operand.tmp 11), type := 34, pos := "build.go:39", after := #[], guard := none }) (v := ?vs15) rfl (by kernel_rfl) (by kernel_rfl) (by kernel_rfl) (fun _ _ _ h => h) (Or.inl ⟨by rfl, ?hys15⟩) (by assumption) ?rests15
  case hys15 => first | (intro w hSw; (try dsimp only at hSw); go_simp; done) | (intro w hSw; (try dsimp only at hSw); go_simp; with_reducible rfl)
  try simp only [Act.put, List.setIfInBounds_toArray, List.set_cons_zero, List.set_cons_succ]
  refine wpAnyH_take (i := 16) (oi := { dst := some 36, op := Op.move (Operand.tmp 4), type := 3, pos := "build.go:39", after := #[], guard := none }) (v := ?vs16) rfl (by kernel_rfl) (by kernel_rfl) (by kernel_rfl) (fun _ _ _ h => h) (Or.inl ⟨by rfl, ?hys16⟩) (by assumption) ?rests16
  case hys16 => first | (intro w hSw; (try dsimp only at hSw); go_simp; done) | (intro w hSw; (try dsimp only at hSw); go_simp; with_reducible rfl)
  try simp only [Act.put, List.setIfInBounds_toArray, List.set_cons_zero, List.set_cons_succ]
  refine wpAnyH_take (i := 17) (oi := { dst := some 37, op := Op.move (Operand.tmp 10), type := 3, pos := "build.go:39", after := #[], guard := none }) (v := ?vs17) rfl (by kernel_rfl) (by kernel_rfl) (by kernel_rfl) (fun _ _ _ h => h) (Or.inl ⟨by rfl, ?hys17⟩) (by assumption) ?rests17
  case hys17 => first | (intro w hSw; (try dsimp only at hSw); go_simp; done) | (intro w hSw; (try dsimp only at hSw); go_simp; with_reducible rfl)
  try simp only [Act.put, List.setIfInBounds_toArray, List.set_cons_zero, List.set_cons_succ]
  refine wpAnyH_take (i := 18) (oi := { dst := some 38, op := Op.binOp BinOp.add 3 (Operand.tmp 36) (Operand.tmp 37) 3, type := 3, pos := "build.go:39", after := #[{ on := 16, ground := Ground.data }, { on := 17, ground := Ground.data }], guard := none }) (v := ?vs18) rfl (by kernel_rfl) (by kernel_rfl) (by kernel_rfl) (fun _ _ _ h => h) (Or.inl ⟨by rfl, ?hys18⟩) (by assumption) ?rests18
  case hys18 => first | (intro w hSw; (try dsimp only at hSw); go_simp; done) | (intro w hSw; (try dsimp only at hSw); go_simp; with_reducible rfl)
  try simp only [Act.put, List.setIfInBounds_toArray, List.set_cons_zero, List.set_cons_succ]
  refine wpAnyH_ready (rs := [7]) (by kernel_rfl) (by simp) ?_
  refine AllReadyH.cons (o := { dst := some 27, op := Op.call { callee := Callee.value (Operand.func 46), args := #[Operand.tmp 24, Operand.tmp 25, Operand.tmp 26], argTypes := #[29, 3, 3] }, type := 3, pos := "build.go:39", after := #[{ on := 4, ground := Ground.data }, { on := 5, ground := Ground.data }, { on := 6, ground := Ground.data }], guard := none }) rfl (fun K hK => ?_) AllReadyH.nil
  go_simp
  ((refine (hkind1.out _ (HB.out _ (below_drewN _ _ 1)).1).mono ?_); rintro rs5 ws5 ⟨rfl, hbs5⟩)
  have has5 := (below_drewN _ _ 1).trans hbs5
  refine hK.out _ _ ?_ (fun hHeld => ?_)
  · exact FldS.of (HB.out _ has5).2.1.c0 (HB.out _ has5).2.2.1
  clear hK K
  try simp only [Act.put, List.setIfInBounds_toArray, List.set_cons_zero, List.set_cons_succ]
  refine wpAnyH_ready (rs := [14]) (by kernel_rfl) (by simp) ?_
  refine AllReadyH.cons (o := { dst := some 34, op := Op.call { callee := Callee.value (Operand.func 45), args := #[Operand.tmp 31, Operand.tmp 32, Operand.tmp 33], argTypes := #[29, 3, 3] }, type := 3, pos := "build.go:39", after := #[{ on := 11, ground := Ground.data }, { on := 12, ground := Ground.data }, { on := 13, ground := Ground.data }, { on := 7, ground := Ground.chain }], guard := none }) rfl (fun K hK => ?_) AllReadyH.nil
  go_simp
  ((refine (htype1.out _ (HB.out _ has5).1).mono ?_); rintro rs6 ws6 ⟨rfl, hbs6⟩)
  have has6 := has5.trans (hbs6.mono has5.size)
  refine hK.out _ _ ?_ (fun hHeld => ?_)
  · exact FldS.of (HB.out _ has6).2.1.c0 (HB.out _ has6).2.2.1
  clear hK K
  try simp only [Act.put, List.setIfInBounds_toArray, List.set_cons_zero, List.set_cons_succ]
  refine wpAnyH_ready (rs := [19]) (by kernel_rfl) (by simp) ?_
  refine AllReadyH.cons (o := { dst := some 39, op := Op.call { callee := Callee.value (Operand.tmp 20), args := #[Operand.tmp 27, Operand.tmp 34, Operand.tmp 35, Operand.tmp 38], argTypes := #[3, 3, 34, 3] }, type := 0, pos := "build.go:39", after := #[{ on := 0, ground := Ground.data }, { on := 7, ground := Ground.data }, { on := 14, ground := Ground.data }, { on := 15, ground := Ground.data }, { on := 18, ground := Ground.data }, { on := 14, ground := Ground.chain }], guard := none }) rfl (fun K hK => ?_) AllReadyH.nil
  go_simp
  ((refine (bfield_nums 0#64 ⟨#[]⟩ (.slice none 0 0) [5#64, 6#64] (by decide) (by decide) nb 0 2 0 2 B base g cap 3 sv [0#64, 7#64, 0#64] ws6 rfl (by omega) (by omega) hbB (HB.out _ has6).2.1 (HB.out _ has6).2.2.2.2 hnb).mono ?_); rintro rs7 ws7 ⟨rfl, ⟨wv7, hB7⟩, hb7, hk7⟩)
  refine hK.out _ _ ?_ (fun hHeld => ?_)
  · exact FldS.of hB7.c0 ((HB.out _ has6).2.2.1.of_block (hk7 _ (HB.out _ has6).2.2.1.lt (by omega) (by omega)) (tb_lt (HB.out _ has6).2.2.1 hk7 (by omega) (by omega)))
  clear hK K
  try simp only [Act.put, List.setIfInBounds_toArray, List.set_cons_zero, List.set_cons_succ]
  refine wpAnyH_done (by kernel_rfl) ?_ _
  have hbC := (HB.out _ has6).2.2.2.1.trans hb7
  clear hb7 hk7 has6 has5 hbs5 hbs6 hHeld HB hb2
  have hfin := hid (And.intro hB7 hbC)
  clear hB7 hbC hbA
  go_wp2_with fail
  rw [rounds_succ]
  go_wp2_with fail
  go_returns
  exact ⟨rfl, ⟨_, hfin.out.1⟩, hfin.out.2⟩
end Go.Proofs.YtmcpanjpjnlleaaDoor

