/- The document's Decode of layer 9. -/
import Derived.Test.YtogaclolodlnbaaGreatDoorRStrct9
import Derived.Test.YtogaclolodlnbaaGreatDoorLkDec
import Derived.Test.YtogaclolodlnbaaGreatDoorRCheck
set_option linter.unusedVariables false
set_option linter.unusedSimpArgs false
namespace Go.Proofs.YtogaclolodlnbaaGreatDoor
section SRDec9
open Go.RowKit

@[go_sem] theorem run_build_told2 (a b c d : Value) (w : World) : (Instr.build 66 #[(2, .agg #[a, b, c, d])]).run Tryz.prog w = .ok (.agg #[.int .i64 0, .int .u64 0, .string ⟨#[]⟩, .slice none 0 0, .slice none 0 0, a, b, c, d]) w := run_build w 66 _ _ (by kernel_rfl)
@[go_sem] theorem run_build_told3 (t : Int) (x0 x1 x2 x3 a b c d : Value) (w : World) : (Instr.build 66 #[(0, .int .i64 t), (1, .agg #[x0, x1, x2, x3]), (2, .agg #[a, b, c, d])]).run Tryz.prog w = .ok (.agg #[.int .i64 t, x0, x1, x2, x3, a, b, c, d]) w := run_build w 66 _ _ (by kernel_rfl)
/-- A box of nine cells. -/
structure C9 (w : World) (B : Nat) (x0 x1 x2 x3 x4 x5 x6 x7 x8 : Value) : Prop where
  lt : B < w.heap.size
  c0 : w.cell? ⟨B, 0, none⟩ = some x0
  c1 : w.cell? ⟨B, 1, none⟩ = some x1
  c2 : w.cell? ⟨B, 2, none⟩ = some x2
  c3 : w.cell? ⟨B, 3, none⟩ = some x3
  c4 : w.cell? ⟨B, 4, none⟩ = some x4
  c5 : w.cell? ⟨B, 5, none⟩ = some x5
  c6 : w.cell? ⟨B, 6, none⟩ = some x6
  c7 : w.cell? ⟨B, 7, none⟩ = some x7
  c8 : w.cell? ⟨B, 8, none⟩ = some x8
  fz : ∀ j, w.frozen? ⟨B, j, none⟩ = false
theorem C9.of_block {w w' : World} {B : Nat} {x0 x1 x2 x3 x4 x5 x6 x7 x8 : Value} (h : C9 w B x0 x1 x2 x3 x4 x5 x6 x7 x8) (hb : w'.heap[B]? = w.heap[B]?) (hs : B < w'.heap.size) : C9 w' B x0 x1 x2 x3 x4 x5 x6 x7 x8 := by
  have e : ∀ j, w'.cell? ⟨B, j, none⟩ = w.cell? ⟨B, j, none⟩ := fun j => World.cell?_of_block (a := ⟨B, j, none⟩) hb
  have e2 : ∀ j, w'.frozen? ⟨B, j, none⟩ = w.frozen? ⟨B, j, none⟩ := fun j => World.frozen?_of_block (a := ⟨B, j, none⟩) hb
  exact ⟨hs, by rw [e]; exact h.c0, by rw [e]; exact h.c1, by rw [e]; exact h.c2, by rw [e]; exact h.c3, by rw [e]; exact h.c4, by rw [e]; exact h.c5, by rw [e]; exact h.c6, by rw [e]; exact h.c7, by rw [e]; exact h.c8, fun j => by rw [e2]; exact h.fz j⟩
theorem C9.below {w w' : World} {B : Nat} {x0 x1 x2 x3 x4 x5 x6 x7 x8 : Value} (h : C9 w B x0 x1 x2 x3 x4 x5 x6 x7 x8) (hb : Below w.heap.size w w') : C9 w' B x0 x1 x2 x3 x4 x5 x6 x7 x8 := h.of_block (hb.block B h.lt) (Nat.lt_of_lt_of_le h.lt hb.size)
theorem C9.sets {w : World} {B : Nat} {x0 x1 x2 x3 x4 x5 x6 x7 x8 : Value} (h : C9 w B x0 x1 x2 x3 x4 x5 x6 x7 x8) (y0 y1 y2 y3 y4 y5 y6 y7 y8 : Value) : C9 (((((((((w.setCell ⟨B, 0, none⟩ y0).setCell ⟨B, 1, none⟩ y1).setCell ⟨B, 2, none⟩ y2).setCell ⟨B, 3, none⟩ y3).setCell ⟨B, 4, none⟩ y4).setCell ⟨B, 5, none⟩ y5).setCell ⟨B, 6, none⟩ y6).setCell ⟨B, 7, none⟩ y7).setCell ⟨B, 8, none⟩ y8) B y0 y1 y2 y3 y4 y5 y6 y7 y8 := by
  obtain ⟨lt, c0, c1, c2, c3, c4, c5, c6, c7, c8, fz⟩ := h
  refine ⟨by simpa [World.setCell] using lt, ?_, ?_, ?_, ?_, ?_, ?_, ?_, ?_, ?_, fun j => ?_⟩
  all_goals simp [go_sem, lt, c0, c1, c2, c3, c4, c5, c6, c7, c8, fz]
theorem C9.make (w : World) (x0 x1 x2 x3 x4 x5 x6 x7 x8 : Value) (T : TypeId) : ∃ w1, w.alloc (.cells #[x0, x1, x2, x3, x4, x5, x6, x7, x8] T) = w1 ∧ Below w.heap.size w w1 ∧ w1.heap.size = w.heap.size + 1 ∧ C9 w1 w.heap.size x0 x1 x2 x3 x4 x5 x6 x7 x8 :=
  ⟨_, rfl, below_alloc _ _, by simp, by simp, by simp, by simp, by simp, by simp, by simp, by simp, by simp, by simp, by simp, fun j => by simp [go_sem]⟩

def RDecP (s : Schema) (ws : List (BitVec 64)) (w : World) (e : Ending) (w' : World) : Prop :=
  ∃ x0 x1 x2 x3, e = .returned (.agg #[.int .i64 (decT s ws), x0, x1, x2, x3, .int .i64 (allW s ws).1, .int .i64 (((allW s ws).2.1.getD 0 : Nat) : Int), .bool (allW s ws).2.1.isSome, .int .i64 (((allW s ws).2.2 : Nat) : Int)]) ∧ Below w.heap.size w w' ∧
    KW (fun b => b < w.heap.size) w' (fun W => RdS 5 W [x0, x1, x2, x3] (decV s ws))

set_option maxRecDepth 100000 in
set_option maxHeartbeats 8000000 in
theorem rdec9_any (s : Schema) (ws : List (BitVec 64)) (sv wv : Value) (w : World) (hs : Sch w sv s) (hw : Row w 1 wv ws.length (ws.map U)) :
    Calls Tryz.prog 18 #[sv, wv] w (RDecP s ws w) := by
  obtain ⟨w1, hw1, hb1, hz1, hR⟩ := C9.make w (.int .i64 0) (.int .u64 0) (.string ⟨#[]⟩) (.slice none 0 0) (.slice none 0 0) (.int .i64 0) (.int .i64 0) (.bool false) (.int .i64 0) 66
  have hrc := hid (rcheck_any s ws sv wv w1 (hs.below hb1 (Nat.le_refl _)) (hw.below hb1 (Nat.le_refl _)))
  have Hs := hid fun W (hW : Below w1.heap.size w1 W) => hs.below (hb1.trans (hW.mono hb1.size)) (Nat.le_refl _)
  have Hw := hid fun W (hW : Below w1.heap.size w1 W) => hw.below (hb1.trans (hW.mono hb1.size)) (Nat.le_refl _)
  obtain ⟨sa, scap, hsv, -⟩ := hs.shape
  obtain ⟨ns, hns⟩ : ∃ ns, ns = s.length := ⟨_, rfl⟩
  rw [← hns] at hsv
  subst hsv
  obtain ⟨⟨e, p, n⟩, hA⟩ : ∃ r, allW s ws = r := ⟨_, rfl⟩
  have HA := hid hA
  rw [hA] at hrc
  unfold lookC at hrc
  simp only at hrc
  obtain ⟨pd, hpd⟩ : ∃ pd : Int, ((p.getD 0 : Nat) : Int) = pd := ⟨_, rfl⟩
  obtain ⟨ps, hps⟩ : ∃ ps, p.isSome = ps := ⟨_, rfl⟩
  have Hpd := hid hpd
  have Hps := hid hps
  rw [hpd, hps] at hrc
  have Hb1 := hid hb1
  clear hs hw hns hA hpd hps
  by_cases h0 : e = 0
  · subst h0
    have hz : (allW s ws).1 = 0 := by rw [HA.out]
    obtain ⟨hr, hL0, hL200, hlo, hhi, hv⟩ := all_vis hz
    have HT := hid (show decT s ws = ((hiN (ws.getD 0 0#64) : Nat) : Int) from if_pos hz)
    have HV := hid (show decV s ws = decS s ws 4 (hiN (ws.getD 0 0#64) : Nat) 1 from if_pos hz)
    obtain ⟨x, hx⟩ : ∃ x, x = ws.getD 0 0#64 := ⟨_, rfl⟩
    rw [← hx] at hv HT HV hhi
    obtain ⟨tn, htn⟩ : ∃ tn, tn = hiN x := ⟨_, rfl⟩
    have hshr : (x >>> 32).toInt = (tn : Int) := by rw [hi_shr, htn]; rfl
    rw [← htn] at hv HT HV hhi
    have Hx0 := hid fun (W : World) (hW : Below w1.heap.size w1 W) => show ∃ bw offw cap, wv = .slice (some ⟨bw, offw, none⟩) ws.length cap ∧ W.cell? ⟨bw, offw, none⟩ = some (U x) from by
      obtain ⟨bw, offw, cap, e, -, -, -, hc⟩ := (Hw.out W hW).cons hL0
      have h := hc 0 (by omega)
      rw [Nat.add_zero] at h
      refine ⟨bw, offw, cap, e, ?_⟩
      rw [h, hx, List.getElem?_map, List.getElem?_eq_getElem hL0, List.getD_eq_getElem?_getD, List.getElem?_eq_getElem hL0]
      rfl
    have Hst := hid fun W (hW : Below w1.heap.size w1 W) => strct9_any s hr ws hL0 hL200 _ wv 4 tn hhi 1 W (Hs.out W hW) (Hw.out W hW) hv
    obtain ⟨L, hL⟩ : ∃ L, L = ws.length := ⟨_, rfl⟩
    rw [← hL] at Hx0
    have hLp : (0 : Int) < (L : Int) := by omega
    obtain ⟨bw, offw, cap, rfl, -⟩ := Hx0.out w1 (Below.refl _ _)
    clear hv hx htn hlo hhi hL hz Hw Hs hL0
    go_enter Tryz.func18, Tryz.ntmps18
    go_wp2_with fail
    ((refine hrc.out.mono ?_); rintro r1 w2 ⟨rfl, hb2⟩)
    obtain ⟨w3, hw3, hb3, hlB, hbox⟩ := boxed w2 #[.int .i64 0, .int .i64 pd, .bool ps, .int .i64 (n : Int)] 64
    have hb23 := via hb2 hb3
    have d0 := hbox 0
    have d1 := hbox 1
    have d2 := hbox 2
    have d3 := hbox 3
    simp only [List.getElem?_toArray, List.getElem?_cons_succ, List.getElem?_cons_zero] at d0 d1 d2 d3
    obtain ⟨B, hBe⟩ : ∃ B, w2.heap.size = B := ⟨_, rfl⟩
    rw [hBe] at d0 d1 d2 d3 hlB
    have hR3 := hR.below hb23
    obtain ⟨bw', offw', cap', e', xc⟩ := Hx0.out w3 hb23
    simp only [Value.slice.injEq, Option.some.injEq, Addr.mk.injEq, and_true, true_and] at e'
    obtain ⟨⟨rfl, rfl⟩, rfl⟩ := e'
    have hst := hid fun W (hW : Below w3.heap.size w3 W) => Hst.out W (via hb23 hW)
    unfold DecP at hst
    have hlR3 := hR3.lt
    clear hrc hw1 hbox Hst Hx0
    go_wp2_with fail
    refine wp_region_kept 7 (fun W => W.cell? ⟨B, 0, none⟩ = some (.int .i64 0) ∧ W.cell? ⟨B, 1, none⟩ = some (.int .i64 pd) ∧ W.cell? ⟨B, 2, none⟩ = some (.bool ps) ∧ W.cell? ⟨B, 3, none⟩ = some (.int .i64 (n : Int))) (by kernel_rfl) ?_ (fun hHeld => ?_)
    · exact ⟨d0, d1, d2, d3⟩
    refine wpAnyK_take (i := 0) (oi := { dst := some 20, op := Op.move (Operand.tmp 6), type := 3, pos := "ref.go:52", after := #[], guard := none }) (v := ?vd0) rfl (by kernel_rfl) (by kernel_rfl) (by kernel_rfl) (by kernel_rfl) (fun _ _ _ h => h) (Or.inl ⟨by rfl, ?hyd0⟩) (by assumption) ?restd0
    case hyd0 => first | (intro w hSw; (try dsimp only at hSw); go_simp; done) | (intro w hSw; (try dsimp only at hSw); go_simp; with_reducible rfl)
    try simp only [Act.put, List.setIfInBounds_toArray, List.set_cons_zero, List.set_cons_succ]
    refine wpAnyK_take (i := 1) (oi := { dst := some 21, op := Op.move (Operand.tmp 0), type := 33, pos := "ref.go:52", after := #[], guard := none }) (v := ?vd1) rfl (by kernel_rfl) (by kernel_rfl) (by kernel_rfl) (by kernel_rfl) (fun _ _ _ h => h) (Or.inl ⟨by rfl, ?hyd1⟩) (by assumption) ?restd1
    case hyd1 => first | (intro w hSw; (try dsimp only at hSw); go_simp; done) | (intro w hSw; (try dsimp only at hSw); go_simp; with_reducible rfl)
    try simp only [Act.put, List.setIfInBounds_toArray, List.set_cons_zero, List.set_cons_succ]
    refine wpAnyK_take (i := 2) (oi := { dst := some 22, op := Op.move (Operand.tmp 1), type := 22, pos := "ref.go:52", after := #[], guard := none }) (v := ?vd2) rfl (by kernel_rfl) (by kernel_rfl) (by kernel_rfl) (by kernel_rfl) (fun _ _ _ h => h) (Or.inl ⟨by rfl, ?hyd2⟩) (by assumption) ?restd2
    case hyd2 => first | (intro w hSw; (try dsimp only at hSw); go_simp; done) | (intro w hSw; (try dsimp only at hSw); go_simp; with_reducible rfl)
    try simp only [Act.put, List.setIfInBounds_toArray, List.set_cons_zero, List.set_cons_succ]
    refine wpAnyK_take (i := 3) (oi := { dst := some 23, op := Op.move (Operand.tmp 6), type := 3, pos := "ref.go:52", after := #[], guard := none }) (v := ?vd3) rfl (by kernel_rfl) (by kernel_rfl) (by kernel_rfl) (by kernel_rfl) (fun _ _ _ h => h) (Or.inl ⟨by rfl, ?hyd3⟩) (by assumption) ?restd3
    case hyd3 => first | (intro w hSw; (try dsimp only at hSw); go_simp; done) | (intro w hSw; (try dsimp only at hSw); go_simp; with_reducible rfl)
    try simp only [Act.put, List.setIfInBounds_toArray, List.set_cons_zero, List.set_cons_succ]
    refine wpAnyK_take (i := 5) (oi := { dst := some 25, op := Op.load 64 (Operand.tmp 5), type := 64, pos := "ref.go:52", after := #[], guard := none }) (v := ?vd5) rfl (by kernel_rfl) (by kernel_rfl) (by kernel_rfl) (by kernel_rfl) (fun _ _ _ h => h) (Or.inl ⟨by rfl, ?hyd5⟩) (by assumption) ?restd5
    case hyd5 => first | (intro w hSw; (try dsimp only at hSw); go_simp; done) | (intro w hSw; (try dsimp only at hSw); go_simp; with_reducible rfl)
    try simp only [Act.put, List.setIfInBounds_toArray, List.set_cons_zero, List.set_cons_succ]
    refine wpAnyK_ready (rs := [4]) (by kernel_rfl) (by simp) ?_
    refine AllReadyK.cons (o := { dst := some 24, op := Op.call { callee := Callee.value (Operand.func 45), args := #[Operand.tmp 21, Operand.tmp 22, Operand.tmp 23, Operand.const (Value.int IntKind.i64 1)], argTypes := #[33, 22, 3, 3] }, type := 36, pos := "ref.go:52", after := #[{ on := 1, ground := Ground.data }, { on := 2, ground := Ground.data }, { on := 3, ground := Ground.data }], guard := none }) rfl (fun K hK => ?_) AllReadyK.nil
    go_simp
    ((refine (hst.out _ (below_drewN _ w3 1)).mono ?_); rintro rt wt ⟨cs, rfl, hbt, hkw⟩)
    have hbt2 := (below_drewN w3.heap.size w3 1).trans hbt
    obtain ⟨y0, y1, a2, m2, p2, a3, m3, p3, rfl⟩ := form_S 5 _ _ _ hkw.now
    refine hK.out _ _ (.inr ?_) (fun hHeld0 => ?_)
    · exact ⟨(hbt2.cell (p := ⟨B, 0, none⟩) hlB).trans d0, (hbt2.cell (p := ⟨B, 1, none⟩) hlB).trans d1, (hbt2.cell (p := ⟨B, 2, none⟩) hlB).trans d2, (hbt2.cell (p := ⟨B, 3, none⟩) hlB).trans d3⟩
    have hHeld := hHeld0.resolve_left (by decide)
    clear hHeld0 hK K
    try simp only [Act.put, List.setIfInBounds_toArray, List.set_cons_zero, List.set_cons_succ]
    have hR9 := hR3.below hbt2
    have ⟨_, r0, r1, r2, r3, r4, r5, r6, r7, r8, rf⟩ := hR9
    have f0 := rf 0
    have f1 := rf 1
    have f2 := rf 2
    have f3 := rf 3
    have f4 := rf 4
    have f5 := rf 5
    have f6 := rf 6
    have f7 := rf 7
    have f8 := rf 8
    refine wpAnyK_take (i := 6) (oi := { dst := some 26, op := Op.build 66 #[(0, Operand.tmp 20), (1, Operand.tmp 24), (2, Operand.tmp 25)], type := 66, pos := "ref.go:52", after := #[{ on := 0, ground := Ground.data }, { on := 4, ground := Ground.data }, { on := 5, ground := Ground.data }], guard := none }) (v := ?vd6) rfl (by kernel_rfl) (by kernel_rfl) (by kernel_rfl) (by kernel_rfl) (fun _ _ _ h => h) (Or.inl ⟨by rfl, ?hyd6⟩) (by assumption) ?restd6
    case hyd6 => first | (intro w hSw; (try dsimp only at hSw); go_simp; done) | (intro w hSw; (try dsimp only at hSw); go_simp; with_reducible rfl)
    try simp only [Act.put, List.setIfInBounds_toArray, List.set_cons_zero, List.set_cons_succ]
    refine wpAnyK_ready (rs := [7]) (by kernel_rfl) (by simp) ?_
    refine AllReadyK.cons (o := { dst := none, op := Op.store 66 (Operand.tmp 4) (Operand.tmp 26), type := 0, pos := "ref.go:52", after := #[{ on := 6, ground := Ground.data }, { on := 4, ground := Ground.chain }, { on := 0, ground := Ground.phase }, { on := 1, ground := Ground.phase }, { on := 2, ground := Ground.phase }, { on := 3, ground := Ground.phase }, { on := 4, ground := Ground.phase }, { on := 5, ground := Ground.phase }, { on := 6, ground := Ground.phase }], guard := none }) rfl (fun K hK => ?_) AllReadyK.nil
    go_simp
    refine hK.out _ _ (.inl rfl) (fun hHeld0 => ?_)
    clear hHeld0 hK K
    try simp only [Act.put, List.setIfInBounds_toArray, List.set_cons_zero, List.set_cons_succ]
    refine wpAnyK_done (by kernel_rfl) ?_ _
    obtain ⟨w9, hw9⟩ : ∃ w9, w9 = (((((((((wt.setCell ⟨w.heap.size, 0, none⟩ (.int .i64 tn)).setCell ⟨w.heap.size, 1, none⟩ (U y0)).setCell ⟨w.heap.size, 2, none⟩ (.string y1)).setCell ⟨w.heap.size, 3, none⟩ (.slice a2 m2 p2)).setCell ⟨w.heap.size, 4, none⟩ (.slice a3 m3 p3)).setCell ⟨w.heap.size, 5, none⟩ (.int .i64 0)).setCell ⟨w.heap.size, 6, none⟩ (.int .i64 pd)).setCell ⟨w.heap.size, 7, none⟩ (.bool ps)).setCell ⟨w.heap.size, 8, none⟩ (.int .i64 (n : Int))) := ⟨_, rfl⟩
    have hQ9 : C9 w9 w.heap.size (.int .i64 tn) (U y0) (.string y1) (.slice a2 m2 p2) (.slice a3 m3 p3) (.int .i64 0) (.int .i64 pd) (.bool ps) (.int .i64 (n : Int)) := by rw [hw9]; exact hR9.sets _ _ _ _ _ _ _ _ _
    have hk9 : ∀ b, b ≠ w.heap.size → w9.heap[b]? = wt.heap[b]? := fun b hb => by
      rw [hw9]; repeat rw [Below.heap_setCell _ _ _ _ hb]
    have hs9 : w9.heap.size = wt.heap.size := by rw [hw9]; simp [World.setCell]
    have hb1t := via hb23 hbt2
    have hbl9 : Below w.heap.size w w9 := by
      rw [hw9]
      exact ((((((((((Hb1.out.trans (hb1t.mono Hb1.out.size)).setCell (p := ⟨w.heap.size, 0, none⟩) (Nat.le_refl _) _).setCell (p := ⟨w.heap.size, 1, none⟩) (Nat.le_refl _) _).setCell (p := ⟨w.heap.size, 2, none⟩) (Nat.le_refl _) _).setCell (p := ⟨w.heap.size, 3, none⟩) (Nat.le_refl _) _).setCell (p := ⟨w.heap.size, 4, none⟩) (Nat.le_refl _) _).setCell (p := ⟨w.heap.size, 5, none⟩) (Nat.le_refl _) _).setCell (p := ⟨w.heap.size, 6, none⟩) (Nat.le_refl _) _).setCell (p := ⟨w.heap.size, 7, none⟩) (Nat.le_refl _) _).setCell (p := ⟨w.heap.size, 8, none⟩) (Nat.le_refl _) _)
    have Hfin := hid (show KW (fun b => b < w.heap.size) w9 (fun W => RdS 5 W [(U y0), (.string y1), (.slice a2 m2 p2), (.slice a3 m3 p3)] (decV s ws)) from by
      rw [HV.out]
      exact hkw.step (by rw [hs9]; exact Nat.le_refl _) fun b hb hg => ⟨fun e => hg (show b < w3.heap.size by have := Hb1.out.size; have := hb23.size; omega), hk9 b fun e => hg (show b < w3.heap.size by omega)⟩)
    have hw9' := hw9.symm
    rw [hw9']
    have ⟨_, s0, s1, s2, s3, s4, s5, s6, s7, s8, _⟩ := hQ9
    clear r0 f0 r1 f1 r2 f2 r3 f3 r4 f4 r5 f5 r6 f6 r7 f7 r8 f8 rf
    clear hw9 hk9 hkw
    go_wp2_with fail
    (try simp only [Exit.inBlock, Exit.then])
    refine bodyPost_ret (by simp [results, Tryz.results18, go_sem, s0, s1, s2, s3, s4, s5, s6, s7, s8]; try rfl) rfl ?_
    exact ⟨_, _, _, _, by rw [HT.out, HA.out, ← Hpd.out, ← Hps.out], hbl9, Hfin.out⟩
  · have hz : ¬ (allW s ws).1 = 0 := by rw [HA.out]; exact h0
    have HT := hid (show decT s ws = 0 from if_neg hz)
    have HV := hid (show decV s ws = (⟨0#64, ⟨#[]⟩, [], []⟩ : Node (Node (St 4))) from if_neg hz)
    have hne : (e != 0) = true := by simpa using h0
    obtain ⟨wa, wc, hwv, -⟩ := (Hw.out w1 (Below.refl _ _)).open
    obtain ⟨L, hL⟩ : ∃ L, L = ws.length := ⟨_, rfl⟩
    rw [← hL] at hwv
    subst hwv
    clear Hs Hw hz h0 hL
    go_enter Tryz.func18, Tryz.ntmps18
    go_wp2_with fail
    ((refine hrc.out.mono ?_); rintro r1 w2 ⟨rfl, hb2⟩)
    obtain ⟨w3, hw3, hb3, hlB, hbox⟩ := boxed w2 #[.int .i64 e, .int .i64 pd, .bool ps, .int .i64 (n : Int)] 64
    have hb23 := via hb2 hb3
    have d0 := hbox 0
    have d1 := hbox 1
    have d2 := hbox 2
    have d3 := hbox 3
    simp only [List.getElem?_toArray, List.getElem?_cons_succ, List.getElem?_cons_zero] at d0 d1 d2 d3
    obtain ⟨B, hBe⟩ : ∃ B, w2.heap.size = B := ⟨_, rfl⟩
    rw [hBe] at d0 d1 d2 d3 hlB
    have hR9 := hR.below hb23
    have ⟨_, r0, r1, r2, r3, r4, r5, r6, r7, r8, rf⟩ := hR9
    have f0 := rf 0
    have f1 := rf 1
    have f2 := rf 2
    have f3 := rf 3
    have f4 := rf 4
    have f5 := rf 5
    have f6 := rf 6
    have f7 := rf 7
    have f8 := rf 8
    obtain ⟨w9, hw9⟩ : ∃ w9, w9 = (((((((((w3.setCell ⟨w.heap.size, 0, none⟩ (.int .i64 0)).setCell ⟨w.heap.size, 1, none⟩ (.int .u64 0)).setCell ⟨w.heap.size, 2, none⟩ (.string ⟨#[]⟩)).setCell ⟨w.heap.size, 3, none⟩ (.slice none 0 0)).setCell ⟨w.heap.size, 4, none⟩ (.slice none 0 0)).setCell ⟨w.heap.size, 5, none⟩ (.int .i64 e)).setCell ⟨w.heap.size, 6, none⟩ (.int .i64 pd)).setCell ⟨w.heap.size, 7, none⟩ (.bool ps)).setCell ⟨w.heap.size, 8, none⟩ (.int .i64 (n : Int))) := ⟨_, rfl⟩
    have hQ9 : C9 w9 w.heap.size (.int .i64 0) (.int .u64 0) (.string ⟨#[]⟩) (.slice none 0 0) (.slice none 0 0) (.int .i64 e) (.int .i64 pd) (.bool ps) (.int .i64 (n : Int)) := by rw [hw9]; exact hR9.sets _ _ _ _ _ _ _ _ _
    have hk9 : ∀ b, b ≠ w.heap.size → w9.heap[b]? = w3.heap[b]? := fun b hb => by
      rw [hw9]; repeat rw [Below.heap_setCell _ _ _ _ hb]
    have hs9 : w9.heap.size = w3.heap.size := by rw [hw9]; simp [World.setCell]
    have hbl9 : Below w.heap.size w w9 := by
      rw [hw9]
      exact ((((((((((Hb1.out.trans (hb23.mono Hb1.out.size)).setCell (p := ⟨w.heap.size, 0, none⟩) (Nat.le_refl _) _).setCell (p := ⟨w.heap.size, 1, none⟩) (Nat.le_refl _) _).setCell (p := ⟨w.heap.size, 2, none⟩) (Nat.le_refl _) _).setCell (p := ⟨w.heap.size, 3, none⟩) (Nat.le_refl _) _).setCell (p := ⟨w.heap.size, 4, none⟩) (Nat.le_refl _) _).setCell (p := ⟨w.heap.size, 5, none⟩) (Nat.le_refl _) _).setCell (p := ⟨w.heap.size, 6, none⟩) (Nat.le_refl _) _).setCell (p := ⟨w.heap.size, 7, none⟩) (Nat.le_refl _) _).setCell (p := ⟨w.heap.size, 8, none⟩) (Nat.le_refl _) _)
    have hw9' := hw9.symm
    have ⟨_, s0, s1, s2, s3, s4, s5, s6, s7, s8, _⟩ := hQ9
    clear hrc hw1 hbox hw9 hk9
    go_wp2_with fail
    clear r0 f0 r1 f1 r2 f2 r3 f3 r4 f4 r5 f5 r6 f6 r7 f7 r8 f8 rf
    (try simp only [Exit.inBlock, Exit.then])
    refine bodyPost_ret (by simp [results, Tryz.results18, go_sem, s0, s1, s2, s3, s4, s5, s6, s7, s8]; try rfl) rfl ?_
    exact ⟨_, _, _, _, by rw [HT.out, HA.out, ← Hpd.out, ← Hps.out], hbl9, fun W hW => by
      rw [HV.out]
      exact RdN.mk' (t := (⟨0#64, ⟨#[]⟩, [], []⟩ : Node (Node (St 4)))) ⟨by show (⟨#[]⟩ : ByteArray).size ≤ 1000; decide, by simp, by simp⟩ (Row.nil W 1) (Kids.nil _ W)⟩
end SRDec9

end Go.Proofs.YtogaclolodlnbaaGreatDoor

