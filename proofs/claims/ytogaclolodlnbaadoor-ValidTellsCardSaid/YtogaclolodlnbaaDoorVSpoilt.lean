/- Layer 8's spoilt: whatever comes of it is a row of words, no longer than it was. -/
import Derived.Test.YtogaclolodlnbaaDoorLVCut
set_option linter.unusedVariables false
set_option linter.unusedSimpArgs false
namespace Go.Proofs.YtogaclolodlnbaaDoor
section SVSpoilt
open Go.RowKit

def SpoR (w : World) (n : Nat) (e : Ending) (w' : World) : Prop := ∃ (v : Value) (ys : List (BitVec 64)), e = .returned v ∧ ys.length ≤ n ∧ Row w' 1 v ys.length (ys.map U) ∧ Below w.heap.size w w'
theorem SpoR.same {w w' : World} {g n c : Nat} {ws : List (BitVec 64)} {base : Nat} (hn : ws.length = n) (h : w'.ownsRow base 38 1 (.slice (some ⟨g, 0, none⟩) n c) n (ws.map U)) (hb : Below w.heap.size w w') : SpoR w n (.returned (.slice (some ⟨g, 0, none⟩) n c)) w' := by
  subst hn
  exact ⟨_, ws, rfl, Nat.le_refl _, Row.of_owns h, hb⟩
theorem SpoR.set {w w4 w' : World} {g n c i k : Nat} {ws : List (BitVec 64)} {base : Nat} (y : BitVec 64) (hn : ws.length = n) (h : w4.ownsRow base 38 1 (.slice (some ⟨g, 0, none⟩) n c) n (ws.map U)) (hbase : w.heap.size ≤ base) (hb : Below w.heap.size w w4)
    (hw : w' = (w4.setCell ⟨g, i, none⟩ (U y)).drewN k) : SpoR w n (.returned (.slice (some ⟨g, 0, none⟩) n c)) w' := by
  subst hn hw
  have hs := own_setN h i (U y)
  rw [← List.map_set] at hs
  have hb2 := (hb.setCell (p := ⟨g, i, none⟩) (Nat.le_trans hbase (own_blk h (g := g) rfl).2) (U y)).trans (below_drewN _ _ k)
  have hr := (Row.of_owns hs).drewN (k := k)
  refine ⟨_, ws.set i y, rfl, by rw [List.length_set]; exact Nat.le_refl _, ?_, hb2⟩
  rw [List.length_set]
  exact hr
theorem SpoR.cut {w w' : World} {g n c i : Nat} {ws : List (BitVec 64)} {base : Nat} (hn : ws.length = n) (h : w'.ownsRow base 38 1 (.slice (some ⟨g, 0, none⟩) n c) n (ws.map U)) (hi : i ≤ n) (hb : Below w.heap.size w w') : SpoR w n (.returned (.slice (some ⟨g, 0, none⟩) i c)) w' := by
  subst hn
  refine ⟨_, ws.take i, rfl, by rw [List.length_take]; omega, ?_, hb⟩
  have := (Row.of_owns h).cut i hi
  rw [Nat.mul_one, ← List.map_take] at this
  rw [show (ws.take i).length = i by rw [List.length_take]; omega]
  exact this

theorem SpoR.setcut {w w4 w' : World} {g n c i k : Nat} {ws : List (BitVec 64)} {base : Nat} (y : BitVec 64) (hn : ws.length = n) (h : w4.ownsRow base 38 1 (.slice (some ⟨g, 0, none⟩) n c) n (ws.map U)) (hi : i ≤ n) (hbase : w.heap.size ≤ base) (hb : Below w.heap.size w w4)
    (hw : w' = w4.setCell ⟨g, k, none⟩ (U y)) : SpoR w n (.returned (.slice (some ⟨g, 0, none⟩) i c)) w' := by
  subst hn hw
  have hs := own_setN h k (U y)
  rw [← List.map_set] at hs
  have hl : (ws.set k y).length = ws.length := List.length_set
  exact SpoR.cut hl hs hi (hb.setCell (p := ⟨g, k, none⟩) (Nat.le_trans hbase (own_blk h (g := g) rfl).2) (U y))
theorem own_cap {w : World} {base g n c : Nat} {e : TypeId} {sz : Nat} {xs : List Value} (h : w.ownsRow base e sz (.slice (some ⟨g, 0, none⟩) n c) n xs) : n ≤ c := by
  obtain ⟨a, c2, e2, hle, _⟩ := (Row.of_owns h).shape
  simp only [Value.slice.injEq] at e2
  rw [e2.2.2]; exact hle

set_option maxRecDepth 100000 in
set_option maxHeartbeats 8000000 in
theorem vspoilt_any (wv : Value) (ws : List (BitVec 64)) (how at_ by_ : Int) (x : BitVec 64) (w : World) (hw : Row w 1 wv ws.length (ws.map U)) (hL : ws.length ≤ 1000) (hat : -9223372036854775808 ≤ at_ ∧ at_ ≤ 9223372036854775807) :
    Calls Tryd.prog 21 #[wv, .agg #[.int .i64 how, .int .i64 at_, .int .i64 by_, U x]] w (SpoR w ws.length) := by
  obtain ⟨iU, hiU, hzU, hsU, hbU⟩ := info_parts (show (Tryd.prog.info? 38).map (fun i => (i.zero, i.size, i.bytes)) = some (some (.int .u64 0), 1, 8) by kernel_rfl)
  obtain ⟨w1, hw1, hb1, hlt1, hbox1⟩ := boxed w #[.int .i64 how, .int .i64 at_, .int .i64 by_, U x] 40
  have q0 : w1.cell? ⟨w.heap.size, 0, none⟩ = some (.int .i64 how) := hbox1 0
  have q1 : w1.cell? ⟨w.heap.size, 1, none⟩ = some (.int .i64 at_) := hbox1 1
  have q2 : w1.cell? ⟨w.heap.size, 2, none⟩ = some (.int .i64 by_) := hbox1 2
  have q3 : w1.cell? ⟨w.heap.size, 3, none⟩ = some (U x) := hbox1 3
  clear hbox1
  by_cases h0 : ws.length = 0
  · obtain ⟨wa, wc, rfl, -⟩ := hw.open
    have hfin := hid (show SpoR w ws.length (.returned (.slice wa ws.length wc)) w1 from ⟨_, ws, rfl, Nat.le_refl _, hw.below hb1 (Nat.le_refl _), hb1⟩)
    clear hw
    rw [h0] at hfin ⊢
    go_enter Tryd.func21, Tryd.ntmps21
    go_wp2_with fail
    go_returns
    exact hfin.out
  obtain ⟨bw, offw, cap, rfl, hcap1, hcap2, hbw, hcw⟩ := hw.cons (by omega)
  obtain ⟨L, hLe⟩ : ∃ L, L = ws.length := ⟨_, rfl⟩
  have HL := hid hLe.symm
  rw [← hLe] at h0 hL hcap1 hcw ⊢
  have hNp : 1 ≤ L := by omega
  have hNz : ((L : Int) == 0) = false := by rw [beq_eq_false_iff_ne]; omega
  have t1 := Int.tmod_lt_of_pos at_ (show (0 : Int) < L by omega)
  have t2 := Int.lt_tmod_of_pos at_ (show (0 : Int) < L by omega)
  obtain ⟨z, hz⟩ : ∃ z, Int.tmod at_ (L : Int) = z := ⟨_, rfl⟩
  rw [hz] at t1 t2
  have e0 := Int.emod_nonneg (z + (L : Int)) (show (L : Int) ≠ 0 by omega)
  have e1 := Int.emod_lt_of_pos (z + (L : Int)) (show (0 : Int) < L by omega)
  obtain ⟨i, hi⟩ : ∃ i : Nat, (z + (L : Int)) % (L : Int) = (i : Int) := ⟨((z + (L : Int)) % (L : Int)).toNat, by omega⟩
  have hi' : z % (L : Int) = (i : Int) := by rw [← hi]; simp
  have hwt : (IntKind.i64.wrap (z + (L : Int))).tmod (L : Int) = (i : Int) := by
    rw [IntWalk.i64_in _ (by omega), Int.tmod_eq_emod_of_nonneg (by omega), hi]
  have hiL : i < L := by omega
  clear e0 e1
  have hnews := hid fun (j : Nat) (u : Value) (e : (ws.map U)[j]? = some u) => show (w1.alloc (.cells #[] 38)).cell? ((⟨bw, offw, none⟩ : Addr).add j) = some u from by
    have hj : j < L := by have := (List.getElem?_eq_some_iff.1 e).1; rw [List.length_map, HL.out] at this; exact this
    rw [Addr.add_lit, ((below_alloc w1 _).mono hb1.size).cell (p := ⟨bw, offw + j, none⟩) hbw, hb1.cell (p := ⟨bw, offw + j, none⟩) hbw, hcw j (by omega), ← e]
  have Hxl := hid (show (ws.map U).length = L * 1 by rw [List.length_map, HL.out]; omega)
  have Hone := hid (show ∀ u ∈ ws.map U, u.oneCell' = true from fun u hu => by obtain ⟨x, _, rfl⟩ := List.mem_map.1 hu; rfl)
  have hwb := hb1.size
  have hcapi : (L : Int) ≤ (cap : Int) := by omega
  have hm0 := Int.emod_nonneg how (show (8 : Int) ≠ 0 by decide)
  have hm1 := Int.emod_lt_of_pos how (show (0 : Int) < 8 by decide)
  obtain ⟨hm, hhm⟩ : ∃ m, how % 8 = m := ⟨_, rfl⟩
  rw [hhm] at hm0 hm1
  clear hw hcw hLe h0
  rcases (show hm = 0 ∨ hm = 1 ∨ hm = 2 ∨ hm = 3 ∨ hm = 4 ∨ hm = 5 ∨ hm = 6 ∨ hm = 7 by omega) with rfl | rfl | rfl | rfl | rfl | rfl | rfl | rfl
  · go_enter Tryd.func21, Tryd.ntmps21
    go_wp2_with (at_builtin; refine wpList_append_lies (w := w1.alloc (.cells #[] 38)) rfl (.tmp 11) (.tmp 12) 28 rfl w1.heap.size 38 iU _ 1 8 Tryd.underlying28 hiU hzU hsU hbU rfl (by omega) (.slice (some ⟨w1.heap.size, 0, none⟩) 0 0) 0 [] rfl (World.ownsRow_made w1 #[] 0 (Nat.le_refl _) (by simp [maxLen]) rfl) ⟨bw, offw, none⟩ L cap (ws.map U) rfl Hxl.out hnews.out Hone.out (by omega) (by unfold maxLen; omega) (by omega) (by simp) (w1.heap.size + 1) (by simp) ?_; intro g c w4 h6 h7 h8 h9; rw [List.nil_append, Nat.zero_add] at h6; have hb34 := grown_drop h7; have hb4 := via hb1 hb34; have y0 := (hb34.cell hlt1).trans q0; have y1 := (hb34.cell hlt1).trans q1; have y2 := (hb34.cell hlt1).trans q2; have y3 := (hb34.cell hlt1).trans q3; have h6h := hid h6; obtain ⟨yc, hyc⟩ := owns_has h6 i (by omega); have hyf := h6.frozenAt i; clear h6 h7 h8 h9)
    go_returns
    exact SpoR.set (k := 0) x HL.out h6h.out hwb hb4 rfl
  · go_enter Tryd.func21, Tryd.ntmps21
    go_wp2_with (at_builtin; refine wpList_append_lies (w := w1.alloc (.cells #[] 38)) rfl (.tmp 11) (.tmp 12) 28 rfl w1.heap.size 38 iU _ 1 8 Tryd.underlying28 hiU hzU hsU hbU rfl (by omega) (.slice (some ⟨w1.heap.size, 0, none⟩) 0 0) 0 [] rfl (World.ownsRow_made w1 #[] 0 (Nat.le_refl _) (by simp [maxLen]) rfl) ⟨bw, offw, none⟩ L cap (ws.map U) rfl Hxl.out hnews.out Hone.out (by omega) (by unfold maxLen; omega) (by omega) (by simp) (w1.heap.size + 1) (by simp) ?_; intro g c w4 h6 h7 h8 h9; rw [List.nil_append, Nat.zero_add] at h6; have hb34 := grown_drop h7; have hb4 := via hb1 hb34; have y0 := (hb34.cell hlt1).trans q0; have y1 := (hb34.cell hlt1).trans q1; have y2 := (hb34.cell hlt1).trans q2; have y3 := (hb34.cell hlt1).trans q3; have h6h := hid h6; obtain ⟨yc, hyc⟩ := owns_has h6 i (by omega); have hyf := h6.frozenAt i; clear h6 h7 h8 h9)
    go_returns
    exact SpoR.set (k := 0) x HL.out h6h.out hwb hb4 rfl
  · go_enter Tryd.func21, Tryd.ntmps21
    go_wp2_with (at_builtin; refine wpList_append_lies (w := w1.alloc (.cells #[] 38)) rfl (.tmp 11) (.tmp 12) 28 rfl w1.heap.size 38 iU _ 1 8 Tryd.underlying28 hiU hzU hsU hbU rfl (by omega) (.slice (some ⟨w1.heap.size, 0, none⟩) 0 0) 0 [] rfl (World.ownsRow_made w1 #[] 0 (Nat.le_refl _) (by simp [maxLen]) rfl) ⟨bw, offw, none⟩ L cap (ws.map U) rfl Hxl.out hnews.out Hone.out (by omega) (by unfold maxLen; omega) (by omega) (by simp) (w1.heap.size + 1) (by simp) ?_; intro g c w4 h6 h7 h8 h9; rw [List.nil_append, Nat.zero_add] at h6; have hb34 := grown_drop h7; have hb4 := via hb1 hb34; have y0 := (hb34.cell hlt1).trans q0; have y1 := (hb34.cell hlt1).trans q1; have y2 := (hb34.cell hlt1).trans q2; have y3 := (hb34.cell hlt1).trans q3; have h6h := hid h6; obtain ⟨yc, hyc⟩ := owns_has h6 i (by omega); have hyf := h6.frozenAt i; clear h6 h7 h8 h9)
    go_returns
    exact SpoR.set (k := 0) x HL.out h6h.out hwb hb4 rfl
  · go_enter Tryd.func21, Tryd.ntmps21
    go_wp2_with (at_builtin; refine wpList_append_lies (w := w1.alloc (.cells #[] 38)) rfl (.tmp 11) (.tmp 12) 28 rfl w1.heap.size 38 iU _ 1 8 Tryd.underlying28 hiU hzU hsU hbU rfl (by omega) (.slice (some ⟨w1.heap.size, 0, none⟩) 0 0) 0 [] rfl (World.ownsRow_made w1 #[] 0 (Nat.le_refl _) (by simp [maxLen]) rfl) ⟨bw, offw, none⟩ L cap (ws.map U) rfl Hxl.out hnews.out Hone.out (by omega) (by unfold maxLen; omega) (by omega) (by simp) (w1.heap.size + 1) (by simp) ?_; intro g c w4 h6 h7 h8 h9; rw [List.nil_append, Nat.zero_add] at h6; have hb34 := grown_drop h7; have hb4 := via hb1 hb34; have y0 := (hb34.cell hlt1).trans q0; have y1 := (hb34.cell hlt1).trans q1; have y2 := (hb34.cell hlt1).trans q2; have y3 := (hb34.cell hlt1).trans q3; have h6h := hid h6; obtain ⟨yc, hyc⟩ := owns_has h6 i (by omega); obtain ⟨y, hyu⟩ : ∃ y : BitVec 64, yc = U y := by { have h := h6.cellAt i (by omega); rw [hyc] at h; obtain ⟨y, hy⟩ := List.mem_map.1 (List.mem_of_getElem? h.symm); exact ⟨y, hy.2.symm⟩ }; subst hyu; have hyf := h6.frozenAt i; clear h6 h7 h8 h9)
    refine wp_region_held_drew (S := (fun W => W.cell? ⟨w.heap.size, 2, none⟩ = some (.int .i64 by_))) (by kernel_rfl) ?_ (fun hHeld => ?_)
    · exact y2
    refine wpAnyH_take (i := 0) (oi := { dst := some 40, op := Op.move (Operand.tmp 5), type := 28, pos := "law.go:49", after := #[], guard := none }) (v := ?vs30) rfl (by kernel_rfl) (by kernel_rfl) (by kernel_rfl) (fun _ _ _ h => h) (Or.inl ⟨by rfl, ?hys30⟩) (by assumption) ?rests30
    case hys30 => first | (intro w hSw; (try dsimp only at hSw); go_simp; done) | (intro w hSw; (try dsimp only at hSw); go_simp; with_reducible rfl)
    try simp only [Act.put, List.setIfInBounds_toArray, List.set_cons_zero, List.set_cons_succ]
    refine wpAnyH_take (i := 1) (oi := { dst := some 41, op := Op.move (Operand.tmp 6), type := 3, pos := "law.go:49", after := #[], guard := none }) (v := ?vs31) rfl (by kernel_rfl) (by kernel_rfl) (by kernel_rfl) (fun _ _ _ h => h) (Or.inl ⟨by rfl, ?hys31⟩) (by assumption) ?rests31
    case hys31 => first | (intro w hSw; (try dsimp only at hSw); go_simp; done) | (intro w hSw; (try dsimp only at hSw); go_simp; with_reducible rfl)
    try simp only [Act.put, List.setIfInBounds_toArray, List.set_cons_zero, List.set_cons_succ]
    refine wpAnyH_take (i := 2) (oi := { dst := some 42, op := Op.move (Operand.tmp 5), type := 28, pos := "law.go:49", after := #[], guard := none }) (v := ?vs32) rfl (by kernel_rfl) (by kernel_rfl) (by kernel_rfl) (fun _ _ _ h => h) (Or.inl ⟨by rfl, ?hys32⟩) (by assumption) ?rests32
    case hys32 => first | (intro w hSw; (try dsimp only at hSw); go_simp; done) | (intro w hSw; (try dsimp only at hSw); go_simp; with_reducible rfl)
    try simp only [Act.put, List.setIfInBounds_toArray, List.set_cons_zero, List.set_cons_succ]
    refine wpAnyH_take (i := 3) (oi := { dst := some 43, op := Op.move (Operand.tmp 6), type := 3, pos := "law.go:49", after := #[], guard := none }) (v := ?vs33) rfl (by kernel_rfl) (by kernel_rfl) (by kernel_rfl) (fun _ _ _ h => h) (Or.inl ⟨by rfl, ?hys33⟩) (by assumption) ?rests33
    case hys33 => first | (intro w hSw; (try dsimp only at hSw); go_simp; done) | (intro w hSw; (try dsimp only at hSw); go_simp; with_reducible rfl)
    try simp only [Act.put, List.setIfInBounds_toArray, List.set_cons_zero, List.set_cons_succ]
    refine wpAnyH_take (i := 4) (oi := { dst := some 44, op := Op.indexAddr 28 (Operand.tmp 42) (Operand.tmp 43), type := 0, pos := "law.go:49", after := #[{ on := 2, ground := Ground.data }, { on := 3, ground := Ground.data }], guard := none }) (v := ?vs34) rfl (by kernel_rfl) (by kernel_rfl) (by kernel_rfl) (fun _ _ _ h => h) (Or.inl ⟨by rfl, ?hys34⟩) (by assumption) ?rests34
    case hys34 => first | (intro w hSw; (try dsimp only at hSw); go_simp; done) | (intro w hSw; (try dsimp only at hSw); go_simp; with_reducible rfl)
    try simp only [Act.put, List.setIfInBounds_toArray, List.set_cons_zero, List.set_cons_succ]
    refine wpAnyH_take (i := 6) (oi := { dst := some 46, op := Op.fieldAddr 40 (Operand.tmp 3) 2, type := 0, pos := "law.go:49", after := #[], guard := none }) (v := ?vs36) rfl (by kernel_rfl) (by kernel_rfl) (by kernel_rfl) (fun _ _ _ h => h) (Or.inl ⟨by rfl, ?hys36⟩) (by assumption) ?rests36
    case hys36 => first | (intro w hSw; (try dsimp only at hSw); go_simp; done) | (intro w hSw; (try dsimp only at hSw); go_simp; with_reducible rfl)
    try simp only [Act.put, List.setIfInBounds_toArray, List.set_cons_zero, List.set_cons_succ]
    refine wpAnyH_take (i := 7) (oi := { dst := some 47, op := Op.load 3 (Operand.tmp 46), type := 3, pos := "law.go:49", after := #[{ on := 6, ground := Ground.data }], guard := none }) (v := ?vs37) rfl (by kernel_rfl) (by kernel_rfl) (by kernel_rfl) (fun _ _ _ h => h) (Or.inl ⟨by rfl, ?hys37⟩) (by assumption) ?rests37
    case hys37 => first | (intro w hSw; (try dsimp only at hSw); go_simp; done) | (intro w hSw; (try dsimp only at hSw); go_simp; with_reducible rfl)
    try simp only [Act.put, List.setIfInBounds_toArray, List.set_cons_zero, List.set_cons_succ]
    refine wpAnyH_take (i := 8) (oi := { dst := some 48, op := Op.binOp BinOp.and 3 (Operand.tmp 47) (Operand.const (Value.int IntKind.i64 63)) 3, type := 3, pos := "law.go:49", after := #[{ on := 7, ground := Ground.data }], guard := none }) (v := ?vs38) rfl (by kernel_rfl) (by kernel_rfl) (by kernel_rfl) (fun _ _ _ h => h) (Or.inl ⟨by rfl, ?hys38⟩) (by assumption) ?rests38
    case hys38 => first | (intro w hSw; (try dsimp only at hSw); go_simp; done) | (intro w hSw; (try dsimp only at hSw); go_simp; with_reducible rfl)
    try simp only [Act.put, List.setIfInBounds_toArray, List.set_cons_zero, List.set_cons_succ]
    refine wpAnyH_take (i := 9) (oi := { dst := some 49, op := Op.convert 3 52 (Operand.tmp 48), type := 52, pos := "law.go:49", after := #[{ on := 8, ground := Ground.data }], guard := none }) (v := ?vs39) rfl (by kernel_rfl) (by kernel_rfl) (by kernel_rfl) (fun _ _ _ h => h) (Or.inl ⟨by rfl, ?hys39⟩) (by assumption) ?rests39
    case hys39 => first | (intro w hSw; (try dsimp only at hSw); go_simp; done) | (intro w hSw; (try dsimp only at hSw); go_simp; with_reducible rfl)
    try simp only [Act.put, List.setIfInBounds_toArray, List.set_cons_zero, List.set_cons_succ]
    refine wpAnyH_take (i := 10) (oi := { dst := some 50, op := Op.binOp BinOp.shl 38 (Operand.const (Value.int IntKind.u64 1)) (Operand.tmp 49) 52, type := 38, pos := "law.go:49", after := #[{ on := 9, ground := Ground.data }], guard := none }) (v := ?vs310) rfl (by kernel_rfl) (by kernel_rfl) (by kernel_rfl) (fun _ _ _ h => h) (Or.inl ⟨by rfl, ?hys310⟩) (by assumption) ?rests310
    case hys310 => first | (intro w hSw; (try dsimp only at hSw); go_simp; done) | (intro w hSw; (try dsimp only at hSw); go_simp; with_reducible rfl)
    try simp only [Act.put, List.setIfInBounds_toArray, List.set_cons_zero, List.set_cons_succ]
    refine wpAnyH_ready (rs := [5]) (by kernel_rfl) (by simp) ?_
    refine AllReadyH.cons (o := { dst := some 45, op := Op.load 38 (Operand.tmp 44), type := 38, pos := "law.go:49", after := #[{ on := 4, ground := Ground.data }], guard := none }) rfl (fun K hK => ?_) AllReadyH.nil
    go_simp
    refine hK.out _ _ ?_ (fun hHeld => ?_)
    · exact hHeld
    clear hK K
    try simp only [Act.put, List.setIfInBounds_toArray, List.set_cons_zero, List.set_cons_succ]
    refine wpAnyH_take (i := 11) (oi := { dst := some 51, op := Op.binOp BinOp.xor 38 (Operand.tmp 45) (Operand.tmp 50) 38, type := 38, pos := "law.go:49", after := #[{ on := 5, ground := Ground.data }, { on := 10, ground := Ground.data }], guard := none }) (v := ?vs311) rfl (by kernel_rfl) (by kernel_rfl) (by kernel_rfl) (fun _ _ _ h => h) (Or.inl ⟨by rfl, ?hys311⟩) (by assumption) ?rests311
    case hys311 => first | (intro w hSw; (try dsimp only at hSw); go_simp; done) | (intro w hSw; (try dsimp only at hSw); go_simp; with_reducible rfl)
    try simp only [Act.put, List.setIfInBounds_toArray, List.set_cons_zero, List.set_cons_succ]
    refine wpAnyH_take (i := 12) (oi := { dst := some 52, op := Op.indexAddr 28 (Operand.tmp 40) (Operand.tmp 41), type := 0, pos := "law.go:49", after := #[{ on := 0, ground := Ground.data }, { on := 1, ground := Ground.data }, { on := 0, ground := Ground.phase }, { on := 1, ground := Ground.phase }, { on := 2, ground := Ground.phase }, { on := 3, ground := Ground.phase }, { on := 4, ground := Ground.phase }, { on := 5, ground := Ground.phase }, { on := 6, ground := Ground.phase }, { on := 7, ground := Ground.phase }, { on := 8, ground := Ground.phase }, { on := 9, ground := Ground.phase }, { on := 10, ground := Ground.phase }, { on := 11, ground := Ground.phase }], guard := none }) (v := ?vs312) rfl (by kernel_rfl) (by kernel_rfl) (by kernel_rfl) (fun _ _ _ h => h) (Or.inl ⟨by rfl, ?hys312⟩) (by assumption) ?rests312
    case hys312 => first | (intro w hSw; (try dsimp only at hSw); go_simp; done) | (intro w hSw; (try dsimp only at hSw); go_simp; with_reducible rfl)
    try simp only [Act.put, List.setIfInBounds_toArray, List.set_cons_zero, List.set_cons_succ]
    refine wpAnyH_ready (rs := [13]) (by kernel_rfl) (by simp) ?_
    refine AllReadyH.cons (o := { dst := none, op := Op.store 38 (Operand.tmp 52) (Operand.tmp 51), type := 0, pos := "law.go:49", after := #[{ on := 12, ground := Ground.data }, { on := 11, ground := Ground.data }, { on := 0, ground := Ground.phase }, { on := 1, ground := Ground.phase }, { on := 2, ground := Ground.phase }, { on := 3, ground := Ground.phase }, { on := 4, ground := Ground.phase }, { on := 5, ground := Ground.phase }, { on := 6, ground := Ground.phase }, { on := 7, ground := Ground.phase }, { on := 8, ground := Ground.phase }, { on := 9, ground := Ground.phase }, { on := 10, ground := Ground.phase }, { on := 11, ground := Ground.phase }], guard := none }) rfl (fun K hK => ?_) AllReadyH.nil
    go_simp
    refine hK.out _ _ ?_ (fun hHeld => ?_)
    · exact (World.cell?_setCell_other _ _ _ _ (by simp [Nat.ne_of_lt (Nat.lt_of_lt_of_le hlt1 (own_blk h6h.out (g := g) rfl).2), Nat.ne_of_gt (Nat.lt_of_lt_of_le hlt1 (own_blk h6h.out (g := g) rfl).2)])).trans hHeld
    clear hK K
    try simp only [Act.put, List.setIfInBounds_toArray, List.set_cons_zero, List.set_cons_succ]
    refine wpAnyH_done (by kernel_rfl) ?_ _
    go_wp2_with fail
    go_returns
    exact SpoR.set (k := 1) _ HL.out h6h.out hwb hb4 rfl
  · go_enter Tryd.func21, Tryd.ntmps21
    go_wp2_with (at_builtin; refine wpList_append_lies (w := w1.alloc (.cells #[] 38)) rfl (.tmp 11) (.tmp 12) 28 rfl w1.heap.size 38 iU _ 1 8 Tryd.underlying28 hiU hzU hsU hbU rfl (by omega) (.slice (some ⟨w1.heap.size, 0, none⟩) 0 0) 0 [] rfl (World.ownsRow_made w1 #[] 0 (Nat.le_refl _) (by simp [maxLen]) rfl) ⟨bw, offw, none⟩ L cap (ws.map U) rfl Hxl.out hnews.out Hone.out (by omega) (by unfold maxLen; omega) (by omega) (by simp) (w1.heap.size + 1) (by simp) ?_; intro g c w4 h6 h7 h8 h9; rw [List.nil_append, Nat.zero_add] at h6; have hb34 := grown_drop h7; have hb4 := via hb1 hb34; have y0 := (hb34.cell hlt1).trans q0; have y1 := (hb34.cell hlt1).trans q1; have y2 := (hb34.cell hlt1).trans q2; have y3 := (hb34.cell hlt1).trans q3; have h6h := hid h6; obtain ⟨yc, hyc⟩ := owns_has h6 i (by omega); obtain ⟨y, hyu⟩ : ∃ y : BitVec 64, yc = U y := by { have h := h6.cellAt i (by omega); rw [hyc] at h; obtain ⟨y, hy⟩ := List.mem_map.1 (List.mem_of_getElem? h.symm); exact ⟨y, hy.2.symm⟩ }; subst hyu; have hyf := h6.frozenAt i; clear h6 h7 h8 h9)
    refine wp_region_held_drew (S := (fun W => W.cell? ⟨w.heap.size, 2, none⟩ = some (.int .i64 by_))) (by kernel_rfl) ?_ (fun hHeld => ?_)
    · exact y2
    refine wpAnyH_take (i := 0) (oi := { dst := some 40, op := Op.move (Operand.tmp 5), type := 28, pos := "law.go:49", after := #[], guard := none }) (v := ?vs40) rfl (by kernel_rfl) (by kernel_rfl) (by kernel_rfl) (fun _ _ _ h => h) (Or.inl ⟨by rfl, ?hys40⟩) (by assumption) ?rests40
    case hys40 => first | (intro w hSw; (try dsimp only at hSw); go_simp; done) | (intro w hSw; (try dsimp only at hSw); go_simp; with_reducible rfl)
    try simp only [Act.put, List.setIfInBounds_toArray, List.set_cons_zero, List.set_cons_succ]
    refine wpAnyH_take (i := 1) (oi := { dst := some 41, op := Op.move (Operand.tmp 6), type := 3, pos := "law.go:49", after := #[], guard := none }) (v := ?vs41) rfl (by kernel_rfl) (by kernel_rfl) (by kernel_rfl) (fun _ _ _ h => h) (Or.inl ⟨by rfl, ?hys41⟩) (by assumption) ?rests41
    case hys41 => first | (intro w hSw; (try dsimp only at hSw); go_simp; done) | (intro w hSw; (try dsimp only at hSw); go_simp; with_reducible rfl)
    try simp only [Act.put, List.setIfInBounds_toArray, List.set_cons_zero, List.set_cons_succ]
    refine wpAnyH_take (i := 2) (oi := { dst := some 42, op := Op.move (Operand.tmp 5), type := 28, pos := "law.go:49", after := #[], guard := none }) (v := ?vs42) rfl (by kernel_rfl) (by kernel_rfl) (by kernel_rfl) (fun _ _ _ h => h) (Or.inl ⟨by rfl, ?hys42⟩) (by assumption) ?rests42
    case hys42 => first | (intro w hSw; (try dsimp only at hSw); go_simp; done) | (intro w hSw; (try dsimp only at hSw); go_simp; with_reducible rfl)
    try simp only [Act.put, List.setIfInBounds_toArray, List.set_cons_zero, List.set_cons_succ]
    refine wpAnyH_take (i := 3) (oi := { dst := some 43, op := Op.move (Operand.tmp 6), type := 3, pos := "law.go:49", after := #[], guard := none }) (v := ?vs43) rfl (by kernel_rfl) (by kernel_rfl) (by kernel_rfl) (fun _ _ _ h => h) (Or.inl ⟨by rfl, ?hys43⟩) (by assumption) ?rests43
    case hys43 => first | (intro w hSw; (try dsimp only at hSw); go_simp; done) | (intro w hSw; (try dsimp only at hSw); go_simp; with_reducible rfl)
    try simp only [Act.put, List.setIfInBounds_toArray, List.set_cons_zero, List.set_cons_succ]
    refine wpAnyH_take (i := 4) (oi := { dst := some 44, op := Op.indexAddr 28 (Operand.tmp 42) (Operand.tmp 43), type := 0, pos := "law.go:49", after := #[{ on := 2, ground := Ground.data }, { on := 3, ground := Ground.data }], guard := none }) (v := ?vs44) rfl (by kernel_rfl) (by kernel_rfl) (by kernel_rfl) (fun _ _ _ h => h) (Or.inl ⟨by rfl, ?hys44⟩) (by assumption) ?rests44
    case hys44 => first | (intro w hSw; (try dsimp only at hSw); go_simp; done) | (intro w hSw; (try dsimp only at hSw); go_simp; with_reducible rfl)
    try simp only [Act.put, List.setIfInBounds_toArray, List.set_cons_zero, List.set_cons_succ]
    refine wpAnyH_take (i := 6) (oi := { dst := some 46, op := Op.fieldAddr 40 (Operand.tmp 3) 2, type := 0, pos := "law.go:49", after := #[], guard := none }) (v := ?vs46) rfl (by kernel_rfl) (by kernel_rfl) (by kernel_rfl) (fun _ _ _ h => h) (Or.inl ⟨by rfl, ?hys46⟩) (by assumption) ?rests46
    case hys46 => first | (intro w hSw; (try dsimp only at hSw); go_simp; done) | (intro w hSw; (try dsimp only at hSw); go_simp; with_reducible rfl)
    try simp only [Act.put, List.setIfInBounds_toArray, List.set_cons_zero, List.set_cons_succ]
    refine wpAnyH_take (i := 7) (oi := { dst := some 47, op := Op.load 3 (Operand.tmp 46), type := 3, pos := "law.go:49", after := #[{ on := 6, ground := Ground.data }], guard := none }) (v := ?vs47) rfl (by kernel_rfl) (by kernel_rfl) (by kernel_rfl) (fun _ _ _ h => h) (Or.inl ⟨by rfl, ?hys47⟩) (by assumption) ?rests47
    case hys47 => first | (intro w hSw; (try dsimp only at hSw); go_simp; done) | (intro w hSw; (try dsimp only at hSw); go_simp; with_reducible rfl)
    try simp only [Act.put, List.setIfInBounds_toArray, List.set_cons_zero, List.set_cons_succ]
    refine wpAnyH_take (i := 8) (oi := { dst := some 48, op := Op.binOp BinOp.and 3 (Operand.tmp 47) (Operand.const (Value.int IntKind.i64 63)) 3, type := 3, pos := "law.go:49", after := #[{ on := 7, ground := Ground.data }], guard := none }) (v := ?vs48) rfl (by kernel_rfl) (by kernel_rfl) (by kernel_rfl) (fun _ _ _ h => h) (Or.inl ⟨by rfl, ?hys48⟩) (by assumption) ?rests48
    case hys48 => first | (intro w hSw; (try dsimp only at hSw); go_simp; done) | (intro w hSw; (try dsimp only at hSw); go_simp; with_reducible rfl)
    try simp only [Act.put, List.setIfInBounds_toArray, List.set_cons_zero, List.set_cons_succ]
    refine wpAnyH_take (i := 9) (oi := { dst := some 49, op := Op.convert 3 52 (Operand.tmp 48), type := 52, pos := "law.go:49", after := #[{ on := 8, ground := Ground.data }], guard := none }) (v := ?vs49) rfl (by kernel_rfl) (by kernel_rfl) (by kernel_rfl) (fun _ _ _ h => h) (Or.inl ⟨by rfl, ?hys49⟩) (by assumption) ?rests49
    case hys49 => first | (intro w hSw; (try dsimp only at hSw); go_simp; done) | (intro w hSw; (try dsimp only at hSw); go_simp; with_reducible rfl)
    try simp only [Act.put, List.setIfInBounds_toArray, List.set_cons_zero, List.set_cons_succ]
    refine wpAnyH_take (i := 10) (oi := { dst := some 50, op := Op.binOp BinOp.shl 38 (Operand.const (Value.int IntKind.u64 1)) (Operand.tmp 49) 52, type := 38, pos := "law.go:49", after := #[{ on := 9, ground := Ground.data }], guard := none }) (v := ?vs410) rfl (by kernel_rfl) (by kernel_rfl) (by kernel_rfl) (fun _ _ _ h => h) (Or.inl ⟨by rfl, ?hys410⟩) (by assumption) ?rests410
    case hys410 => first | (intro w hSw; (try dsimp only at hSw); go_simp; done) | (intro w hSw; (try dsimp only at hSw); go_simp; with_reducible rfl)
    try simp only [Act.put, List.setIfInBounds_toArray, List.set_cons_zero, List.set_cons_succ]
    refine wpAnyH_ready (rs := [5]) (by kernel_rfl) (by simp) ?_
    refine AllReadyH.cons (o := { dst := some 45, op := Op.load 38 (Operand.tmp 44), type := 38, pos := "law.go:49", after := #[{ on := 4, ground := Ground.data }], guard := none }) rfl (fun K hK => ?_) AllReadyH.nil
    go_simp
    refine hK.out _ _ ?_ (fun hHeld => ?_)
    · exact hHeld
    clear hK K
    try simp only [Act.put, List.setIfInBounds_toArray, List.set_cons_zero, List.set_cons_succ]
    refine wpAnyH_take (i := 11) (oi := { dst := some 51, op := Op.binOp BinOp.xor 38 (Operand.tmp 45) (Operand.tmp 50) 38, type := 38, pos := "law.go:49", after := #[{ on := 5, ground := Ground.data }, { on := 10, ground := Ground.data }], guard := none }) (v := ?vs411) rfl (by kernel_rfl) (by kernel_rfl) (by kernel_rfl) (fun _ _ _ h => h) (Or.inl ⟨by rfl, ?hys411⟩) (by assumption) ?rests411
    case hys411 => first | (intro w hSw; (try dsimp only at hSw); go_simp; done) | (intro w hSw; (try dsimp only at hSw); go_simp; with_reducible rfl)
    try simp only [Act.put, List.setIfInBounds_toArray, List.set_cons_zero, List.set_cons_succ]
    refine wpAnyH_take (i := 12) (oi := { dst := some 52, op := Op.indexAddr 28 (Operand.tmp 40) (Operand.tmp 41), type := 0, pos := "law.go:49", after := #[{ on := 0, ground := Ground.data }, { on := 1, ground := Ground.data }, { on := 0, ground := Ground.phase }, { on := 1, ground := Ground.phase }, { on := 2, ground := Ground.phase }, { on := 3, ground := Ground.phase }, { on := 4, ground := Ground.phase }, { on := 5, ground := Ground.phase }, { on := 6, ground := Ground.phase }, { on := 7, ground := Ground.phase }, { on := 8, ground := Ground.phase }, { on := 9, ground := Ground.phase }, { on := 10, ground := Ground.phase }, { on := 11, ground := Ground.phase }], guard := none }) (v := ?vs412) rfl (by kernel_rfl) (by kernel_rfl) (by kernel_rfl) (fun _ _ _ h => h) (Or.inl ⟨by rfl, ?hys412⟩) (by assumption) ?rests412
    case hys412 => first | (intro w hSw; (try dsimp only at hSw); go_simp; done) | (intro w hSw; (try dsimp only at hSw); go_simp; with_reducible rfl)
    try simp only [Act.put, List.setIfInBounds_toArray, List.set_cons_zero, List.set_cons_succ]
    refine wpAnyH_ready (rs := [13]) (by kernel_rfl) (by simp) ?_
    refine AllReadyH.cons (o := { dst := none, op := Op.store 38 (Operand.tmp 52) (Operand.tmp 51), type := 0, pos := "law.go:49", after := #[{ on := 12, ground := Ground.data }, { on := 11, ground := Ground.data }, { on := 0, ground := Ground.phase }, { on := 1, ground := Ground.phase }, { on := 2, ground := Ground.phase }, { on := 3, ground := Ground.phase }, { on := 4, ground := Ground.phase }, { on := 5, ground := Ground.phase }, { on := 6, ground := Ground.phase }, { on := 7, ground := Ground.phase }, { on := 8, ground := Ground.phase }, { on := 9, ground := Ground.phase }, { on := 10, ground := Ground.phase }, { on := 11, ground := Ground.phase }], guard := none }) rfl (fun K hK => ?_) AllReadyH.nil
    go_simp
    refine hK.out _ _ ?_ (fun hHeld => ?_)
    · exact (World.cell?_setCell_other _ _ _ _ (by simp [Nat.ne_of_lt (Nat.lt_of_lt_of_le hlt1 (own_blk h6h.out (g := g) rfl).2), Nat.ne_of_gt (Nat.lt_of_lt_of_le hlt1 (own_blk h6h.out (g := g) rfl).2)])).trans hHeld
    clear hK K
    try simp only [Act.put, List.setIfInBounds_toArray, List.set_cons_zero, List.set_cons_succ]
    refine wpAnyH_done (by kernel_rfl) ?_ _
    go_wp2_with fail
    go_returns
    exact SpoR.set (k := 1) _ HL.out h6h.out hwb hb4 rfl
  · have hw7 : (x &&& 7#64).toInt = ((x.toNat % 8 : Nat) : Int) := by
      have e : (x &&& 7#64).toNat = x.toNat % 8 := by rw [BitVec.toNat_and, show (7#64).toNat = 2 ^ 3 - 1 from rfl, Nat.and_two_pow_sub_one_eq_mod]
      rw [BitVec.toInt_eq_toNat_cond, e, if_pos (by omega)]
    generalize x.toNat % 8 = m7 at *
    have href := rref_any (by_ % 16) (m7 : Int)
    go_enter Tryd.func21, Tryd.ntmps21
    go_wp2_with (at_builtin; refine wpList_append_lies (w := w1.alloc (.cells #[] 38)) rfl (.tmp 11) (.tmp 12) 28 rfl w1.heap.size 38 iU _ 1 8 Tryd.underlying28 hiU hzU hsU hbU rfl (by omega) (.slice (some ⟨w1.heap.size, 0, none⟩) 0 0) 0 [] rfl (World.ownsRow_made w1 #[] 0 (Nat.le_refl _) (by simp [maxLen]) rfl) ⟨bw, offw, none⟩ L cap (ws.map U) rfl Hxl.out hnews.out Hone.out (by omega) (by unfold maxLen; omega) (by omega) (by simp) (w1.heap.size + 1) (by simp) ?_; intro g c w4 h6 h7 h8 h9; rw [List.nil_append, Nat.zero_add] at h6; have hb34 := grown_drop h7; have hb4 := via hb1 hb34; have y0 := (hb34.cell hlt1).trans q0; have y1 := (hb34.cell hlt1).trans q1; have y2 := (hb34.cell hlt1).trans q2; have y3 := (hb34.cell hlt1).trans q3; have h6h := hid h6; obtain ⟨yc, hyc⟩ := owns_has h6 i (by omega); have hyf := h6.frozenAt i; clear h6 h7 h8 h9)
    ((refine (href _).mono ?_); rintro r w5 ⟨rfl, rfl⟩)
    go_wp2_with fail
    go_returns
    exact SpoR.set (k := 0) _ HL.out h6h.out hwb hb4 rfl
  · by_cases hi0 : i = 0
    · subst hi0
      go_enter Tryd.func21, Tryd.ntmps21
      go_wp2_with (at_builtin; refine wpList_append_lies (w := w1.alloc (.cells #[] 38)) rfl (.tmp 11) (.tmp 12) 28 rfl w1.heap.size 38 iU _ 1 8 Tryd.underlying28 hiU hzU hsU hbU rfl (by omega) (.slice (some ⟨w1.heap.size, 0, none⟩) 0 0) 0 [] rfl (World.ownsRow_made w1 #[] 0 (Nat.le_refl _) (by simp [maxLen]) rfl) ⟨bw, offw, none⟩ L cap (ws.map U) rfl Hxl.out hnews.out Hone.out (by omega) (by unfold maxLen; omega) (by omega) (by simp) (w1.heap.size + 1) (by simp) ?_; intro g c w4 h6 h7 h8 h9; rw [List.nil_append, Nat.zero_add] at h6; have hb34 := grown_drop h7; have hb4 := via hb1 hb34; have y0 := (hb34.cell hlt1).trans q0; have y1 := (hb34.cell hlt1).trans q1; have y2 := (hb34.cell hlt1).trans q2; have y3 := (hb34.cell hlt1).trans q3; have h6h := hid h6; clear h6 h7 h8 h9)
      go_returns
      exact SpoR.cut HL.out h6h.out (by omega) hb4
    · have hip : (0 : Int) < (i : Int) := by omega
      go_enter Tryd.func21, Tryd.ntmps21
      go_wp2_with (at_builtin; refine wpList_append_lies (w := w1.alloc (.cells #[] 38)) rfl (.tmp 11) (.tmp 12) 28 rfl w1.heap.size 38 iU _ 1 8 Tryd.underlying28 hiU hzU hsU hbU rfl (by omega) (.slice (some ⟨w1.heap.size, 0, none⟩) 0 0) 0 [] rfl (World.ownsRow_made w1 #[] 0 (Nat.le_refl _) (by simp [maxLen]) rfl) ⟨bw, offw, none⟩ L cap (ws.map U) rfl Hxl.out hnews.out Hone.out (by omega) (by unfold maxLen; omega) (by omega) (by simp) (w1.heap.size + 1) (by simp) ?_; intro g c w4 h6 h7 h8 h9; rw [List.nil_append, Nat.zero_add] at h6; have hb34 := grown_drop h7; have hb4 := via hb1 hb34; have y0 := (hb34.cell hlt1).trans q0; have y1 := (hb34.cell hlt1).trans q1; have y2 := (hb34.cell hlt1).trans q2; have y3 := (hb34.cell hlt1).trans q3; have h6h := hid h6; have hic : (i : Int) ≤ (c : Int) := by { have := own_cap h6; omega }; obtain ⟨yc, hyc⟩ := owns_has h6 0 (by omega); obtain ⟨y, hyu⟩ : ∃ y : BitVec 64, yc = U y := by { have h := h6.cellAt 0 (by omega); rw [hyc] at h; obtain ⟨y, hy⟩ := List.mem_map.1 (List.mem_of_getElem? h.symm); exact ⟨y, hy.2.symm⟩ }; subst hyu; have hyf := h6.frozenAt 0; clear h6 h7 h8 h9)
      go_returns
      exact SpoR.setcut _ HL.out h6h.out (by omega) hwb hb4 rfl
  · go_enter Tryd.func21, Tryd.ntmps21
    go_wp2_with (at_builtin; refine wpList_append_lies (w := w1.alloc (.cells #[] 38)) rfl (.tmp 11) (.tmp 12) 28 rfl w1.heap.size 38 iU _ 1 8 Tryd.underlying28 hiU hzU hsU hbU rfl (by omega) (.slice (some ⟨w1.heap.size, 0, none⟩) 0 0) 0 [] rfl (World.ownsRow_made w1 #[] 0 (Nat.le_refl _) (by simp [maxLen]) rfl) ⟨bw, offw, none⟩ L cap (ws.map U) rfl Hxl.out hnews.out Hone.out (by omega) (by unfold maxLen; omega) (by omega) (by simp) (w1.heap.size + 1) (by simp) ?_; intro g c w4 h6 h7 h8 h9; rw [List.nil_append, Nat.zero_add] at h6; have hb34 := grown_drop h7; have hb4 := via hb1 hb34; have y0 := (hb34.cell hlt1).trans q0; have y1 := (hb34.cell hlt1).trans q1; have y2 := (hb34.cell hlt1).trans q2; have y3 := (hb34.cell hlt1).trans q3; have h6h := hid h6; clear h6 h7 h8 h9)
    go_returns
    exact SpoR.same HL.out h6h.out hb4
end SVSpoilt

end Go.Proofs.YtogaclolodlnbaaDoor

