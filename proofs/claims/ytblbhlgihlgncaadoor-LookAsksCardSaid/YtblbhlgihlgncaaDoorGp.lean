/- Layer 9's laws: a path brought near; words spoilt. -/
import Derived.Test.YtblbhlgihlgncaaDoorGu
import Derived.Test.YtblbhlgihlgncaaDoorGl
import Derived.Test.YtblbhlgihlgncaaDoorVRow
import Derived.Deep.AppendLies
import Derived.Deep.RegionHeld3
import Derived.Test.YtblbhlgihlgncaaDoorVCheck
import Derived.Test.YtblbhlgihlgncaaDoorGq
set_option linter.unusedVariables false
set_option linter.unusedSimpArgs false
namespace Go.Proofs.YtblbhlgihlgncaaDoor
section SLkNear
open Go.RowKit

/-- A path to 8, whatever numbers. -/
def NearP (w : World) (e : Ending) (w' : World) : Prop := ∃ v l, e = .returned v ∧ Ints w' v l ∧ (l.length ≤ 8 ∧ ∀ z ∈ l, -1 ≤ z ∧ z ≤ 7) ∧ Below w.heap.size w w'
def NearR (w : World) (N : Nat) (ov iv : Value) (wr : World) : Prop :=
  ∃ (j : Nat) (nl : List Int), j ≤ N ∧ j ≤ 8 ∧ iv = .int .i64 j ∧ nl.length = j ∧ wr.ownsRow w.heap.size 3 1 ov j (nl.map (Value.int .i64)) ∧ Below w.heap.size w wr ∧ ∀ z ∈ nl, -1 ≤ z ∧ z ≤ 7

theorem near_more {nl : List Int} {x : Int} (h : ∀ z ∈ nl, -1 ≤ z ∧ z ≤ 7) (hx : -1 ≤ x ∧ x ≤ 7) : ∀ z ∈ nl ++ [x], -1 ≤ z ∧ z ≤ 7 := fun y hy => by
  rcases List.mem_append.1 hy with h2 | h2
  · exact h y h2
  · obtain rfl := List.mem_singleton.1 h2
    exact hx

set_option maxRecDepth 100000 in
set_option maxHeartbeats 8000000 in
theorem lnear_any (l : List Int) (pv : Value) (w : World) (hp : Ints w pv l) :
    Calls Tryd.prog 10 #[pv] w (NearP w) := by
  obtain ⟨iI, hiI, hzI, hsI, hbI⟩ := info_parts (show (Tryd.prog.info? 3).map (fun i => (i.zero, i.size, i.bytes)) = some (some (.int .i64 0), 1, 8) by kernel_rfl)
  obtain ⟨a, cap, rfl, -, -, hcell⟩ := Row.open hp
  obtain ⟨N, hN⟩ : ∃ N, N = l.length := ⟨_, rfl⟩
  have hm := Row.most hp
  rw [← hN] at hcell hm ⊢
  unfold maxLen at hm
  have Hcell := hid fun (W : World) (hW : Below w.heap.size w W) (j : Nat) (hj : j < N) => show ∃ b off z, a = some ⟨b, off, none⟩ ∧ W.cell? ⟨b, off + j, none⟩ = some (.int .i64 z) from by
    obtain ⟨b, off, e, hb, hc⟩ := hcell (by omega)
    obtain ⟨z, hz⟩ := get_lt (l := l) (i := j) (by omega)
    exact ⟨b, off, z, e, by rw [hW.cell (p := ⟨b, off + j, none⟩) hb, hc j (by omega), List.getElem?_map, hz]; rfl⟩
  have hrel0 := hid (show NearR w N (.slice none 0 0) (.int .i64 0) w from ⟨0, [], Nat.zero_le _, Nat.zero_le _, rfl, rfl, own_nil _ _ _ _, Below.refl _ _, by simp⟩)
  clear hp hN hcell
  go_enter Tryd.func10, Tryd.ntmps10
  go_wp2_with fail
  go_loopw [3, 4] (fun ov iv wr => NearR w N ov iv wr) (fun _ iv _ => N - (intOf iv).toNat)
  case atStart => exact hrel0.out
  case round =>
    clear hrel0
    obtain ⟨j, nl, hjN, hj8, rfl, hnl, hown, hb, hbz⟩ := hrel
    obtain ⟨ao, co, rfl⟩ := own_shape hown
    have hfin := hid (show NearP w (.returned (.slice ao j co)) wr from ⟨_, nl, rfl, by have h := Row.of_owns hown; rw [← hnl] at h ⊢; exact h, ⟨by omega, hbz⟩, hb⟩)
    by_cases hlt : j < N
    · have hlt' : (j : Int) < (N : Int) := by omega
      obtain ⟨b, off, z, rfl, zc⟩ := Hcell.out wr hb j hlt
      by_cases h8 : j < 8
      · have h8' : (j : Int) < 8 := by omega
        by_cases hz8 : bits .and .i64 z 8 = 0
        · have hz8' : (bits .and .i64 z 8 == 0) = true := by rw [hz8]; rfl
          go_wp2_with (at_builtin; go_must (refine wpList_append_own _ rfl (.tmp 33) (.tmp 35) 40 rfl w.heap.size 3 iI _ 1 8 Tryd.underlying40 hiI hzI hsI hbI rfl (by omega) _ j _ rfl (own_beneath hown (below_alloc wr (.cells #[.int .i64 (z % 2)] 3))) ⟨wr.heap.size, 0, none⟩ 1 1 [.int .i64 (z % 2)] rfl rfl (news_at _ _ rfl #[.int .i64 (z % 2)] 3) (by simp [Value.oneCell']) (by unfold maxLen; omega) (by omega) (Nat.le_trans hb.size (below_alloc wr _).size) ?_); intro v7 w7 ho7 hg7 _; obtain ⟨a7, c7, rfl⟩ := own_shape ho7)
          have hrel2 := hid (show NearR w N _ (.int .i64 (j + 1 : Nat)) w7 from ⟨j + 1, nl ++ [z % 2], by omega, by omega, rfl, by rw [List.length_append, hnl]; rfl, by rw [List.map_append]; exact ho7, (hb.trans ((below_alloc wr _).mono hb.size)).grown hg7 (Nat.le_trans hb.size (below_alloc wr _).size) (fun b e => (own_blk hown e).2), near_more hbz (by omega)⟩)
          go_roundw
          case rel => exact hrel2.out
          case measure => simp [intOf] <;> omega
        · have hz8' : (bits .and .i64 z 8 == 0) = false := by rw [beq_eq_false_iff_ne]; exact hz8
          go_wp2_with (at_builtin; go_must (refine wpList_append_own _ rfl (.tmp 33) (.tmp 35) 40 rfl w.heap.size 3 iI _ 1 8 Tryd.underlying40 hiI hzI hsI hbI rfl (by omega) _ j _ rfl (own_beneath hown (below_alloc wr (.cells #[.int .i64 (z % 8 - 1)] 3))) ⟨wr.heap.size, 0, none⟩ 1 1 [.int .i64 (z % 8 - 1)] rfl rfl (news_at _ _ rfl #[.int .i64 (z % 8 - 1)] 3) (by simp [Value.oneCell']) (by unfold maxLen; omega) (by omega) (Nat.le_trans hb.size (below_alloc wr _).size) ?_); intro v7 w7 ho7 hg7 _; obtain ⟨a7, c7, rfl⟩ := own_shape ho7)
          have hrel2 := hid (show NearR w N _ (.int .i64 (j + 1 : Nat)) w7 from ⟨j + 1, nl ++ [z % 8 - 1], by omega, by omega, rfl, by rw [List.length_append, hnl]; rfl, by rw [List.map_append]; exact ho7, (hb.trans ((below_alloc wr _).mono hb.size)).grown hg7 (Nat.le_trans hb.size (below_alloc wr _).size) (fun b e => (own_blk hown e).2), near_more hbz (by omega)⟩)
          go_roundw
          case rel => exact hrel2.out
          case measure => simp [intOf] <;> omega
      · obtain rfl : j = 8 := by omega
        go_wp2_with fail
        go_returns
        exact hfin.out
    · obtain rfl : j = N := by omega
      go_wp2_with fail
      go_returns
      exact hfin.out
end SLkNear

section SLkSpoilt
open Go.RowKit

def SpoK (w : World) (n : Nat) (e : Ending) (w' : World) : Prop := ∃ (v : Value) (ys : List (BitVec 64)), e = .returned v ∧ ys.length = n ∧ Row w' 1 v ys.length (ys.map U) ∧ Below w.heap.size w w'

set_option maxRecDepth 100000 in
set_option maxHeartbeats 8000000 in
theorem lspoil_any (wv : Value) (ws : List (BitVec 64)) (at_ by_ : Int) (x : BitVec 64) (bit : Bool) (w : World) (hw : Row w 1 wv ws.length (ws.map U)) (hL : ws.length ≤ 1000) (hat : -9223372036854775808 ≤ at_ ∧ at_ ≤ 9223372036854775807) :
    Calls Tryd.prog 12 #[wv, .agg #[.int .i64 at_, .int .i64 by_, U x, .bool bit]] w (SpoK w ws.length) := by
  obtain ⟨iU, hiU, hzU, hsU, hbU⟩ := info_parts (show (Tryd.prog.info? 28).map (fun i => (i.zero, i.size, i.bytes)) = some (some (.int .u64 0), 1, 8) by kernel_rfl)
  obtain ⟨w1, hw1, hb1, hlt1, hbox1⟩ := boxed w #[.int .i64 at_, .int .i64 by_, U x, .bool bit] 44
  have q0 : w1.cell? ⟨w.heap.size, 0, none⟩ = some (.int .i64 at_) := hbox1 0
  have q1 : w1.cell? ⟨w.heap.size, 1, none⟩ = some (.int .i64 by_) := hbox1 1
  have q2 : w1.cell? ⟨w.heap.size, 2, none⟩ = some (U x) := hbox1 2
  have q3 : w1.cell? ⟨w.heap.size, 3, none⟩ = some (.bool bit) := hbox1 3
  clear hbox1
  by_cases h0 : ws.length = 0
  · obtain ⟨wa, wc, rfl, -⟩ := hw.open
    have hfin := hid (show SpoK w ws.length (.returned (.slice wa ws.length wc)) w1 from ⟨_, ws, rfl, rfl, hw.below hb1 (Nat.le_refl _), hb1⟩)
    clear hw
    rw [h0] at hfin ⊢
    go_enter Tryd.func12, Tryd.ntmps12
    go_wp2_with fail
    go_returns
    exact hfin.out
  obtain ⟨bw, offw, cap, rfl, hcap1, hcap2, hbw, hcw⟩ := hw.cons (by omega)
  obtain ⟨L, hLe⟩ : ∃ L, L = ws.length := ⟨_, rfl⟩
  have HL := hid hLe.symm
  rw [← hLe] at h0 hL hcap1 hcw ⊢
  have hNp : 1 ≤ L := by omega
  have hNz : ((L : Int) == 0) = false := by rw [beq_eq_false_iff_ne]; omega
  have t1 := Int.tmod_lt_of_pos at_ (show (0 : Int) < L by omega)
  have t2 := Int.lt_tmod_of_pos at_ (show (0 : Int) < L by omega)
  obtain ⟨z, hz⟩ : ∃ z, Int.tmod at_ (L : Int) = z := ⟨_, rfl⟩
  rw [hz] at t1 t2
  have e0 := Int.emod_nonneg (z + (L : Int)) (show (L : Int) ≠ 0 by omega)
  have e1 := Int.emod_lt_of_pos (z + (L : Int)) (show (0 : Int) < L by omega)
  obtain ⟨i, hi⟩ : ∃ i : Nat, (z + (L : Int)) % (L : Int) = (i : Int) := ⟨((z + (L : Int)) % (L : Int)).toNat, by omega⟩
  have hi' : z % (L : Int) = (i : Int) := by rw [← hi]; simp
  have hwt : (IntKind.i64.wrap (z + (L : Int))).tmod (L : Int) = (i : Int) := by
    rw [IntWalk.i64_in _ (by omega), Int.tmod_eq_emod_of_nonneg (by omega), hi]
  have hiL : i < L := by omega
  clear e0 e1
  have hnews := hid fun (j : Nat) (u : Value) (e : (ws.map U)[j]? = some u) => show (w1.alloc (.cells #[] 28)).cell? ((⟨bw, offw, none⟩ : Addr).add j) = some u from by
    have hj : j < L := by have := (List.getElem?_eq_some_iff.1 e).1; rw [List.length_map, HL.out] at this; exact this
    rw [Addr.add_lit, ((below_alloc w1 _).mono hb1.size).cell (p := ⟨bw, offw + j, none⟩) hbw, hb1.cell (p := ⟨bw, offw + j, none⟩) hbw, hcw j (by omega), ← e]
  obtain ⟨y, hy⟩ := get_lt (l := ws) (i := i) (by rw [HL.out]; exact hiL)
  have Hxc := hid fun W (hW : Below w.heap.size w W) => show W.cell? ⟨bw, offw + i, none⟩ = some (U y) from by
    rw [hW.cell (p := ⟨bw, offw + i, none⟩) hbw, hcw i (by omega), List.getElem?_map, hy]; rfl
  have Hxl := hid (show (ws.map U).length = L * 1 by rw [List.length_map, HL.out]; omega)
  have Hone := hid (show ∀ u ∈ ws.map U, u.oneCell' = true from fun u hu => by obtain ⟨x, _, rfl⟩ := List.mem_map.1 hu; rfl)
  have hwb := hb1.size
  have hcapi : (L : Int) ≤ (cap : Int) := by omega
  have Hend := hid fun (W : World) (g c' : Nat) (ys : List (BitVec 64)) (hl : ys.length = L) (ho : W.ownsRow w1.heap.size 28 1 (.slice (some ⟨g, 0, none⟩) L c') L (ys.map U)) (hb : Below w.heap.size w W) => show SpoK w L (.returned (.slice (some ⟨g, 0, none⟩) L c')) W from
    ⟨_, ys, rfl, hl, by have h := Row.of_owns ho; rw [← hl] at h ⊢; exact h, hb⟩
  clear hw hcw hLe h0 hy
  go_enter Tryd.func12, Tryd.ntmps12
  cases bit with
  | false =>
    go_wp2_with (at_builtin; refine wpList_append_lies (w := w1.alloc (.cells #[] 28)) rfl (.tmp 11) (.tmp 12) 29 rfl w1.heap.size 28 iU _ 1 8 Tryd.underlying29 hiU hzU hsU hbU rfl (by omega) (.slice (some ⟨w1.heap.size, 0, none⟩) 0 0) 0 [] rfl (World.ownsRow_made w1 #[] 0 (Nat.le_refl _) (by simp [maxLen]) rfl) ⟨bw, offw, none⟩ L cap (ws.map U) rfl Hxl.out hnews.out Hone.out (by omega) (by unfold maxLen; omega) (by omega) (by simp) (w1.heap.size + 1) (by simp) ?_; intro g c' w4 h6 h7 h8 h9; rw [List.nil_append, Nat.zero_add] at h6; have hb34 := grown_drop h7; have h6h := hid h6; have Hb34 := hid hb34; have y0 := (hb34.cell hlt1).trans q0; have y2 := (hb34.cell hlt1).trans q2; have y3 := (hb34.cell hlt1).trans q3; obtain ⟨yc, hyc⟩ := owns_has h6 i (by omega); have hyf := h6.frozenAt i; have hgne : g ≠ w.heap.size := (by have := (own_blk h6 (g := g) rfl).2; omega); have hgne2 : w.heap.size ≠ g := fun e => hgne e.symm; clear h6 h7 h8 h9)
    go_returns
    have hset := own_setN h6h.out i (U x)
    rw [← List.map_set] at hset
    exact Hend.out _ g c' _ (by rw [List.length_set]; exact HL.out) hset ((via hb1 Hb34.out).setCell (p := ⟨g, i, none⟩) (Nat.le_trans hwb (own_blk h6h.out (g := g) rfl).2) _)
  | true =>
    go_wp2_with (at_builtin; refine wpList_append_lies (w := w1.alloc (.cells #[] 28)) rfl (.tmp 11) (.tmp 12) 29 rfl w1.heap.size 28 iU _ 1 8 Tryd.underlying29 hiU hzU hsU hbU rfl (by omega) (.slice (some ⟨w1.heap.size, 0, none⟩) 0 0) 0 [] rfl (World.ownsRow_made w1 #[] 0 (Nat.le_refl _) (by simp [maxLen]) rfl) ⟨bw, offw, none⟩ L cap (ws.map U) rfl Hxl.out hnews.out Hone.out (by omega) (by unfold maxLen; omega) (by omega) (by simp) (w1.heap.size + 1) (by simp) ?_; intro g c' w4 h6 h7 h8 h9; rw [List.nil_append, Nat.zero_add] at h6; have hb34 := grown_drop h7; have h6h := hid h6; have Hb34 := hid hb34; have y0 := (hb34.cell hlt1).trans q0; have y2 := (hb34.cell hlt1).trans q2; have y3 := (hb34.cell hlt1).trans q3; obtain ⟨yc, hyc⟩ := owns_has h6 i (by omega); have hyf := h6.frozenAt i; have hgne : g ≠ w.heap.size := (by have := (own_blk h6 (g := g) rfl).2; omega); have hgne2 : w.heap.size ≠ g := fun e => hgne e.symm; clear h6 h7 h8 h9)
    have hset := own_setN h6h.out i (U x)
    rw [← List.map_set] at hset
    have hgb := Nat.le_trans hwb (own_blk h6h.out (g := g) rfl).2
    have hb5 := (via hb1 Hb34.out).setCell (p := ⟨g, i, none⟩) hgb (U x)
    obtain ⟨w5, hw5⟩ : ∃ w5, w4.setCell ⟨g, i, none⟩ (U x) = w5 := ⟨_, rfl⟩
    rw [hw5] at hset hb5 ⊢
    have xc := Hxc.out _ hb5
    have c1 : w5.cell? ⟨w.heap.size, 1, none⟩ = some (.int .i64 by_) := by
      rw [← hw5, World.cell?_setCell_far _ _ _ _ hgne]
      exact (Hb34.out.cell hlt1).trans q1
    obtain ⟨yc2, hyc2⟩ := owns_has hset i (by omega)
    have hyf2 := hset.frozenAt i
    clear y0 y2 y3 hyc hyf hw5
    refine wp_region_kept 13 (fun W => W.cell? ⟨w.heap.size, 1, none⟩ = some (.int .i64 by_) ∧ W.cell? ⟨bw, offw + i, none⟩ = some (U y)) (by kernel_rfl) ?_ (fun hHeld => ?_)
    · exact ⟨c1, xc⟩
    refine wpAnyK_take (i := 0) (oi := { dst := some 32, op := Op.move (Operand.tmp 5), type := 29, pos := "law.go:51", after := #[], guard := none }) (v := ?vs0) rfl (by kernel_rfl) (by kernel_rfl) (by kernel_rfl) (by kernel_rfl) (fun _ _ _ h => h) (Or.inl ⟨by rfl, ?hys0⟩) (by assumption) ?rests0
    case hys0 => first | (intro w hSw; (try dsimp only at hSw); go_simp; done) | (intro w hSw; (try dsimp only at hSw); go_simp; with_reducible rfl)
    try simp only [Act.put, List.setIfInBounds_toArray, List.set_cons_zero, List.set_cons_succ]
    refine wpAnyK_take (i := 1) (oi := { dst := some 33, op := Op.move (Operand.tmp 6), type := 3, pos := "law.go:51", after := #[], guard := none }) (v := ?vs1) rfl (by kernel_rfl) (by kernel_rfl) (by kernel_rfl) (by kernel_rfl) (fun _ _ _ h => h) (Or.inl ⟨by rfl, ?hys1⟩) (by assumption) ?rests1
    case hys1 => first | (intro w hSw; (try dsimp only at hSw); go_simp; done) | (intro w hSw; (try dsimp only at hSw); go_simp; with_reducible rfl)
    try simp only [Act.put, List.setIfInBounds_toArray, List.set_cons_zero, List.set_cons_succ]
    refine wpAnyK_take (i := 2) (oi := { dst := some 34, op := Op.move (Operand.tmp 0), type := 29, pos := "law.go:51", after := #[], guard := none }) (v := ?vs2) rfl (by kernel_rfl) (by kernel_rfl) (by kernel_rfl) (by kernel_rfl) (fun _ _ _ h => h) (Or.inl ⟨by rfl, ?hys2⟩) (by assumption) ?rests2
    case hys2 => first | (intro w hSw; (try dsimp only at hSw); go_simp; done) | (intro w hSw; (try dsimp only at hSw); go_simp; with_reducible rfl)
    try simp only [Act.put, List.setIfInBounds_toArray, List.set_cons_zero, List.set_cons_succ]
    refine wpAnyK_take (i := 3) (oi := { dst := some 35, op := Op.move (Operand.tmp 6), type := 3, pos := "law.go:51", after := #[], guard := none }) (v := ?vs3) rfl (by kernel_rfl) (by kernel_rfl) (by kernel_rfl) (by kernel_rfl) (fun _ _ _ h => h) (Or.inl ⟨by rfl, ?hys3⟩) (by assumption) ?rests3
    case hys3 => first | (intro w hSw; (try dsimp only at hSw); go_simp; done) | (intro w hSw; (try dsimp only at hSw); go_simp; with_reducible rfl)
    try simp only [Act.put, List.setIfInBounds_toArray, List.set_cons_zero, List.set_cons_succ]
    refine wpAnyK_take (i := 4) (oi := { dst := some 36, op := Op.indexAddr 29 (Operand.tmp 34) (Operand.tmp 35), type := 0, pos := "law.go:51", after := #[{ on := 2, ground := Ground.data }, { on := 3, ground := Ground.data }], guard := none }) (v := ?vs4) rfl (by kernel_rfl) (by kernel_rfl) (by kernel_rfl) (by kernel_rfl) (fun _ _ _ h => h) (Or.inl ⟨by rfl, ?hys4⟩) (by assumption) ?rests4
    case hys4 => first | (intro w hSw; (try dsimp only at hSw); go_simp; done) | (intro w hSw; (try dsimp only at hSw); go_simp; with_reducible rfl)
    try simp only [Act.put, List.setIfInBounds_toArray, List.set_cons_zero, List.set_cons_succ]
    refine wpAnyK_take (i := 5) (oi := { dst := some 37, op := Op.load 28 (Operand.tmp 36), type := 28, pos := "law.go:51", after := #[{ on := 4, ground := Ground.data }], guard := none }) (v := ?vs5) rfl (by kernel_rfl) (by kernel_rfl) (by kernel_rfl) (by kernel_rfl) (fun _ _ _ h => h) (Or.inl ⟨by rfl, ?hys5⟩) (by assumption) ?rests5
    case hys5 => first | (intro w hSw; (try dsimp only at hSw); go_simp; done) | (intro w hSw; (try dsimp only at hSw); go_simp; with_reducible rfl)
    try simp only [Act.put, List.setIfInBounds_toArray, List.set_cons_zero, List.set_cons_succ]
    refine wpAnyK_take (i := 6) (oi := { dst := some 38, op := Op.fieldAddr 44 (Operand.tmp 3) 1, type := 0, pos := "law.go:51", after := #[], guard := none }) (v := ?vs6) rfl (by kernel_rfl) (by kernel_rfl) (by kernel_rfl) (by kernel_rfl) (fun _ _ _ h => h) (Or.inl ⟨by rfl, ?hys6⟩) (by assumption) ?rests6
    case hys6 => first | (intro w hSw; (try dsimp only at hSw); go_simp; done) | (intro w hSw; (try dsimp only at hSw); go_simp; with_reducible rfl)
    try simp only [Act.put, List.setIfInBounds_toArray, List.set_cons_zero, List.set_cons_succ]
    refine wpAnyK_take (i := 7) (oi := { dst := some 39, op := Op.load 3 (Operand.tmp 38), type := 3, pos := "law.go:51", after := #[{ on := 6, ground := Ground.data }], guard := none }) (v := ?vs7) rfl (by kernel_rfl) (by kernel_rfl) (by kernel_rfl) (by kernel_rfl) (fun _ _ _ h => h) (Or.inl ⟨by rfl, ?hys7⟩) (by assumption) ?rests7
    case hys7 => first | (intro w hSw; (try dsimp only at hSw); go_simp; done) | (intro w hSw; (try dsimp only at hSw); go_simp; with_reducible rfl)
    try simp only [Act.put, List.setIfInBounds_toArray, List.set_cons_zero, List.set_cons_succ]
    refine wpAnyK_take (i := 8) (oi := { dst := some 40, op := Op.binOp BinOp.and 3 (Operand.tmp 39) (Operand.const (Value.int IntKind.i64 63)) 3, type := 3, pos := "law.go:51", after := #[{ on := 7, ground := Ground.data }], guard := none }) (v := ?vs8) rfl (by kernel_rfl) (by kernel_rfl) (by kernel_rfl) (by kernel_rfl) (fun _ _ _ h => h) (Or.inl ⟨by rfl, ?hys8⟩) (by assumption) ?rests8
    case hys8 => first | (intro w hSw; (try dsimp only at hSw); go_simp; done) | (intro w hSw; (try dsimp only at hSw); go_simp; with_reducible rfl)
    try simp only [Act.put, List.setIfInBounds_toArray, List.set_cons_zero, List.set_cons_succ]
    refine wpAnyK_take (i := 9) (oi := { dst := some 41, op := Op.convert 3 79 (Operand.tmp 40), type := 79, pos := "law.go:51", after := #[{ on := 8, ground := Ground.data }], guard := none }) (v := ?vs9) rfl (by kernel_rfl) (by kernel_rfl) (by kernel_rfl) (by kernel_rfl) (fun _ _ _ h => h) (Or.inl ⟨by rfl, ?hys9⟩) (by assumption) ?rests9
    case hys9 => first | (intro w hSw; (try dsimp only at hSw); go_simp; done) | (intro w hSw; (try dsimp only at hSw); go_simp; with_reducible rfl)
    try simp only [Act.put, List.setIfInBounds_toArray, List.set_cons_zero, List.set_cons_succ]
    refine wpAnyK_take (i := 10) (oi := { dst := some 42, op := Op.binOp BinOp.shl 28 (Operand.const (Value.int IntKind.u64 1)) (Operand.tmp 41) 79, type := 28, pos := "law.go:51", after := #[{ on := 9, ground := Ground.data }], guard := none }) (v := ?vs10) rfl (by kernel_rfl) (by kernel_rfl) (by kernel_rfl) (by kernel_rfl) (fun _ _ _ h => h) (Or.inl ⟨by rfl, ?hys10⟩) (by assumption) ?rests10
    case hys10 => first | (intro w hSw; (try dsimp only at hSw); go_simp; done) | (intro w hSw; (try dsimp only at hSw); go_simp; with_reducible rfl)
    try simp only [Act.put, List.setIfInBounds_toArray, List.set_cons_zero, List.set_cons_succ]
    refine wpAnyK_take (i := 11) (oi := { dst := some 43, op := Op.binOp BinOp.xor 28 (Operand.tmp 37) (Operand.tmp 42) 28, type := 28, pos := "law.go:51", after := #[{ on := 5, ground := Ground.data }, { on := 10, ground := Ground.data }], guard := none }) (v := ?vs11) rfl (by kernel_rfl) (by kernel_rfl) (by kernel_rfl) (by kernel_rfl) (fun _ _ _ h => h) (Or.inl ⟨by rfl, ?hys11⟩) (by assumption) ?rests11
    case hys11 => first | (intro w hSw; (try dsimp only at hSw); go_simp; done) | (intro w hSw; (try dsimp only at hSw); go_simp; with_reducible rfl)
    try simp only [Act.put, List.setIfInBounds_toArray, List.set_cons_zero, List.set_cons_succ]
    refine wpAnyK_take (i := 12) (oi := { dst := some 44, op := Op.indexAddr 29 (Operand.tmp 32) (Operand.tmp 33), type := 0, pos := "law.go:51", after := #[{ on := 0, ground := Ground.data }, { on := 1, ground := Ground.data }, { on := 0, ground := Ground.phase }, { on := 1, ground := Ground.phase }, { on := 2, ground := Ground.phase }, { on := 3, ground := Ground.phase }, { on := 4, ground := Ground.phase }, { on := 5, ground := Ground.phase }, { on := 6, ground := Ground.phase }, { on := 7, ground := Ground.phase }, { on := 8, ground := Ground.phase }, { on := 9, ground := Ground.phase }, { on := 10, ground := Ground.phase }, { on := 11, ground := Ground.phase }], guard := none }) (v := ?vs12) rfl (by kernel_rfl) (by kernel_rfl) (by kernel_rfl) (by kernel_rfl) (fun _ _ _ h => h) (Or.inl ⟨by rfl, ?hys12⟩) (by assumption) ?rests12
    case hys12 => first | (intro w hSw; (try dsimp only at hSw); go_simp; done) | (intro w hSw; (try dsimp only at hSw); go_simp; with_reducible rfl)
    try simp only [Act.put, List.setIfInBounds_toArray, List.set_cons_zero, List.set_cons_succ]
    refine wpAnyK_ready (rs := [13]) (by kernel_rfl) (by simp) ?_
    refine AllReadyK.cons (o := { dst := none, op := Op.store 28 (Operand.tmp 44) (Operand.tmp 43), type := 0, pos := "law.go:51", after := #[{ on := 12, ground := Ground.data }, { on := 11, ground := Ground.data }, { on := 0, ground := Ground.phase }, { on := 1, ground := Ground.phase }, { on := 2, ground := Ground.phase }, { on := 3, ground := Ground.phase }, { on := 4, ground := Ground.phase }, { on := 5, ground := Ground.phase }, { on := 6, ground := Ground.phase }, { on := 7, ground := Ground.phase }, { on := 8, ground := Ground.phase }, { on := 9, ground := Ground.phase }, { on := 10, ground := Ground.phase }, { on := 11, ground := Ground.phase }], guard := none }) rfl (fun K hK => ?_) AllReadyK.nil
    go_simp
    refine hK.out _ _ (.inl rfl) (fun hHeld0 => ?_)
    clear hHeld0 hK K
    try simp only [Act.put, List.setIfInBounds_toArray, List.set_cons_zero, List.set_cons_succ]
    refine wpAnyK_done (by kernel_rfl) ?_ _
    go_wp2_with fail
    go_returns
    refine Hend.out _ g c' ((ws.set i x).set i (y ^^^ 1#64 <<< (by_ % 64 % 18446744073709551616).toNat)) (by rw [List.length_set, List.length_set]; exact HL.out) (own_beneath (by rw [List.map_set]; exact own_setN hset i (U _)) (below_drewN _ _ 1)) ((hb5.setCell (p := ⟨g, i, none⟩) hgb _).trans (below_drewN _ _ 1))
end SLkSpoilt

end Go.Proofs.YtblbhlgihlgncaaDoor

