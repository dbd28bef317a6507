/- build.Build: the chapter's example. -/
import Derived.Test.YtmcpanjpjnlleaaDoorBFields
import Derived.Test.YtmcpanjpjnlleaaDoorTrSize
set_option linter.unusedVariables false
namespace Go.Proofs.YtmcpanjpjnlleaaDoor
open Go.RowKit

theorem T2_size : sizeT S2 1 0 T2 = 5 := by
  rw [sizeT, if_pos T2_check]
  rfl

@[go_sem] theorem run_build_bb (a b : Option Addr) (n c m d : Nat) (w : World) : (Instr.build 108 #[(0, .slice a n c), (1, .slice b m d)]).run Tryd.prog w = .ok (.agg #[.slice a n c, .slice b m d]) w := run_build w 108 _ _ (by kernel_rfl)

theorem made3 : (madeCells (Value.int .u64 0).cells (3 * 1)).toList = [0#64, 0#64, 0#64].map U := by
  rw [show (Value.int IntKind.u64 0).cells = #[.int .u64 0] from rfl, toList_madeCells_one]
  rfl
theorem bb_new {w : World} {base g n cap : Nat} {ws : List (BitVec 64)} (sv : Value) (T : TypeId) (hn : n = ws.length) (ho : w.ownsRow base 30 1 (.slice (some ⟨g, 0, none⟩) n cap) n (ws.map U)) :
    BB (w.alloc (.cells #[sv, .slice (some ⟨g, 0, none⟩) n cap] T)) w.heap.size sv base (.slice (some ⟨g, 0, none⟩) n cap) ws := by
  subst hn
  refine ⟨by simp, by simp, by simp, fun j => by simp [go_sem], own_beneath ho (below_alloc _ _), fun e => ?_⟩
  have h1 := (own_blk ho (g := g) rfl).1.lt
  have h2 : g = w.heap.size := Option.some.inj (show some g = some w.heap.size from e)
  omega

set_option maxRecDepth 100000 in
set_option maxHeartbeats 8000000 in
theorem build_T2 (sv : Value) (kb nb : Nat) (w : World) (hs : Sch w sv S2)
    (hr : RdS 1 w [U 0#64, .string ⟨#[]⟩, .slice none 0 0, .slice (some ⟨kb, 0, none⟩) 2 2] T2)
    (hk0 : TB8 w kb (U 7#64) (.string ⟨#[]⟩) (.slice none 0 0) (.slice none 0 0) (U 0#64) (.string ⟨#[]⟩) (.slice (some ⟨nb, 0, none⟩) 2 2) (.slice none 0 0)) (hkb : kb < w.heap.size)
    (hn : Row w 1 (.slice (some ⟨nb, 0, none⟩) 2 2) 2 ([5#64, 6#64].map U)) (hnb : nb < w.heap.size) :
    Calls Tryd.prog 40 #[sv, .int .i64 0, .agg #[U 0#64, .string ⟨#[]⟩, .slice none 0 0, .slice (some ⟨kb, 0, none⟩) 2 2]] w
      fun e w' => (∃ wv, e = .returned (.tuple #[wv, .nilIface]) ∧ Row w' 1 wv 5 ([5#64, 7#64, 8589934593#64, 5#64, 6#64].map U)) ∧ Below w.heap.size w w' := by
  obtain ⟨iU, hiU, hzU, hsU, hbU⟩ := info_parts (show (Tryd.prog.info? 30).map (fun i => (i.zero, i.size, i.bytes)) = some (some (.int .u64 0), 1, 8) by kernel_rfl)
  obtain ⟨sa, scap, hsv, _⟩ := hs.shape
  rw [show S2.length = 1 from rfl] at hsv
  subst hsv
  have hRef := hid fun W => ref_any 5 0 W
  obtain ⟨w1, hw1, hb1, hz1, hV⟩ := TB.make w (U 0#64) (.string ⟨#[]⟩) (.slice none 0 0) (.slice (some ⟨kb, 0, none⟩) 2 2) 34
  have hck := tcheck_any S2 (.slice sa 1 scap) 1 0 T2 _ w1 (hs.below hb1 (Nat.le_refl _)) (hr.below hb1 (Nat.le_refl _))
  have hsz := hid fun W (hW : Below w.heap.size w W) => tsize_any S2 (.slice sa 1 scap) 1 0 T2 _ W (hs.below hW (Nat.le_refl _)) (hr.below hW (Nat.le_refl _))
  have hV1 := hV
  have v0 := hV.c0
  have v1 := hV.c1
  have v2 := hV.c2
  have v3 := hV.c3
  rw [T2_size] at hsz
  rw [T2_check, show ErrV 0 = .nilIface from rfl] at hck
  have HV := hid fun W (hW : Below w1.heap.size w1 W) => hV.below hW
  have Hbf := hid fun w3 (h3 : Below w.heap.size w w3) W (hW : Below w3.heap.size w3 W) B g cap (hbB : w3.heap.size ≤ B) hBB => bfields_T2 (.slice sa 1 scap) kb nb B g cap w3.heap.size w3 W (hs.below h3 (Nat.le_refl _)) (Nat.le_refl _) hW hbB hBB (hk0.base (h3.trans (hW.mono h3.size)) hkb) (Nat.lt_of_lt_of_le hkb h3.size) (hn.below h3 (Nat.le_refl _)) (Nat.lt_of_lt_of_le hnb h3.size)
  clear hV hs hr hk0 hn
  go_enter Tryd.func40, Tryd.ntmps40
  go_wp2_with fail
  ((refine hck.mono ?_); rintro r2 w2 ⟨rfl, hb2⟩)
  have hB2 := hb1.trans (hb2.mono hb1.size)
  replace hsz := hsz.out w2 hB2
  have ⟨_, u0, u1, u2, u3, _⟩ := HV.out w2 hb2
  clear hck v0 v1 v2 v3 hV1
  go_wp2_with fail
  ((refine hsz.mono ?_); rintro r3 w3 ⟨rfl, hb3⟩)
  have hB3 := via hB2 hb3
  replace Hbf := hid (Hbf.out w3 hB3)
  have ⟨_, t0, t1, t2, t3, _⟩ := HV.out w3 (hb2.trans (hb3.mono hb2.size))
  clear hsz u0 u1 u2 u3
  go_wp2_with ((refine wpList_make_full _ rfl (.tmp 27) (.tmp 27) 31 rfl w3.heap.size 30 iU _ 1 Tryd.underlying31 hiU hzU hsU .i64 .i64 3 3 3 rfl rfl rfl rfl (by rw [hbU]; omega) (by unfold maxLen; omega) (Nat.le_refl _) ?_); intro w5 ho5 hg5; have hb5 : Below w3.heap.size w3 w5 := (Below.refl _ w3).grown hg5 (Nat.le_refl _) (fun q e => by cases e); have hs5 := hb5.size; have HT := hid fun W (hW : Below w3.heap.size w3 W) => (HV.out w3 (hb2.trans (hb3.mono hb2.size))).below hW; rw [show (madeCells (Value.int .u64 0).cells (3 * 1)).toList = [0#64, 0#64, 0#64].map U from made3] at ho5; have hBB6 := bb_new (.slice sa 1 scap) 108 (n := 3) (ws := [0#64, 0#64, 0#64]) rfl ho5; have hb6 := hb5.trans ((below_alloc w5 (.cells #[.slice sa 1 scap, .slice (some ⟨w3.heap.size, 0, none⟩) 3 3] 108)).mono hs5); obtain ⟨w6, hw6⟩ : ∃ w6, w5.alloc (.cells #[.slice sa 1 scap, .slice (some ⟨w3.heap.size, 0, none⟩) 3 3] 108) = w6 := ⟨_, rfl⟩; rw [hw6] at hBB6 hb6; replace Hbf := hid (Hbf.out _ hb6 _ _ _ hs5 hBB6); have ⟨_, p0, p1, p2, p3, _⟩ := HT.out _ hb6; clear t0 t1 t2 t3)
  ((refine Hbf.out.mono ?_); rintro r7 w7 ⟨rfl, ⟨wv7, hB7⟩, hb7⟩)
  clear Hbf p0 p1 p2 p3 hw6
  have hB37 := hb6.trans hb7
  rcases hB7.own.2 with ⟨_, e0⟩ | ⟨g7, c7, _, rfl, hgb, _⟩
  · simp at e0
  have c71 := hB7.c1
  go_wp2_with fail
  refine wp_region_held_drew (S := (fun W => W.cell? ⟨w5.heap.size, 1, none⟩ = some (.slice (some ⟨g7, 0, none⟩) 5 c7) ∧ (BB W w5.heap.size (.slice sa 1 scap) w3.heap.size (.slice (some ⟨g7, 0, none⟩) 5 c7) [0#64, 7#64, 8589934593#64, 5#64, 6#64] ∨ BB W w5.heap.size (.slice sa 1 scap) w3.heap.size (.slice (some ⟨g7, 0, none⟩) 5 c7) ([0#64, 7#64, 8589934593#64, 5#64, 6#64].set 0 (refV 5 0))) ∧ Below w3.heap.size w7 W)) (by kernel_rfl) ?_ (fun hHeld => ?_)
  · exact LayS.start (hB7.below (below_drewN _ _ 1)) (below_drewN _ _ 1)
  refine wpAnyH_take (i := 0) (oi := { dst := some 37, op := Op.move (Operand.tmp 9), type := 106, pos := "build.go:74", after := #[], guard := none }) (v := ?ve0) rfl (by kernel_rfl) (by kernel_rfl) (by kernel_rfl) (fun _ _ _ h => h) (Or.inl ⟨by rfl, ?hye0⟩) (by assumption) ?reste0
  case hye0 => first | (intro w hSw; (try dsimp only at hSw); go_simp; done) | (intro w hSw; (try dsimp only at hSw); go_simp; with_reducible rfl)
  try simp only [Act.put, List.setIfInBounds_toArray, List.set_cons_zero, List.set_cons_succ]
  refine wpAnyH_take (i := 1) (oi := { dst := some 38, op := Op.nilCheck (Operand.tmp 37), type := 0, pos := "build.go:74", after := #[{ on := 0, ground := Ground.data }], guard := none }) (v := ?ve1) rfl (by kernel_rfl) (by kernel_rfl) (by kernel_rfl) (fun _ _ _ h => h) (Or.inl ⟨by rfl, ?hye1⟩) (by assumption) ?reste1
  case hye1 => first | (intro w hSw; (try dsimp only at hSw); go_simp; done) | (intro w hSw; (try dsimp only at hSw); go_simp; with_reducible rfl)
  try simp only [Act.put, List.setIfInBounds_toArray, List.set_cons_zero, List.set_cons_succ]
  refine wpAnyH_take (i := 2) (oi := { dst := some 39, op := Op.fieldAddr 108 (Operand.tmp 38) 1, type := 0, pos := "build.go:74", after := #[{ on := 1, ground := Ground.data }], guard := none }) (v := ?ve2) rfl (by kernel_rfl) (by kernel_rfl) (by kernel_rfl) (fun _ _ _ h => h) (Or.inl ⟨by rfl, ?hye2⟩) (by assumption) ?reste2
  case hye2 => first | (intro w hSw; (try dsimp only at hSw); go_simp; done) | (intro w hSw; (try dsimp only at hSw); go_simp; with_reducible rfl)
  try simp only [Act.put, List.setIfInBounds_toArray, List.set_cons_zero, List.set_cons_succ]
  refine wpAnyH_take (i := 3) (oi := { dst := some 40, op := Op.load 31 (Operand.tmp 39), type := 31, pos := "build.go:74", after := #[{ on := 2, ground := Ground.data }], guard := none }) (v := ?ve3) rfl (by kernel_rfl) (by kernel_rfl) (by kernel_rfl) (fun _ _ _ h => h) (Or.inl ⟨by rfl, ?hye3⟩) (by assumption) ?reste3
  case hye3 => first | (intro w hSw; (try dsimp only at hSw); go_simp; done) | (intro w hSw; (try dsimp only at hSw); go_simp; with_reducible rfl)
  try simp only [Act.put, List.setIfInBounds_toArray, List.set_cons_zero, List.set_cons_succ]
  refine wpAnyH_take (i := 4) (oi := { dst := some 41, op := Op.move (Operand.tmp 9), type := 106, pos := "build.go:74", after := #[], guard := none }) (v := ?ve4) rfl (by kernel_rfl) (by kernel_rfl) (by kernel_rfl) (fun _ _ _ h => h) (Or.inl ⟨by rfl, ?hye4⟩) (by assumption) ?reste4
  case hye4 => first | (intro w hSw; (try dsimp only at hSw); go_simp; done) | (intro w hSw; (try dsimp only at hSw); go_simp; with_reducible rfl)
  try simp only [Act.put, List.setIfInBounds_toArray, List.set_cons_zero, List.set_cons_succ]
  refine wpAnyH_take (i := 5) (oi := { dst := some 42, op := Op.nilCheck (Operand.tmp 41), type := 0, pos := "build.go:74", after := #[{ on := 4, ground := Ground.data }], guard := none }) (v := ?ve5) rfl (by kernel_rfl) (by kernel_rfl) (by kernel_rfl) (fun _ _ _ h => h) (Or.inl ⟨by rfl, ?hye5⟩) (by assumption) ?reste5
  case hye5 => first | (intro w hSw; (try dsimp only at hSw); go_simp; done) | (intro w hSw; (try dsimp only at hSw); go_simp; with_reducible rfl)
  try simp only [Act.put, List.setIfInBounds_toArray, List.set_cons_zero, List.set_cons_succ]
  refine wpAnyH_take (i := 6) (oi := { dst := some 43, op := Op.fieldAddr 108 (Operand.tmp 42) 1, type := 0, pos := "build.go:74", after := #[{ on := 5, ground := Ground.data }], guard := none }) (v := ?ve6) rfl (by kernel_rfl) (by kernel_rfl) (by kernel_rfl) (fun _ _ _ h => h) (Or.inl ⟨by rfl, ?hye6⟩) (by assumption) ?reste6
  case hye6 => first | (intro w hSw; (try dsimp only at hSw); go_simp; done) | (intro w hSw; (try dsimp only at hSw); go_simp; with_reducible rfl)
  try simp only [Act.put, List.setIfInBounds_toArray, List.set_cons_zero, List.set_cons_succ]
  refine wpAnyH_take (i := 7) (oi := { dst := some 44, op := Op.load 31 (Operand.tmp 43), type := 31, pos := "build.go:74", after := #[{ on := 6, ground := Ground.data }], guard := none }) (v := ?ve7) rfl (by kernel_rfl) (by kernel_rfl) (by kernel_rfl) (fun _ _ _ h => h) (Or.inl ⟨by rfl, ?hye7⟩) (by assumption) ?reste7
  case hye7 => first | (intro w hSw; (try dsimp only at hSw); go_simp; done) | (intro w hSw; (try dsimp only at hSw); go_simp; with_reducible rfl)
  try simp only [Act.put, List.setIfInBounds_toArray, List.set_cons_zero, List.set_cons_succ]
  refine wpAnyH_take (i := 8) (oi := { dst := some 45, op := Op.call { callee := Callee.builtin Builtin.len, args := #[Operand.tmp 44], argTypes := #[31] }, type := 3, pos := "build.go:74", after := #[{ on := 7, ground := Ground.data }], guard := none }) (v := ?ve8) rfl (by kernel_rfl) (by kernel_rfl) (by kernel_rfl) (fun _ _ _ h => h) (Or.inl ⟨by rfl, ?hye8⟩) (by assumption) ?reste8
  case hye8 => first | (intro w hSw; (try dsimp only at hSw); go_simp; done) | (intro w hSw; (try dsimp only at hSw); go_simp; with_reducible rfl)
  try simp only [Act.put, List.setIfInBounds_toArray, List.set_cons_zero, List.set_cons_succ]
  refine wpAnyH_take (i := 9) (oi := { dst := some 46, op := Op.move (Operand.tmp 1), type := 3, pos := "build.go:74", after := #[], guard := none }) (v := ?ve9) rfl (by kernel_rfl) (by kernel_rfl) (by kernel_rfl) (fun _ _ _ h => h) (Or.inl ⟨by rfl, ?hye9⟩) (by assumption) ?reste9
  case hye9 => first | (intro w hSw; (try dsimp only at hSw); go_simp; done) | (intro w hSw; (try dsimp only at hSw); go_simp; with_reducible rfl)
  try simp only [Act.put, List.setIfInBounds_toArray, List.set_cons_zero, List.set_cons_succ]
  refine wpAnyH_ready (rs := [10]) (by kernel_rfl) (by simp) ?_
  refine AllReadyH.cons (o := { dst := some 47, op := Op.call { callee := Callee.value (Operand.func 24), args := #[Operand.tmp 45, Operand.tmp 46], argTypes := #[3, 3] }, type := 30, pos := "build.go:74", after := #[{ on := 8, ground := Ground.data }, { on := 9, ground := Ground.data }], guard := none }) rfl (fun K hK => ?_) AllReadyH.nil
  go_simp
  ((refine (hRef.out _).mono ?_); rintro r5 w10 ⟨rfl, rfl⟩)
  refine hK.out _ _ ?_ (fun hHeld => ?_)
  · exact hHeld
  clear hK K
  try simp only [Act.put, List.setIfInBounds_toArray, List.set_cons_zero, List.set_cons_succ]
  refine wpAnyH_take (i := 11) (oi := { dst := some 48, op := Op.indexAddr 31 (Operand.tmp 40) (Operand.const (Value.int IntKind.i64 0)), type := 0, pos := "build.go:74", after := #[{ on := 3, ground := Ground.data }, { on := 0, ground := Ground.phase }, { on := 1, ground := Ground.phase }, { on := 2, ground := Ground.phase }, { on := 3, ground := Ground.phase }, { on := 4, ground := Ground.phase }, { on := 5, ground := Ground.phase }, { on := 6, ground := Ground.phase }, { on := 7, ground := Ground.phase }, { on := 8, ground := Ground.phase }, { on := 9, ground := Ground.phase }, { on := 10, ground := Ground.phase }], guard := none }) (v := ?ve11) rfl (by kernel_rfl) (by kernel_rfl) (by kernel_rfl) (fun _ _ _ h => h) (Or.inl ⟨by rfl, ?hye11⟩) (by assumption) ?reste11
  case hye11 => first | (intro w hSw; (try dsimp only at hSw); go_simp; done) | (intro w hSw; (try dsimp only at hSw); go_simp; with_reducible rfl)
  try simp only [Act.put, List.setIfInBounds_toArray, List.set_cons_zero, List.set_cons_succ]
  refine wpAnyH_ready (rs := [12]) (by kernel_rfl) (by simp) ?_
  refine AllReadyH.cons (o := { dst := none, op := Op.store 30 (Operand.tmp 48) (Operand.tmp 47), type := 0, pos := "build.go:74", after := #[{ on := 11, ground := Ground.data }, { on := 10, ground := Ground.data }, { on := 10, ground := Ground.chain }, { on := 0, ground := Ground.phase }, { on := 1, ground := Ground.phase }, { on := 2, ground := Ground.phase }, { on := 3, ground := Ground.phase }, { on := 4, ground := Ground.phase }, { on := 5, ground := Ground.phase }, { on := 6, ground := Ground.phase }, { on := 7, ground := Ground.phase }, { on := 8, ground := Ground.phase }, { on := 9, ground := Ground.phase }, { on := 10, ground := Ground.phase }], guard := none }) rfl (fun K hK => ?_) AllReadyH.nil
  obtain ⟨y1, d0, d1, d2, d3⟩ := LayS.put (show LayS w7 w5.heap.size (.slice sa 1 scap) w3.heap.size g7 5 c7 [0#64, 7#64, 8589934593#64, 5#64, 6#64] 0 (refV 5 0) _ from hHeld) rfl (show 0 < 5 by decide) hgb
  go_simp
  refine hK.out _ _ ?_ (fun hHeld => ?_)
  · exact ⟨d2.c1, .inr d2, d3⟩
  clear hK K
  try simp only [Act.put, List.setIfInBounds_toArray, List.set_cons_zero, List.set_cons_succ]
  refine wpAnyH_done (by kernel_rfl) ?_ _
  have d4 : (w7.setCell ⟨g7, 0, none⟩ (U (refV 5 0))).drew.cell? ⟨w5.heap.size, 1, none⟩ = some (.slice (some ⟨g7, 0, none⟩) 5 c7) := d2.c1
  have hfin : Hid (Row (w7.setCell ⟨g7, 0, none⟩ (U (refV 5 0))).drew 1 (.slice (some ⟨g7, 0, none⟩) 5 c7) 5 ([5#64, 7#64, 8589934593#64, 5#64, 6#64].map U) ∧ Below w.heap.size w (w7.setCell ⟨g7, 0, none⟩ (U (refV 5 0))).drew) := hid (And.intro (Row.of_owns d2.own) (hB3.trans ((hB37.trans d3).mono hB3.size)))
  clear d0 d1 d2 d3 hHeld c71 hB7
  generalize (w7.setCell ⟨g7, 0, none⟩ (U (refV 5 0))).drew = w9 at *
  go_wp2_with fail
  go_returns
  exact ⟨⟨_, rfl, hfin.out.1⟩, hfin.out.2⟩
end Go.Proofs.YtmcpanjpjnlleaaDoor

