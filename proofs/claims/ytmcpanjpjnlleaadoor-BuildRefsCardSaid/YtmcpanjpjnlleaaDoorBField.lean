/- build's builder: fields that are Num, and Nums. -/
import Derived.Test.YtmcpanjpjnlleaaDoorBLay
import Derived.Test.YtmcpanjpjnlleaaDoorMadeT0
set_option linter.unusedVariables false
namespace Go.Proofs.YtmcpanjpjnlleaaDoor
open Go.RowKit

/-- While a word is laid. -/
def PutS (w0 : World) (B : Nat) (sv : Value) (base g k cap : Nat) (ws : List (BitVec 64)) (p : Nat) (v : BitVec 64) (D : Nat) (W : World) : Prop :=
  W.cell? ⟨B, 1, none⟩ = some (.slice (some ⟨g, 0, none⟩) k cap) ∧ W.cell? ⟨D, 0, none⟩ = some (U v) ∧ (BB W B sv base (.slice (some ⟨g, 0, none⟩) k cap) ws ∨ BB W B sv base (.slice (some ⟨g, 0, none⟩) k cap) (ws.set p v)) ∧ Below base w0 W

theorem PutS.start {w0 : World} {B : Nat} {sv : Value} {base g k cap : Nat} {ws : List (BitVec 64)} {p : Nat} {v : BitVec 64} {D : Nat} {W : World} (h : BB W B sv base (.slice (some ⟨g, 0, none⟩) k cap) ws) (hD : W.cell? ⟨D, 0, none⟩ = some (U v)) (hb : Below base w0 W) : PutS w0 B sv base g k cap ws p v D W := ⟨h.c1, hD, .inl h, hb⟩
theorem PutS.put {w0 : World} {B : Nat} {sv : Value} {base g k cap : Nat} {ws : List (BitVec 64)} {p : Nat} {v : BitVec 64} {D : Nat} {W : World} (h : PutS w0 B sv base g k cap ws p v D W) (hk : k = ws.length) (hp : p < k) (hg : base ≤ g) :
    ∃ y : BitVec 64, W.cell? ⟨g, p, none⟩ = some (U y) ∧ W.frozen? ⟨g, p, none⟩ = false ∧ BB (W.setCell ⟨g, p, none⟩ (U v)) B sv base (.slice (some ⟨g, 0, none⟩) k cap) (ws.set p v) ∧ Below base w0 (W.setCell ⟨g, p, none⟩ (U v)) :=
  LayS.put (v := v) ⟨h.1, h.2.2⟩ hk hp hg

set_option maxRecDepth 100000 in
set_option maxHeartbeats 8000000 in
theorem bfield_num (x : BitVec 64) (s : ByteArray) (c2 c3 : Value) (t : Int) (p B base g cap k : Nat) (sv : Value) (ws : List (BitVec 64)) (w : World) (hk : k = ws.length) (hk2 : k ≤ 1000000) (hp : p < k) (hbB : base ≤ B)
    (h : BB w B sv base (.slice (some ⟨g, 0, none⟩) k cap) ws) :
    Calls Tryd.prog 62 #[.pointer (some ⟨B, 0, none⟩), .int .i64 1, .int .i64 t, .agg #[U x, .string s, c2, c3], .int .i64 p] w fun e w' => e = .returned (.tuple #[]) ∧ BB w' B sv base (.slice (some ⟨g, 0, none⟩) k cap) (ws.set p x) ∧ Below base w w' ∧ (∀ b, b < w.heap.size → b ≠ B → b ≠ g → w'.heap[b]? = w.heap[b]?) := by
  obtain ⟨w1, hw1, hb1, hz1, hK⟩ := TB.make w (U x) (.string s) c2 c3 34
  have h1 := hid (h.below hb1)
  have Hk := hid hk
  have hgb : base ≤ g := (own_blk h.own (g := g) rfl).2
  have hlt := h.lt
  have hbw : Below base w w1 := hb1.mono (by omega)
  have hgD : g ≠ w.heap.size := by have := (own_blk h.own (g := g) rfl).1.lt; omega
  clear h hk hz1
  have c1 := h1.out.c1
  have k0 := hK.c0
  have hpk2 : (p : Int) < (k : Int) := by omega
  go_enter Tryd.func62, Tryd.ntmps62
  go_wp2_with fail
  clear hw1
  refine wp_region_held_drew (S := (fun W => W.cell? ⟨B, 1, none⟩ = some (.slice (some ⟨g, 0, none⟩) k cap) ∧ W.cell? ⟨w.heap.size, 0, none⟩ = some (U x) ∧ (BB W B sv base (.slice (some ⟨g, 0, none⟩) k cap) ws ∨ BB W B sv base (.slice (some ⟨g, 0, none⟩) k cap) (ws.set p x)) ∧ Below base w W)) (by kernel_rfl) ?_ (fun hHeld => ?_)
  · exact PutS.start (h1.out.below (below_drewN _ _ 1)) k0 (hbw.trans (below_drewN _ _ 1))
  refine wpAnyH_take (i := 0) (oi := { dst := some 25, op := Op.move (Operand.tmp 0), type := 106, pos := "build.go:47", after := #[], guard := none }) (v := ?vf0) rfl (by kernel_rfl) (by kernel_rfl) (by kernel_rfl) (fun _ _ _ h => h) (Or.inl ⟨by rfl, ?hyf0⟩) (by assumption) ?restf0
  case hyf0 => first | (intro w hSw; (try dsimp only at hSw); go_simp; done) | (intro w hSw; (try dsimp only at hSw); go_simp; with_reducible rfl)
  try simp only [Act.put, List.setIfInBounds_toArray, List.set_cons_zero, List.set_cons_succ]
  refine wpAnyH_take (i := 1) (oi := { dst := some 26, op := Op.nilCheck (Operand.tmp 25), type := 0, pos := "build.go:47", after := #[{ on := 0, ground := Ground.data }], guard := none }) (v := ?vf1) rfl (by kernel_rfl) (by kernel_rfl) (by kernel_rfl) (fun _ _ _ h => h) (Or.inl ⟨by rfl, ?hyf1⟩) (by assumption) ?restf1
  case hyf1 => first | (intro w hSw; (try dsimp only at hSw); go_simp; done) | (intro w hSw; (try dsimp only at hSw); go_simp; with_reducible rfl)
  try simp only [Act.put, List.setIfInBounds_toArray, List.set_cons_zero, List.set_cons_succ]
  refine wpAnyH_take (i := 2) (oi := { dst := some 27, op := Op.fieldAddr 108 (Operand.tmp 26) 1, type := 0, pos := "build.go:47", after := #[{ on := 1, ground := Ground.data }], guard := none }) (v := ?vf2) rfl (by kernel_rfl) (by kernel_rfl) (by kernel_rfl) (fun _ _ _ h => h) (Or.inl ⟨by rfl, ?hyf2⟩) (by assumption) ?restf2
  case hyf2 => first | (intro w hSw; (try dsimp only at hSw); go_simp; done) | (intro w hSw; (try dsimp only at hSw); go_simp; with_reducible rfl)
  try simp only [Act.put, List.setIfInBounds_toArray, List.set_cons_zero, List.set_cons_succ]
  refine wpAnyH_take (i := 3) (oi := { dst := some 28, op := Op.load 31 (Operand.tmp 27), type := 31, pos := "build.go:47", after := #[{ on := 2, ground := Ground.data }], guard := none }) (v := ?vf3) rfl (by kernel_rfl) (by kernel_rfl) (by kernel_rfl) (fun _ _ _ h => h) (Or.inl ⟨by rfl, ?hyf3⟩) (by assumption) ?restf3
  case hyf3 => first | (intro w hSw; (try dsimp only at hSw); go_simp; done) | (intro w hSw; (try dsimp only at hSw); go_simp; with_reducible rfl)
  try simp only [Act.put, List.setIfInBounds_toArray, List.set_cons_zero, List.set_cons_succ]
  refine wpAnyH_take (i := 4) (oi := { dst := some 29, op := Op.move (Operand.tmp 4), type := 3, pos := "build.go:47", after := #[], guard := none }) (v := ?vf4) rfl (by kernel_rfl) (by kernel_rfl) (by kernel_rfl) (fun _ _ _ h => h) (Or.inl ⟨by rfl, ?hyf4⟩) (by assumption) ?restf4
  case hyf4 => first | (intro w hSw; (try dsimp only at hSw); go_simp; done) | (intro w hSw; (try dsimp only at hSw); go_simp; with_reducible rfl)
  try simp only [Act.put, List.setIfInBounds_toArray, List.set_cons_zero, List.set_cons_succ]
  refine wpAnyH_take (i := 5) (oi := { dst := some 30, op := Op.fieldAddr 34 (Operand.tmp 8) 0, type := 0, pos := "build.go:47", after := #[], guard := none }) (v := ?vf5) rfl (by kernel_rfl) (by kernel_rfl) (by kernel_rfl) (fun _ _ _ h => h) (Or.inl ⟨by rfl, ?hyf5⟩) (by assumption) ?restf5
  case hyf5 => first | (intro w hSw; (try dsimp only at hSw); go_simp; done) | (intro w hSw; (try dsimp only at hSw); go_simp; with_reducible rfl)
  try simp only [Act.put, List.setIfInBounds_toArray, List.set_cons_zero, List.set_cons_succ]
  refine wpAnyH_take (i := 6) (oi := { dst := some 31, op := Op.load 30 (Operand.tmp 30), type := 30, pos := "build.go:47", after := #[{ on := 5, ground := Ground.data }], guard := none }) (v := ?vf6) rfl (by kernel_rfl) (by kernel_rfl) (by kernel_rfl) (fun _ _ _ h => h) (Or.inl ⟨by rfl, ?hyf6⟩) (by assumption) ?restf6
  case hyf6 => first | (intro w hSw; (try dsimp only at hSw); go_simp; done) | (intro w hSw; (try dsimp only at hSw); go_simp; with_reducible rfl)
  try simp only [Act.put, List.setIfInBounds_toArray, List.set_cons_zero, List.set_cons_succ]
  refine wpAnyH_take (i := 7) (oi := { dst := some 32, op := Op.indexAddr 31 (Operand.tmp 28) (Operand.tmp 29), type := 0, pos := "build.go:47", after := #[{ on := 3, ground := Ground.data }, { on := 4, ground := Ground.data }, { on := 0, ground := Ground.phase }, { on := 1, ground := Ground.phase }, { on := 2, ground := Ground.phase }, { on := 3, ground := Ground.phase }, { on := 4, ground := Ground.phase }, { on := 5, ground := Ground.phase }, { on := 6, ground := Ground.phase }], guard := none }) (v := ?vf7) rfl (by kernel_rfl) (by kernel_rfl) (by kernel_rfl) (fun _ _ _ h => h) (Or.inl ⟨by rfl, ?hyf7⟩) (by assumption) ?restf7
  case hyf7 => first | (intro w hSw; (try dsimp only at hSw); go_simp; done) | (intro w hSw; (try dsimp only at hSw); go_simp; with_reducible rfl)
  try simp only [Act.put, List.setIfInBounds_toArray, List.set_cons_zero, List.set_cons_succ]
  refine wpAnyH_ready (rs := [8]) (by kernel_rfl) (by simp) ?_
  refine AllReadyH.cons (o := { dst := none, op := Op.store 30 (Operand.tmp 32) (Operand.tmp 31), type := 0, pos := "build.go:47", after := #[{ on := 7, ground := Ground.data }, { on := 6, ground := Ground.data }, { on := 0, ground := Ground.phase }, { on := 1, ground := Ground.phase }, { on := 2, ground := Ground.phase }, { on := 3, ground := Ground.phase }, { on := 4, ground := Ground.phase }, { on := 5, ground := Ground.phase }, { on := 6, ground := Ground.phase }], guard := none }) rfl (fun K hK => ?_) AllReadyH.nil
  obtain ⟨y1, d0, d1, d2, d3⟩ := PutS.put hHeld Hk.out hp hgb
  go_simp
  refine hK.out _ _ ?_ (fun hHeld => ?_)
  · exact ⟨d2.c1, (World.cell?_setCell_other _ _ _ _ (by simp [hgD])).trans hHeld.2.1, .inr d2, d3⟩
  clear hK K
  try simp only [Act.put, List.setIfInBounds_toArray, List.set_cons_zero, List.set_cons_succ]
  refine wpAnyH_done (by kernel_rfl) ?_ _
  have hB3 : BB (w1.setCell ⟨g, p, none⟩ (U x)).drew B sv base (.slice (some ⟨g, 0, none⟩) k cap) (ws.set p x) := d2
  have hb3 : Below base w (w1.setCell ⟨g, p, none⟩ (U x)).drew := d3
  clear d0 d1 d2 d3 hHeld c1 k0
  go_wp2_with fail
  go_returns
  exact ⟨rfl, hB3, hb3, fun b h1 h2 h3 => (Below.heap_setCell w1 ⟨g, p, none⟩ (U x) b h3).trans (hb1.block b h1)⟩

set_option maxRecDepth 100000 in
set_option maxHeartbeats 8000000 in
theorem bfield_nums (x : BitVec 64) (s : ByteArray) (c3 : Value) (ys : List (BitVec 64)) (hy : 0 < ys.length) (hy2 : ys.length ≤ 1000) (by_ offy capy : Nat) (t : Int) (p B base g cap k : Nat) (sv : Value) (ws : List (BitVec 64)) (w : World) (hk : k = ws.length) (hk2 : k ≤ 1000000) (hp : p < k) (hbB : base ≤ B)
    (h : BB w B sv base (.slice (some ⟨g, 0, none⟩) k cap) ws) (hyr : Row w 1 (.slice (some ⟨by_, offy, none⟩) ys.length capy) ys.length (ys.map U)) (hyb : by_ < base) :
    Calls Tryd.prog 62 #[.pointer (some ⟨B, 0, none⟩), .int .i64 3, .int .i64 t, .agg #[U x, .string s, .slice (some ⟨by_, offy, none⟩) ys.length capy, c3], .int .i64 p] w fun e w' => e = .returned (.tuple #[]) ∧ (∃ wv', BB w' B sv base wv' (ws.set p (refV ((ws.length : Int) - p) ys.length) ++ ys)) ∧ Below base w w' ∧ (∀ b, b < w.heap.size → b ≠ B → b ≠ g → w'.heap[b]? = w.heap[b]?) := by
  obtain ⟨w1, hw1, hb1, hz1, hK⟩ := TB.make w (U x) (.string s) (.slice (some ⟨by_, offy, none⟩) ys.length capy) c3 34
  have hlt := h.lt
  have hbw : Below base w w1 := hb1.mono (by omega)
  have hlay := hid (lay_yes p ys.length hy hy2 ys hy hy2 B base g cap k sv (.slice (some ⟨by_, offy, none⟩) ys.length capy) ws w1 hk hk2 hp (h.below hb1) hbB (hyr.below hb1 (Nat.le_refl _)) (fun b off m c e => by
    simp only [Value.slice.injEq, Option.some.injEq, Addr.mk.injEq] at e
    omega))
  clear h hk hz1 hyr
  have k2 := hK.c2
  obtain ⟨m, hm⟩ : ∃ m, m = ys.length := ⟨_, rfl⟩
  rw [← hm] at hw1 k2 hlay ⊢
  clear hm
  go_enter Tryd.func62, Tryd.ntmps62
  go_wp2_with fail
  ((refine hlay.out.mono ?_); rintro r5 w5 ⟨rfl, ⟨wv', hB5, hs5, hb5, hkp5⟩⟩)
  clear hw1 k2 hlay
  have hfin := hid (And.intro hB5 (And.intro (hbw.trans hb5) (fun b (h1 : b < w.heap.size) (h2 : b ≠ B) (h3 : b ≠ g) => (hkp5 b (Nat.lt_of_lt_of_le h1 hb1.size) h2 h3).trans (hb1.block b h1))))
  clear hB5 hb5 hs5 hkp5
  go_wp2_with fail
  go_returns
  exact ⟨rfl, ⟨_, hfin.out.1⟩, hfin.out.2.1, hfin.out.2.2⟩
end Go.Proofs.YtmcpanjpjnlleaaDoor

