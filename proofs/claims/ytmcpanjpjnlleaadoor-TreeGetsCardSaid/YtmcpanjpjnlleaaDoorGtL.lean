/- TreeGets: what a path leads to is told as the document says. -/
import Derived.Test.YtmcpanjpjnlleaaDoorGtM
import Derived.Test.YtmcpanjpjnlleaaDoorGtT
import Derived.Deep.RegionHeld3
set_option linter.unusedVariables false
set_option linter.unusedSimpArgs false
namespace Go.Proofs.YtmcpanjpjnlleaaDoor
section SLGets
open Go.RowKit

set_option maxRecDepth 100000 in
set_option maxHeartbeats 8000000 in
theorem gets_any (s : Schema) (sv : Value) (d : Nat) (t : Int) (v : St d) (cs : List Value) (path : List Int) (pv : Value) (w : World) (hl : LaidE w) (hs : Sch w sv s) (h : RdS d w cs v) (hp : Ints w pv path) :
    Calls Tryd.prog 12 #[sv, .int .i64 t, .agg cs.toArray, pv] w fun r w' => r = .returned (.bool true) ∧ Below w.heap.size w w' := by
  obtain ⟨x0, y0, a2, m2, p2, a3, m3, p3, hcs⟩ : ∃ x0 y0 a2 m2 p2 a3 m3 p3, cs = [U x0, .string y0, .slice a2 m2 p2, .slice a3 m3 p3] := by
    cases d with
    | zero => exact nomatch v
    | succ d =>
      obtain ⟨a2, p2, a3, p3, e, -⟩ := RdN.open h
      exact ⟨_, _, _, _, _, _, _, _, e⟩
  subst hcs
  obtain ⟨w1, hw1, hb1, hz1, hV⟩ := TB.make w (U x0) (.string y0) (.slice a2 m2 p2) (.slice a3 m3 p3) 34
  have hget := hid (tget_any s sv d t v _ path pv w1 (hs.below hb1 (Nat.le_refl _)) (h.below hb1 (Nat.le_refl _)) (hp.below hb1 (Nat.le_refl _)))
  have hrget := hid fun W (hW : Below w.heap.size w W) => rgetC_any s sv d t v _ path pv W (hs.below hW (Nat.le_refl _)) (h.below hW (Nat.le_refl _)) (hp.below hW (Nat.le_refl _))
  have HLaid := hid fun W (hW : Below w.heap.size w W) => LaidE.below hl hW (LaidE.pos hl)
  obtain ⟨sa, sc, hsv, -⟩ := hs.shape
  obtain ⟨sn, hsn⟩ : ∃ n, n = s.length := ⟨_, rfl⟩
  rw [← hsn] at hsv
  subst hsv
  obtain ⟨pa, pc, hpv, -⟩ := hp.open
  obtain ⟨pn, hpn⟩ : ∃ n, n = path.length := ⟨_, rfl⟩
  rw [← hpn] at hpv
  subst hpv
  have v0 := hV.c0
  have v1 := hV.c1
  have v2 := hV.c2
  have v3 := hV.c3
  have HV := hid fun W (hW : Below w1.heap.size w1 W) => hV.below hW
  clear hs h hp hsn hpn hV hz1 hl
  generalize getC s d t v path = g at *
  go_enter Tryd.func12, Tryd.ntmps12
  go_wp2_with fail
  ((refine hget.out.mono ?_); rintro r2 w2 ⟨rfl, hb2⟩)
  have hB2 := via hb1 hb2
  obtain ⟨_, u0, u1, u2, u3, _⟩ := HV.out w2 hb2
  clear hw1 v0 v1 v2 v3 hget
  go_wp2_with fail
  ((refine (hrget.out _ hB2).mono ?_); rintro r3 w3 ⟨rfl, hb3⟩)
  have hB3 := via hB2 hb3
  clear u0 u1 u2 u3 hrget
  obtain ⟨w4, hw4, hb4, hlt4, g0, g1, -⟩ := got_make w3 (U g.1) (.int .i64 g.2) 66
  have hB4 := via hB3 hb4
  have hHc := hid fun W (hW : Below w4.heap.size w4 W) => show W.cell? ⟨w3.heap.size, 0, none⟩ = some (U g.1) ∧ W.cell? ⟨w3.heap.size, 1, none⟩ = some (.int .i64 g.2) ∧ Below w4.heap.size w4 W from ⟨cell_below g0 hW, cell_below g1 hW, hW⟩
  have htop := hid fun W (hW : Below w4.heap.size w4 W) => top_err g.2 W (HLaid.out W (via hB4 hW))
  obtain ⟨gx, hgx⟩ : ∃ x, x = g.1 := ⟨_, rfl⟩
  obtain ⟨gy, hgy⟩ : ∃ x, x = g.2 := ⟨_, rfl⟩
  rw [← hgx] at hw4 g0 hHc ⊢
  rw [← hgy] at hw4 g1 hHc htop ⊢
  clear hgx hgy
  obtain ⟨ev, hev⟩ : ∃ e, e = ErrV gy := ⟨_, rfl⟩
  rw [← hev] at htop ⊢
  clear hev
  go_wp2_with fail
  clear hw4 g0 g1
  refine wp_region_held_drew (S := (fun W => W.cell? ⟨w3.heap.size, 0, none⟩ = some (U gx) ∧ W.cell? ⟨w3.heap.size, 1, none⟩ = some (.int .i64 gy) ∧ Below w4.heap.size w4 W)) (by kernel_rfl) ?_ (fun hHeld => ?_)
  · exact hHc.out _ (below_drewN _ _ 1)
  refine wpAnyH_take (i := 0) (oi := { dst := some 25, op := Op.move (Operand.tmp 9), type := 30, pos := "law.go:119", after := #[], guard := none }) (v := ?vq0) rfl (by kernel_rfl) (by kernel_rfl) (by kernel_rfl) (fun _ _ _ h => h) (Or.inl ⟨by rfl, ?hyq0⟩) (by assumption) ?restq0
  case hyq0 => first | (intro w hSw; (try dsimp only at hSw); go_simp; done) | (intro w hSw; (try dsimp only at hSw); go_simp; with_reducible rfl)
  try simp only [Act.put, List.setIfInBounds_toArray, List.set_cons_zero, List.set_cons_succ]
  refine wpAnyH_take (i := 1) (oi := { dst := some 26, op := Op.fieldAddr 66 (Operand.tmp 11) 0, type := 0, pos := "law.go:119", after := #[], guard := none }) (v := ?vq1) rfl (by kernel_rfl) (by kernel_rfl) (by kernel_rfl) (fun _ _ _ h => h) (Or.inl ⟨by rfl, ?hyq1⟩) (by assumption) ?restq1
  case hyq1 => first | (intro w hSw; (try dsimp only at hSw); go_simp; done) | (intro w hSw; (try dsimp only at hSw); go_simp; with_reducible rfl)
  try simp only [Act.put, List.setIfInBounds_toArray, List.set_cons_zero, List.set_cons_succ]
  refine wpAnyH_take (i := 2) (oi := { dst := some 27, op := Op.load 30 (Operand.tmp 26), type := 30, pos := "law.go:119", after := #[{ on := 1, ground := Ground.data }], guard := none }) (v := ?vq2) rfl (by kernel_rfl) (by kernel_rfl) (by kernel_rfl) (fun _ _ _ h => h) (Or.inl ⟨by rfl, ?hyq2⟩) (by assumption) ?restq2
  case hyq2 => first | (intro w hSw; (try dsimp only at hSw); go_simp; done) | (intro w hSw; (try dsimp only at hSw); go_simp; with_reducible rfl)
  try simp only [Act.put, List.setIfInBounds_toArray, List.set_cons_zero, List.set_cons_succ]
  refine wpAnyH_take (i := 3) (oi := { dst := some 28, op := Op.binOp BinOp.eql 30 (Operand.tmp 25) (Operand.tmp 27) 30, type := 4, pos := "law.go:119", after := #[{ on := 0, ground := Ground.data }, { on := 2, ground := Ground.data }], guard := none }) (v := ?vq3) rfl (by kernel_rfl) (by kernel_rfl) (by kernel_rfl) (fun _ _ _ h => h) (Or.inl ⟨by rfl, ?hyq3⟩) (by assumption) ?restq3
  case hyq3 => first | (intro w hSw; (try dsimp only at hSw); go_simp; done) | (intro w hSw; (try dsimp only at hSw); go_simp; with_reducible rfl)
  try simp only [Act.put, List.setIfInBounds_toArray, List.set_cons_zero, List.set_cons_succ]
  refine wpAnyH_take (i := 4) (oi := { dst := some 29, op := Op.move (Operand.tmp 28), type := 4, pos := "law.go:119", after := #[{ on := 3, ground := Ground.data }], guard := none }) (v := ?vq4) rfl (by kernel_rfl) (by kernel_rfl) (by kernel_rfl) (fun _ _ _ h => h) (Or.inl ⟨by rfl, ?hyq4⟩) (by assumption) ?restq4
  case hyq4 => first | (intro w hSw; (try dsimp only at hSw); go_simp; done) | (intro w hSw; (try dsimp only at hSw); go_simp; with_reducible rfl)
  try simp only [Act.put, List.setIfInBounds_toArray, List.set_cons_zero, List.set_cons_succ]
  refine wpAnyH_take (i := 5) (oi := { dst := some 30, op := Op.move (Operand.tmp 10), type := 42, pos := "law.go:119", after := #[{ on := 4, ground := Ground.guard }], guard := some (4, true) }) (v := ?vq5) rfl (by kernel_rfl) (by kernel_rfl) (by kernel_rfl) (fun _ _ _ h => h) (Or.inl ⟨by rfl, ?hyq5⟩) (by assumption) ?restq5
  case hyq5 => first | (intro w hSw; (try dsimp only at hSw); go_simp; done) | (intro w hSw; (try dsimp only at hSw); go_simp; with_reducible rfl)
  try simp only [Act.put, List.setIfInBounds_toArray, List.set_cons_zero, List.set_cons_succ]
  refine wpAnyH_take (i := 7) (oi := { dst := some 32, op := Op.fieldAddr 66 (Operand.tmp 11) 1, type := 0, pos := "law.go:119", after := #[{ on := 4, ground := Ground.guard }], guard := some (4, true) }) (v := ?vq7) rfl (by kernel_rfl) (by kernel_rfl) (by kernel_rfl) (fun _ _ _ h => h) (Or.inl ⟨by rfl, ?hyq7⟩) (by assumption) ?restq7
  case hyq7 => first | (intro w hSw; (try dsimp only at hSw); go_simp; done) | (intro w hSw; (try dsimp only at hSw); go_simp; with_reducible rfl)
  try simp only [Act.put, List.setIfInBounds_toArray, List.set_cons_zero, List.set_cons_succ]
  refine wpAnyH_take (i := 8) (oi := { dst := some 33, op := Op.load 45 (Operand.tmp 32), type := 45, pos := "law.go:119", after := #[{ on := 7, ground := Ground.data }, { on := 4, ground := Ground.guard }], guard := some (4, true) }) (v := ?vq8) rfl (by kernel_rfl) (by kernel_rfl) (by kernel_rfl) (fun _ _ _ h => h) (Or.inl ⟨by rfl, ?hyq8⟩) (by assumption) ?restq8
  case hyq8 => first | (intro w hSw; (try dsimp only at hSw); go_simp; done) | (intro w hSw; (try dsimp only at hSw); go_simp; with_reducible rfl)
  try simp only [Act.put, List.setIfInBounds_toArray, List.set_cons_zero, List.set_cons_succ]
  refine wpAnyH_ready (rs := [6]) (by kernel_rfl) (by simp) ?_
  refine AllReadyH.cons (o := { dst := some 31, op := Op.call { callee := Callee.value (Operand.func 15), args := #[Operand.tmp 30], argTypes := #[42] }, type := 45, pos := "law.go:119", after := #[{ on := 5, ground := Ground.data }, { on := 4, ground := Ground.chain }, { on := 4, ground := Ground.guard }], guard := some (4, true) }) rfl (fun K hK => ?_) AllReadyH.nil
  go_simp
  ((refine (htop.out _ hHeld.2.2).mono ?_); rintro r6 w6 ⟨rfl, hb6⟩)
  have hb46 := via hHeld.2.2 hb6
  refine hK.out _ _ ?_ (fun hHeld => ?_)
  · exact hHc.out _ hb46
  clear hK K
  try simp only [Act.put, List.setIfInBounds_toArray, List.set_cons_zero, List.set_cons_succ]
  refine wpAnyH_take (i := 9) (oi := { dst := some 34, op := Op.binOp BinOp.eql 45 (Operand.tmp 31) (Operand.tmp 33) 45, type := 4, pos := "law.go:119", after := #[{ on := 6, ground := Ground.data }, { on := 8, ground := Ground.data }, { on := 4, ground := Ground.guard }], guard := some (4, true) }) (v := ?vq9) rfl (by kernel_rfl) (by kernel_rfl) (by kernel_rfl) (fun _ _ _ h => h) (Or.inl ⟨by rfl, ?hyq9⟩) (by assumption) ?restq9
  case hyq9 => first | (intro w hSw; (try dsimp only at hSw); go_simp; done) | (intro w hSw; (try dsimp only at hSw); go_simp; with_reducible rfl)
  try simp only [Act.put, List.setIfInBounds_toArray, List.set_cons_zero, List.set_cons_succ]
  refine wpAnyH_take (i := 10) (oi := { dst := some 35, op := Op.pick (Operand.tmp 29) (Operand.tmp 34) (Operand.const (Value.bool false)), type := 4, pos := "law.go:119", after := #[{ on := 4, ground := Ground.data }, { on := 9, ground := Ground.data }], guard := none }) (v := ?vq10) rfl (by kernel_rfl) (by kernel_rfl) (by kernel_rfl) (fun _ _ _ h => h) (Or.inl ⟨by rfl, ?hyq10⟩) (by assumption) ?restq10
  case hyq10 => first | (intro w hSw; (try dsimp only at hSw); go_simp; done) | (intro w hSw; (try dsimp only at hSw); go_simp; with_reducible rfl)
  try simp only [Act.put, List.setIfInBounds_toArray, List.set_cons_zero, List.set_cons_succ]
  refine wpAnyH_take (i := 11) (oi := { dst := some 8, op := Op.assign (Operand.tmp 35), type := 4, pos := "law.go:119", after := #[{ on := 10, ground := Ground.data }, { on := 6, ground := Ground.chain }, { on := 0, ground := Ground.phase }, { on := 1, ground := Ground.phase }, { on := 2, ground := Ground.phase }, { on := 3, ground := Ground.phase }, { on := 4, ground := Ground.phase }, { on := 5, ground := Ground.phase }, { on := 6, ground := Ground.phase }, { on := 7, ground := Ground.phase }, { on := 8, ground := Ground.phase }, { on := 9, ground := Ground.phase }, { on := 10, ground := Ground.phase }], guard := none }) (v := ?vq11) rfl (by kernel_rfl) (by kernel_rfl) (by kernel_rfl) (fun _ _ _ h => h) (Or.inl ⟨by rfl, ?hyq11⟩) (by assumption) ?restq11
  case hyq11 => first | (intro w hSw; (try dsimp only at hSw); go_simp; done) | (intro w hSw; (try dsimp only at hSw); go_simp; with_reducible rfl)
  try simp only [Act.put, List.setIfInBounds_toArray, List.set_cons_zero, List.set_cons_succ]
  refine wpAnyH_done (by kernel_rfl) ?_ _
  have hB9 := via hB4 hHeld.2.2
  clear hHeld htop hHc
  go_wp2_with fail
  go_returns
  exact ⟨rfl, hB9⟩

theorem ints_of : ∀ (xs : List Value), (∀ u ∈ xs, ∃ z : Int, u = .int .i64 z) → ∃ nl : List Int, xs = nl.map (Value.int .i64)
  | [], _ => ⟨[], rfl⟩
  | x :: l, h => by
    obtain ⟨z, rfl⟩ := h x (by simp)
    obtain ⟨nl, e⟩ := ints_of l (fun u hu => h u (by simp [hu]))
    exact ⟨z :: nl, by rw [e]; rfl⟩
theorem mem_set_ints {xs : List Value} {i : Nat} {y : Int} (h : ∀ u ∈ xs, ∃ z : Int, u = .int .i64 z) : ∀ u ∈ xs.set i (.int .i64 y), ∃ z : Int, u = .int .i64 z := fun u hu => by
  rcases List.mem_or_eq_of_mem_set hu with h' | h'
  · exact h u h'
  · exact ⟨y, h'⟩

set_option maxRecDepth 100000 in
set_option maxHeartbeats 40000000 in
theorem tgets_walk (u v o : Value) (T : Int) (tl vl ol : List Int) (how at_ n : Int) (str : ByteArray) (down : Bool) (w : World) (hl : LaidE w) (hu : Row w 1 u tl.length (tl.map (Value.int .i64))) (hv : Row w 1 v vl.length (vl.map (Value.int .i64))) (ho : Row w 1 o ol.length (ol.map (Value.int .i64)))
    (hub : ∀ z ∈ tl, -9223372036854775808 ≤ z ∧ z ≤ 9223372036854775807) (hvb : ∀ z ∈ vl, -9223372036854775808 ≤ z ∧ z ≤ 9223372036854775807) (hT : -9223372036854775808 ≤ T ∧ T ≤ 9223372036854775807) (hat : -9223372036854775808 ≤ at_ ∧ at_ ≤ 9223372036854775807) :
    Calls Tryd.prog 3 #[.agg #[u, v, .int .i64 T], o, .agg #[.int .i64 how, .int .i64 at_, .int .i64 n, .string str, .bool down]] w fun r w' => r = .returned (.bool true) ∧ Below w.heap.size w w' := by
  obtain ⟨iI, hiI, hzI, hsI, hbI⟩ := info_parts (show (Tryd.prog.info? 3).map (fun i => (i.zero, i.size, i.bytes)) = some (some (.int .i64 0), 1, 8) by kernel_rfl)
  obtain ⟨au, cu, hue, _⟩ := hu.open
  obtain ⟨av, cv, hve, _⟩ := hv.open
  obtain ⟨ao, co, hoe, hoc, hocm, _⟩ := ho.open
  have hom := ho.most
  unfold maxLen at hocm hom
  obtain ⟨w1, hw1, hb1, hlt1, hbox1⟩ := boxed w #[u, v, .int .i64 T] 24
  obtain ⟨w1', hw1', hb1', hQ⟩ := QB.make w1 how at_ n str down 26
  have q0 : w1'.cell? ⟨w.heap.size, 0, none⟩ = some u := (hb1'.cell (p := ⟨w.heap.size, 0, none⟩) hlt1).trans (hbox1 0)
  have q1 : w1'.cell? ⟨w.heap.size, 1, none⟩ = some v := (hb1'.cell (p := ⟨w.heap.size, 1, none⟩) hlt1).trans (hbox1 1)
  have q2 : w1'.cell? ⟨w.heap.size, 2, none⟩ = some (.int .i64 T) := (hb1'.cell (p := ⟨w.heap.size, 2, none⟩) hlt1).trans (hbox1 2)
  have hlt1' : w.heap.size < w1'.heap.size := Nat.lt_of_lt_of_le hlt1 hb1'.size
  have hb01 := via hb1 hb1'
  have hl1 := LaidE.below hl hb01 (LaidE.pos hl)
  have hspec := hid fun W (hW : Below w.heap.size w W) => spec_any 3 4 (by omega) rfl u v T tl vl W (hu.below hW (Nat.le_refl _)) (hv.below hW (Nat.le_refl _)) hub hvb hT
  have HO := hid fun W (hW : Below w.heap.size w W) => ho.below hW (Nat.le_refl _)
  have Ho := hid ho
  have HLaid := hid fun W (hW : Below w.heap.size w W) => LaidE.below hl hW (LaidE.pos hl)
  subst hue hve
  obtain ⟨m, hm⟩ : ∃ m, m = ol.length := ⟨_, rfl⟩
  have Hm := hid hm
  rw [← hm] at hoe hoc hom
  subst hoe
  have HQ := hid hQ
  clear hu hv ho hub hvb hbox1 hb1 hb1' hlt1 hQ hl hm
  go_enter Tryd.func3, Tryd.ntmps3
  go_wp2_with fail
  ((refine (awake06 _ hl1).mono ?_); rintro r2 w2 ⟨rfl, hb2⟩)
  replace q0 := (hb2.cell hlt1').trans q0
  replace q1 := (hb2.cell hlt1').trans q1
  replace q2 := (hb2.cell hlt1').trans q2
  have hb12 := via hb01 hb2
  have HQ2 := hid (HQ.out.below hb2)
  clear hw1 hw1' HQ
  go_wp2_with fail
  ((refine (hspec.out _ hb12).mono ?_); rintro r3 w3 ⟨sv, s, t, x0, x1, x2, x3, X, rfl, hb3, hs, hr, ht, hs4, hrd, hfit⟩)
  obtain ⟨a2, p2, a, cap, hcs, -, -, -, -, -⟩ := RdN.open hrd
  simp only [List.cons.injEq] at hcs
  obtain ⟨rfl, rfl, rfl, rfl, -⟩ := hcs
  have hb13 := via hb12 hb3
  have HQ3 := hid (HQ2.out.below hb3)
  clear hspec q0 q1 q2 hb2 hb3 hl1 hb12 hb01 HQ2
  obtain ⟨sa, scap, hsv, -⟩ := hs.shape
  obtain ⟨sn, hsn⟩ : ∃ n, n = s.length := ⟨_, rfl⟩
  rw [← hsn] at hsv
  subst hsv
  clear hsn ht hs4
  obtain ⟨w4, hw4, hb4, hz4, hV⟩ := TB.make w3 (U (Node.num X)) (.string (Node.bytes X)) (.slice a2 (Node.nums X).length p2) (.slice a (Node.kids X).length cap) 34
  have hb14 := via hb13 hb4
  have HQ4 := hid fun W (hW : Below w4.heap.size w4 W) => (HQ3.out.below hb4).below hW
  have HV := hid fun W (hW : Below w4.heap.size w4 W) => hV.below hW
  have Hs := hid fun W (hW : Below w4.heap.size w4 W) => (hs.below hb4 (Nat.le_refl _)).below hW (Nat.le_refl _)
  have Hrd := hid fun W (hW : Below w4.heap.size w4 W) => (hrd.below hb4 (Nat.le_refl _)).below hW (Nat.le_refl _)
  have Hr := hid hr
  have Hfit := hid hfit
  have hm2 : m ≤ 9223372036854775807 := by omega
  have hwlt : w.heap.size ≤ w4.heap.size := hb14.size
  clear hs hrd hz4 hV hb4 hb13 HQ3 hfit hr
  by_cases hm8 : 8 < m
  · have HP := hid fun W (hW : Below w.heap.size w W) => show Ints W (.slice ao 8 co) (ol.take 8) from row_cut (n := m) (by have h := HO.out W hW; rw [← Hm.out] at h ⊢; exact h) Hm.out (by omega)
    have hk8 : 8 ≤ 8 := Nat.le_refl _
    have hkl : 8 = (ol.take 8).length := by rw [List.length_take, ← Hm.out]; omega
    have hm8' : (8 : Int) < (m : Int) := by omega
    have hco8 : (8 : Int) ≤ (co : Int) := by omega
    have Hkl := hid hkl
    clear hkl
    clear hm8 HO Ho
    go_wp2_with (refine wpList_make_full _ rfl (.tmp 27) (.tmp 27) 22 rfl w4.heap.size 3 iI _ 1 Tryd.underlying22 hiI hzI hsI .i64 .i64 _ _ 8 rfl rfl (by omega) (by omega) (by rw [hbI]; omega) (by unfold maxLen; omega) (Nat.le_refl _) ?_; intro w5 ho5 hg5)
    clear hw4
    have hb45 : Below w4.heap.size w4 w5 := (Below.refl _ w4).grown hg5 (Nat.le_refl _) (fun q e => by cases e)
    have hxs : ∀ u ∈ (madeCells (Value.int .i64 0).cells (8 * 1)).toList, ∃ z : Int, u = .int .i64 z := fun u hu => by
      rw [show (Value.int IntKind.i64 0).cells = #[.int .i64 0] from rfl, toList_madeCells_one] at hu
      exact ⟨0, List.eq_of_mem_replicate hu⟩
    generalize (madeCells (Value.int .i64 0).cells (8 * 1)).toList = xs0 at *
    clear hg5
    go_wp2_with fail
    go_loopw [12] (fun iv wr => ∃ (i : Nat) (xs : List Value), i ≤ 8 ∧ iv = .int .i64 i ∧ wr.ownsRow w4.heap.size 3 1 (.slice (some ⟨w4.heap.size, 0, none⟩) 8 8) 8 xs ∧ (∀ u ∈ xs, ∃ z : Int, u = .int .i64 z) ∧ Below w4.heap.size w4 wr) (fun iv _ => 8 - (intOf iv).toNat)
    case atStart => exact ⟨0, xs0, Nat.zero_le _, rfl, ho5, hxs, hb45⟩
    case round =>
      clear ho5 hxs hb45
      obtain ⟨i, xs, hik, rfl, hown, hxs, hbl⟩ := hrel
      by_cases hlt : i < 8
      · have hrow := HP.out wr (hb14.trans (hbl.mono hwlt))
        obtain ⟨bp, op, cp, e, -, -, -, hpc⟩ := hrow.cons (by rw [← Hkl.out]; omega)
        simp only [Value.slice.injEq] at e
        obtain ⟨rfl, -, rfl⟩ := e
        obtain ⟨pz, hpz⟩ : ∃ z, (ol.take 8)[i]? = some z := get_lt (by rw [← Hkl.out]; exact hlt)
        have hpc1 : wr.cell? ⟨bp, op + i, none⟩ = some (.int .i64 pz) := by rw [hpc i (by rw [← Hkl.out]; omega), List.getElem?_map, hpz]; rfl
        have hbp : bp < w.heap.size := by
          have h0 := HP.out w (Below.refl _ _)
          obtain ⟨b', o', c', e, -, -, hlt', -⟩ := h0.cons (by rw [← Hkl.out]; omega)
          simp only [Value.slice.injEq, Option.some.injEq, Addr.mk.injEq] at e
          rw [e.1.1]; exact hlt'
        have hne : bp ≠ w4.heap.size := by omega
        have hne2 : w4.heap.size ≠ bp := by omega
        obtain ⟨yc, hyc⟩ := owns_has hown i (by omega)
        have hyf := hown.frozenAt i
        have Hst := hid fun (y : Int) => (show (wr.setCell ⟨w4.heap.size, i, none⟩ (.int .i64 y)).ownsRow w4.heap.size 3 1 (.slice (some ⟨w4.heap.size, 0, none⟩) 8 8) 8 (xs.set i (.int .i64 y)) from (hown.stored i (.int .i64 y)).1)
        have Hst2 := hid fun (y y2 : Int) => (show ((wr.setCell ⟨w4.heap.size, i, none⟩ (.int .i64 y)).setCell ⟨w4.heap.size, i, none⟩ (.int .i64 y2)).ownsRow w4.heap.size 3 1 (.slice (some ⟨w4.heap.size, 0, none⟩) 8 8) 8 ((xs.set i (.int .i64 y)).set i (.int .i64 y2)) from ((Hst.out y).stored i (.int .i64 y2)).1)
        have hb1s := hid fun (y : Int) => hbl.setCell (p := ⟨w4.heap.size, i, none⟩) (Nat.le_refl _) (.int .i64 y)
        have hb2s := hid fun (y y2 : Int) => (hb1s.out y).setCell (p := ⟨w4.heap.size, i, none⟩) (Nat.le_refl _) (.int .i64 y2)
        have hpc2 : ∀ y, (wr.setCell ⟨w4.heap.size, i, none⟩ (.int .i64 y)).cell? ⟨bp, op + i, none⟩ = some (.int .i64 pz) := fun y => (World.cell?_setCell_other _ _ _ _ (by simp [hne2])).trans hpc1
        have hyc2 : ∀ y, (wr.setCell ⟨w4.heap.size, i, none⟩ (.int .i64 y)).cell? ⟨w4.heap.size, i, none⟩ = some (.int .i64 y) := fun y => World.cell?_setCell_same _ _ _ hyc
        have Hxs := hid hxs
        clear hpc hrow hpz hxs hown hbl
        go_wp2_with fail
        all_goals
          go_roundw
          case rel =>
            refine ⟨i + 1, ?_, by omega, by go_num, ?_, ?_, ?_⟩
            rotate_left
            · first | with_reducible exact Hst2.out _ _ | with_reducible exact Hst.out _
            · first | with_reducible exact mem_set_ints (mem_set_ints Hxs.out) | with_reducible exact mem_set_ints Hxs.out
            · first | with_reducible exact hb2s.out _ _ | with_reducible exact hb1s.out _
          case measure => simp [intOf]; omega
      · obtain rfl : 8 = i := by omega
        clear hlt hik
        obtain ⟨nl, hnl⟩ := ints_of xs hxs
        have hnlen : nl.length = 8 := by have h := hown.1; rw [hnl, List.length_map] at h; omega
        have Hnear := hid fun W (hW : Below wr.heap.size wr W) => show Ints W (.slice (some ⟨w4.heap.size, 0, none⟩) 8 8) nl from by
          have h := (Row.of_owns hown).below hW (Nat.le_refl _)
          rw [hnl] at h
          have e : nl.length = 8 := hnlen
          show Row W 1 _ nl.length _
          rw [e]
          exact h
        have HP2 := hid fun W (hW : Below wr.heap.size wr W) => HP.out W ((hb14.trans (hbl.mono hwlt)).trans (hW.mono (Nat.le_trans hwlt hbl.size)))
        obtain ⟨_, t0, t1, t2', t3, t4, _⟩ := HQ4.out wr hbl
        obtain ⟨_, y0, y1, y2, y3, _⟩ := HV.out wr hbl
        have Hsp := hid (spoilt_any s Hr.out 3 t X _ wr wr (Below.refl _ _) (Hrd.out wr hbl) Hfit.out how at_ n str hat down)
        have Hbl := hid hbl
        clear hown hxs hnl hnlen hbl
        go_wp2_with fail
        ((refine Hsp.out.mono ?_); intro r5 w6 h6)
        clear t0 t1 t2' t3 t4 y0 y1 y2 y3
        obtain ⟨b2, q2, b3, q3, Y, rfl, hnY, hrY, hb6⟩ := h6.later (Below.refl _ _)
        clear hnY h6 Hsp
        obtain ⟨w7, hw7, hb7, hz7, hZ⟩ := TB.make w6 (U (Node.num Y)) (.string (Node.bytes Y)) (.slice b2 (Node.nums Y).length q2) (.slice b3 (Node.kids Y).length q3) 34
        have hbr7 := via hb6 hb7
        have hb47 := Hbl.out.trans (hbr7.mono Hbl.out.size)
        have hb07 := hb14.trans (hb47.mono hwlt)
        have Hall := hid fun W (hW : Below w7.heap.size w7 W) => show (LaidE W ∧ Sch W (.slice sa sn scap) s ∧ RdS 4 W [U (Node.num X), .string (Node.bytes X), .slice a2 (Node.nums X).length p2, .slice a (Node.kids X).length cap] X ∧ RdS 4 W [U (Node.num Y), .string (Node.bytes Y), .slice b2 (Node.nums Y).length q2, .slice b3 (Node.kids Y).length q3] Y ∧ Ints W (.slice ao 8 co) (ol.take 8) ∧ Ints W (.slice (some ⟨w4.heap.size, 0, none⟩) 8 8) nl) ∧
            TB W w3.heap.size (U (Node.num X)) (.string (Node.bytes X)) (.slice a2 (Node.nums X).length p2) (.slice a (Node.kids X).length cap) ∧ TB W w6.heap.size (U (Node.num Y)) (.string (Node.bytes Y)) (.slice b2 (Node.nums Y).length q2) (.slice b3 (Node.kids Y).length q3) from
          ⟨⟨HLaid.out W (hb07.trans (hW.mono hb07.size)), Hs.out W (hb47.trans (hW.mono hb47.size)), Hrd.out W (hb47.trans (hW.mono hb47.size)), hrY W (via hb7 hW), HP2.out W (via hbr7 hW), Hnear.out W (via hbr7 hW)⟩, HV.out W (hb47.trans (hW.mono hb47.size)), hZ.below hW⟩
        have Hb07 := hid hb07
        clear hrY hZ hb6 hb7 hz7 hbr7 hb47 hb07 Hbl HP2 Hnear Hs Hrd HV HQ4 hb14 HP
        obtain ⟨⟨k1, k2, k3, k4, k5, k6⟩, ⟨_, y0, y1, y2, y3, _⟩, ⟨_, z0, z1, z2, z3, _⟩⟩ := Hall.out w7 (Below.refl _ _)
        have hg1 := hid (gets_any s _ 4 t X _ (ol.take 8) _ w7 k1 k2 k3 k5)
        clear k1 k2 k3 k4 k5 k6
        go_wp2_with fail
        clear hw7
        ((refine hg1.out.mono ?_); rintro r8 w8 ⟨rfl, hb8⟩)
        clear y0 y1 y2 y3 z0 z1 z2 z3 hg1
        obtain ⟨⟨k1, k2, k3, k4, k5, k6⟩, ⟨_, y0, y1, y2, y3, _⟩, ⟨_, z0, z1, z2, z3, _⟩⟩ := Hall.out w8 hb8
        have hg2 := hid (gets_any s _ 4 t X _ nl _ w8 k1 k2 k3 k6)
        clear k1 k2 k3 k4 k5 k6
        go_wp2_with fail
        ((refine hg2.out.mono ?_); rintro r9 w9 ⟨rfl, hb9⟩)
        have hb79 := via hb8 hb9
        clear y0 y1 y2 y3 z0 z1 z2 z3 hg2
        obtain ⟨⟨k1, k2, k3, k4, k5, k6⟩, ⟨_, y0, y1, y2, y3, _⟩, ⟨_, z0, z1, z2, z3, _⟩⟩ := Hall.out w9 hb79
        have hg3 := hid (gets_any s _ 4 t Y _ nl _ w9 k1 k2 k4 k6)
        clear k1 k2 k3 k4 k5 k6
        go_wp2_with fail
        ((refine hg3.out.mono ?_); rintro r10 w10 ⟨rfl, hb10⟩)
        have hfin := via Hb07.out (via hb79 hb10)
        clear y0 y1 y2 y3 z0 z1 z2 z3 hg3
        go_wp2_with fail
        go_returns
        exact ⟨rfl, hfin⟩
  · have HP := hid fun W (hW : Below w.heap.size w W) => show Ints W (.slice ao m co) ol from by have h := HO.out W hW; rw [← Hm.out] at h; show Row W 1 _ ol.length _; rw [← Hm.out]; exact h
    have hk8 : m ≤ 8 := by omega
    have hkl := Hm.out
    have hm8' : (m : Int) ≤ 8 := by omega
    have Hkl := hid hkl
    clear hkl
    clear hm8 HO Ho
    go_wp2_with (refine wpList_make_full _ rfl (.tmp 27) (.tmp 27) 22 rfl w4.heap.size 3 iI _ 1 Tryd.underlying22 hiI hzI hsI .i64 .i64 _ _ m rfl rfl (by omega) (by omega) (by rw [hbI]; omega) (by unfold maxLen; omega) (Nat.le_refl _) ?_; intro w5 ho5 hg5)
    clear hw4
    have hb45 : Below w4.heap.size w4 w5 := (Below.refl _ w4).grown hg5 (Nat.le_refl _) (fun q e => by cases e)
    have hxs : ∀ u ∈ (madeCells (Value.int .i64 0).cells (m * 1)).toList, ∃ z : Int, u = .int .i64 z := fun u hu => by
      rw [show (Value.int IntKind.i64 0).cells = #[.int .i64 0] from rfl, toList_madeCells_one] at hu
      exact ⟨0, List.eq_of_mem_replicate hu⟩
    generalize (madeCells (Value.int .i64 0).cells (m * 1)).toList = xs0 at *
    clear hg5
    go_wp2_with fail
    go_loopw [12] (fun iv wr => ∃ (i : Nat) (xs : List Value), i ≤ m ∧ iv = .int .i64 i ∧ wr.ownsRow w4.heap.size 3 1 (.slice (some ⟨w4.heap.size, 0, none⟩) m m) m xs ∧ (∀ u ∈ xs, ∃ z : Int, u = .int .i64 z) ∧ Below w4.heap.size w4 wr) (fun iv _ => m - (intOf iv).toNat)
    case atStart => exact ⟨0, xs0, Nat.zero_le _, rfl, ho5, hxs, hb45⟩
    case round =>
      clear ho5 hxs hb45
      obtain ⟨i, xs, hik, rfl, hown, hxs, hbl⟩ := hrel
      by_cases hlt : i < m
      · have hrow := HP.out wr (hb14.trans (hbl.mono hwlt))
        obtain ⟨bp, op, cp, e, -, -, -, hpc⟩ := hrow.cons (by rw [← Hkl.out]; omega)
        simp only [Value.slice.injEq] at e
        obtain ⟨rfl, -, rfl⟩ := e
        obtain ⟨pz, hpz⟩ : ∃ z, ol[i]? = some z := get_lt (by rw [← Hkl.out]; exact hlt)
        have hpc1 : wr.cell? ⟨bp, op + i, none⟩ = some (.int .i64 pz) := by rw [hpc i (by rw [← Hkl.out]; omega), List.getElem?_map, hpz]; rfl
        have hbp : bp < w.heap.size := by
          have h0 := HP.out w (Below.refl _ _)
          obtain ⟨b', o', c', e, -, -, hlt', -⟩ := h0.cons (by rw [← Hkl.out]; omega)
          simp only [Value.slice.injEq, Option.some.injEq, Addr.mk.injEq] at e
          rw [e.1.1]; exact hlt'
        have hne : bp ≠ w4.heap.size := by omega
        have hne2 : w4.heap.size ≠ bp := by omega
        obtain ⟨yc, hyc⟩ := owns_has hown i (by omega)
        have hyf := hown.frozenAt i
        have Hst := hid fun (y : Int) => (show (wr.setCell ⟨w4.heap.size, i, none⟩ (.int .i64 y)).ownsRow w4.heap.size 3 1 (.slice (some ⟨w4.heap.size, 0, none⟩) m m) m (xs.set i (.int .i64 y)) from (hown.stored i (.int .i64 y)).1)
        have Hst2 := hid fun (y y2 : Int) => (show ((wr.setCell ⟨w4.heap.size, i, none⟩ (.int .i64 y)).setCell ⟨w4.heap.size, i, none⟩ (.int .i64 y2)).ownsRow w4.heap.size 3 1 (.slice (some ⟨w4.heap.size, 0, none⟩) m m) m ((xs.set i (.int .i64 y)).set i (.int .i64 y2)) from ((Hst.out y).stored i (.int .i64 y2)).1)
        have hb1s := hid fun (y : Int) => hbl.setCell (p := ⟨w4.heap.size, i, none⟩) (Nat.le_refl _) (.int .i64 y)
        have hb2s := hid fun (y y2 : Int) => (hb1s.out y).setCell (p := ⟨w4.heap.size, i, none⟩) (Nat.le_refl _) (.int .i64 y2)
        have hpc2 : ∀ y, (wr.setCell ⟨w4.heap.size, i, none⟩ (.int .i64 y)).cell? ⟨bp, op + i, none⟩ = some (.int .i64 pz) := fun y => (World.cell?_setCell_other _ _ _ _ (by simp [hne2])).trans hpc1
        have hyc2 : ∀ y, (wr.setCell ⟨w4.heap.size, i, none⟩ (.int .i64 y)).cell? ⟨w4.heap.size, i, none⟩ = some (.int .i64 y) := fun y => World.cell?_setCell_same _ _ _ hyc
        have Hxs := hid hxs
        clear hpc hrow hpz hxs hown hbl
        go_wp2_with fail
        all_goals
          go_roundw
          case rel =>
            refine ⟨i + 1, ?_, by omega, by go_num, ?_, ?_, ?_⟩
            rotate_left
            · first | with_reducible exact Hst2.out _ _ | with_reducible exact Hst.out _
            · first | with_reducible exact mem_set_ints (mem_set_ints Hxs.out) | with_reducible exact mem_set_ints Hxs.out
            · first | with_reducible exact hb2s.out _ _ | with_reducible exact hb1s.out _
          case measure => simp [intOf]; omega
      · obtain rfl : m = i := by omega
        clear hlt hik
        obtain ⟨nl, hnl⟩ := ints_of xs hxs
        have hnlen : nl.length = m := by have h := hown.1; rw [hnl, List.length_map] at h; omega
        have Hnear := hid fun W (hW : Below wr.heap.size wr W) => show Ints W (.slice (some ⟨w4.heap.size, 0, none⟩) m m) nl from by
          have h := (Row.of_owns hown).below hW (Nat.le_refl _)
          rw [hnl] at h
          have e : nl.length = m := hnlen
          show Row W 1 _ nl.length _
          rw [e]
          exact h
        have HP2 := hid fun W (hW : Below wr.heap.size wr W) => HP.out W ((hb14.trans (hbl.mono hwlt)).trans (hW.mono (Nat.le_trans hwlt hbl.size)))
        obtain ⟨_, t0, t1, t2', t3, t4, _⟩ := HQ4.out wr hbl
        obtain ⟨_, y0, y1, y2, y3, _⟩ := HV.out wr hbl
        have Hsp := hid (spoilt_any s Hr.out 3 t X _ wr wr (Below.refl _ _) (Hrd.out wr hbl) Hfit.out how at_ n str hat down)
        have Hbl := hid hbl
        clear hown hxs hnl hnlen hbl
        go_wp2_with fail
        ((refine Hsp.out.mono ?_); intro r5 w6 h6)
        clear t0 t1 t2' t3 t4 y0 y1 y2 y3
        obtain ⟨b2, q2, b3, q3, Y, rfl, hnY, hrY, hb6⟩ := h6.later (Below.refl _ _)
        clear hnY h6 Hsp
        obtain ⟨w7, hw7, hb7, hz7, hZ⟩ := TB.make w6 (U (Node.num Y)) (.string (Node.bytes Y)) (.slice b2 (Node.nums Y).length q2) (.slice b3 (Node.kids Y).length q3) 34
        have hbr7 := via hb6 hb7
        have hb47 := Hbl.out.trans (hbr7.mono Hbl.out.size)
        have hb07 := hb14.trans (hb47.mono hwlt)
        have Hall := hid fun W (hW : Below w7.heap.size w7 W) => show (LaidE W ∧ Sch W (.slice sa sn scap) s ∧ RdS 4 W [U (Node.num X), .string (Node.bytes X), .slice a2 (Node.nums X).length p2, .slice a (Node.kids X).length cap] X ∧ RdS 4 W [U (Node.num Y), .string (Node.bytes Y), .slice b2 (Node.nums Y).length q2, .slice b3 (Node.kids Y).length q3] Y ∧ Ints W (.slice ao m co) ol ∧ Ints W (.slice (some ⟨w4.heap.size, 0, none⟩) m m) nl) ∧
            TB W w3.heap.size (U (Node.num X)) (.string (Node.bytes X)) (.slice a2 (Node.nums X).length p2) (.slice a (Node.kids X).length cap) ∧ TB W w6.heap.size (U (Node.num Y)) (.string (Node.bytes Y)) (.slice b2 (Node.nums Y).length q2) (.slice b3 (Node.kids Y).length q3) from
          ⟨⟨HLaid.out W (hb07.trans (hW.mono hb07.size)), Hs.out W (hb47.trans (hW.mono hb47.size)), Hrd.out W (hb47.trans (hW.mono hb47.size)), hrY W (via hb7 hW), HP2.out W (via hbr7 hW), Hnear.out W (via hbr7 hW)⟩, HV.out W (hb47.trans (hW.mono hb47.size)), hZ.below hW⟩
        have Hb07 := hid hb07
        clear hrY hZ hb6 hb7 hz7 hbr7 hb47 hb07 Hbl HP2 Hnear Hs Hrd HV HQ4 hb14 HP
        obtain ⟨⟨k1, k2, k3, k4, k5, k6⟩, ⟨_, y0, y1, y2, y3, _⟩, ⟨_, z0, z1, z2, z3, _⟩⟩ := Hall.out w7 (Below.refl _ _)
        have hg1 := hid (gets_any s _ 4 t X _ ol _ w7 k1 k2 k3 k5)
        clear k1 k2 k3 k4 k5 k6
        go_wp2_with fail
        clear hw7
        ((refine hg1.out.mono ?_); rintro r8 w8 ⟨rfl, hb8⟩)
        clear y0 y1 y2 y3 z0 z1 z2 z3 hg1
        obtain ⟨⟨k1, k2, k3, k4, k5, k6⟩, ⟨_, y0, y1, y2, y3, _⟩, ⟨_, z0, z1, z2, z3, _⟩⟩ := Hall.out w8 hb8
        have hg2 := hid (gets_any s _ 4 t X _ nl _ w8 k1 k2 k3 k6)
        clear k1 k2 k3 k4 k5 k6
        go_wp2_with fail
        ((refine hg2.out.mono ?_); rintro r9 w9 ⟨rfl, hb9⟩)
        have hb79 := via hb8 hb9
        clear y0 y1 y2 y3 z0 z1 z2 z3 hg2
        obtain ⟨⟨k1, k2, k3, k4, k5, k6⟩, ⟨_, y0, y1, y2, y3, _⟩, ⟨_, z0, z1, z2, z3, _⟩⟩ := Hall.out w9 hb79
        have hg3 := hid (gets_any s _ 4 t Y _ nl _ w9 k1 k2 k4 k6)
        clear k1 k2 k3 k4 k5 k6
        go_wp2_with fail
        ((refine hg3.out.mono ?_); rintro r10 w10 ⟨rfl, hb10⟩)
        have hfin := via Hb07.out (via hb79 hb10)
        clear y0 y1 y2 y3 z0 z1 z2 z3 hg3
        go_wp2_with fail
        go_returns
        exact ⟨rfl, hfin⟩

theorem row_lenS {w : World} {v : Value} {n : Nat} {l : List Int} (h : Row w 1 v n (l.map (Value.int .i64))) : Row w 1 v l.length (l.map (Value.int .i64)) := by
  have : l.length = n := by have := h.len; simpa using this
  rw [this]; exact h
theorem law_TreeGets (u v : Value) (n m : Nat) (tl vl : List Int) (T : Int) (o : Value) (n2 : Nat) (ol : List Int) (how at_ k : Int) (str : ByteArray) (down : Bool) (w : World) (hl : LaidE w) (hu : Row w 1 u n (tl.map (Value.int .i64))) (hv : Row w 1 v m (vl.map (Value.int .i64)))
    (hub : ∀ z ∈ tl, -9223372036854775808 ≤ z ∧ z ≤ 9223372036854775807) (hvb : ∀ z ∈ vl, -9223372036854775808 ≤ z ∧ z ≤ 9223372036854775807) (hT : -9223372036854775808 ≤ T ∧ T ≤ 9223372036854775807) (ho : Row w 1 o n2 (ol.map (Value.int .i64))) (hat : -9223372036854775808 ≤ at_ ∧ at_ ≤ 9223372036854775807) :
    Calls Tryd.prog 3 #[.agg #[u, v, .int .i64 T], o, .agg #[.int .i64 how, .int .i64 at_, .int .i64 k, .string str, .bool down]] w fun r w' => r = .returned (.bool true) ∧ Below w.heap.size w w' :=
  tgets_walk u v o T tl vl ol how at_ k str down w hl (row_lenS hu) (row_lenS hv) (row_lenS ho) hub hvb hT hat
end SLGets

end Go.Proofs.YtmcpanjpjnlleaaDoor

