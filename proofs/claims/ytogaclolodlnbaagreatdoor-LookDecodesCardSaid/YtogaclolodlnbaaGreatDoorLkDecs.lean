/- Layer 9's decodes: words are decoded, and a path of them gone, as the document says. -/
import Derived.Test.YtogaclolodlnbaaGreatDoorRDec9
import Derived.Test.YtogaclolodlnbaaGreatDoorGr
import Derived.Test.YtogaclolodlnbaaGreatDoorRGetC
import Derived.Test.YtogaclolodlnbaaGreatDoorWord
import Derived.Test.YtogaclolodlnbaaGreatDoorAs2
import Derived.Test.YtogaclolodlnbaaGreatDoorGn
set_option linter.unusedVariables false
set_option linter.unusedSimpArgs false
namespace Go.Proofs.YtogaclolodlnbaaGreatDoor
section SLkDecs
open Go.RowKit

set_option maxRecDepth 100000 in
set_option maxHeartbeats 16000000 in
theorem decodes_any {s : Schema} {ws : List (BitVec 64)} {l : List Int} {sv wv pv : Value} {w : World} (hl : LaidE w) (hs : Sch w sv s) (hw : Row w 1 wv ws.length (ws.map U)) (hp : Ints w pv l) :
    Calls Tryz.prog 6 #[sv, wv, pv] w fun r w' => r = .returned (.bool true) ∧ Below w.heap.size w w' := by
  have hdec := hid (ldecode_any s ws sv wv w hs hw)
  have hrd := hid fun W (hW : Below w.heap.size w W) => rdec9_any s ws sv wv W (hs.below hW (Nat.le_refl _)) (hw.below hW (Nat.le_refl _))
  have hpath := hid fun W (hW : Below w.heap.size w W) => lpath_any s ws l sv wv pv W (hs.below hW (Nat.le_refl _)) (hw.below hW (Nat.le_refl _)) (Row.below hp hW (Nat.le_refl _))
  have hla := hid fun W (hW : Below w.heap.size w W) => LaidE.below hl hW (LaidE.pos hl)
  obtain ⟨wa, wc, rfl, -⟩ := hw.open
  obtain ⟨pa, pc, rfl, -⟩ := Row.open hp
  obtain ⟨sa, scap, hsv, -⟩ := hs.shape
  obtain ⟨ns, hns⟩ : ∃ ns, ns = s.length := ⟨_, rfl⟩
  rw [← hns] at hsv
  subst hsv
  obtain ⟨tt, htt⟩ : ∃ tt, tt = decT s ws := ⟨_, rfl⟩
  obtain ⟨V, hV⟩ : ∃ V, V = decV s ws := ⟨_, rfl⟩
  have Hget := hid fun (cs : List Value) (W : World) (hW : Below w.heap.size w W) (h : RdS 5 W cs V) => rgetC_any s (.slice sa ns scap) 5 tt V cs l (.slice pa l.length pc) W (hs.below hW (Nat.le_refl _)) h (Row.below hp hW (Nat.le_refl _))
  obtain ⟨L, hL⟩ : ∃ L, L = ws.length := ⟨_, rfl⟩
  obtain ⟨M, hM⟩ : ∃ M, M = l.length := ⟨_, rfl⟩
  obtain ⟨⟨e, p, n⟩, hA⟩ : ∃ r, allW s ws = r := ⟨_, rfl⟩
  have HA := hid hA
  unfold DecodeP at hdec
  unfold RDecP at hrd
  unfold PathP pathN at hpath
  rw [hA] at hdec hrd hpath
  simp only at hdec hrd hpath
  rw [← hL] at hdec hrd hpath ⊢
  rw [← hM] at hpath Hget ⊢
  rw [← htt, ← hV] at hdec hrd hpath
  obtain ⟨nn, hnn⟩ : ∃ nn, nn = (if e = 0 then (getC s 5 tt V l).1 else 0#64) := ⟨_, rfl⟩
  rw [← hnn] at hpath
  have Hnn := hid hnn
  obtain ⟨pd, hpd⟩ : ∃ pd : Int, ((p.getD 0 : Nat) : Int) = pd := ⟨_, rfl⟩
  obtain ⟨ps, hps⟩ : ∃ ps, p.isSome = ps := ⟨_, rfl⟩
  have Hword := hid fun (u : Value) (W : World) (hE : ErrW W u e p) => word_errW hE
  rw [hpd, hps] at hrd Hword
  have hpn : e = 0 → ps = false := fun h => by
    have := allW_zero (s := s) (ws := ws) (by rw [hA]; exact h)
    rw [hA] at this
    rw [← hps]
    simp only at this
    rw [this]; rfl
  have htne : (tt != tt) = false := by simp
  have hene : (e != e) = false := by simp
  have hpne : (pd != pd) = false := by simp
  have heee : (e == e) = true := by simp
  clear hs hw hp hl hns hL hM hA hpd hps htt hV hnn
  go_enter Tryz.func6, Tryz.ntmps6
  go_wp2_with fail
  ((refine hdec.out.mono ?_); rintro r1 w1 ⟨k0, k1, k2, k3, u, rfl, hE, hb1, hkw⟩)
  obtain ⟨y0, y1, a2, m2, p2, a3, m3, p3, hcs⟩ := form_S 5 _ _ _ hkw.now
  simp only [List.cons.injEq] at hcs
  obtain ⟨rfl, rfl, rfl, rfl, _⟩ := hcs
  obtain ⟨w2, hw3, hb3, hz3, hV3⟩ := TB.make w1 (.int .u64 0) (.string ⟨#[]⟩) (.slice none 0 0) (.slice none 0 0) 36
  obtain ⟨Vx, hVe3⟩ : ∃ Vx, w1.heap.size = Vx := ⟨_, rfl⟩
  rw [hVe3] at hV3
  have ⟨_, v0, v1, v2, v3, vf⟩ := hV3
  have vf0 := vf 0
  have vf1 := vf 1
  have vf2 := vf 2
  have vf3 := vf 3
  obtain ⟨w3, hx3⟩ : ∃ w3, w3 = (((w2.setCell ⟨Vx, 0, none⟩ (U y0)).setCell ⟨Vx, 1, none⟩ (.string y1)).setCell ⟨Vx, 2, none⟩ (.slice a2 m2 p2)).setCell ⟨Vx, 3, none⟩ (.slice a3 m3 p3) := ⟨_, rfl⟩
  have hV3 : TB w3 Vx (U y0) (.string y1) (.slice a2 m2 p2) (.slice a3 m3 p3) := by rw [hx3]; exact (((hV3.set0 _).set1 _).set2 _).set3 _
  have hVl3 : w1.heap.size ≤ Vx := Nat.le_of_eq hVe3
  have hbb3 : Below w1.heap.size w1 w3 := by
    rw [hx3]
    exact (((hb3.setCell (p := ⟨Vx, 0, none⟩) hVl3 _).setCell (p := ⟨Vx, 1, none⟩) hVl3 _).setCell (p := ⟨Vx, 2, none⟩) hVl3 _).setCell (p := ⟨Vx, 3, none⟩) hVl3 _
  have hx3' := hx3.symm
  clear hx3 hb3 hz3 vf
  have hb13 := via hb1 hbb3
  have hrx : RdS 5 w3 [(U y0), (.string y1), (.slice a2 m2 p2), (.slice a3 m3 p3)] V := (hkw.below hbb3).now
  have hE3 := hE.below hbb3
  clear hdec hkw hE
  go_wp2_with fail
  clear v0 v1 v2 v3 vf0 vf1 vf2 vf3
  ((refine (hrd.out w3 hb13).mono ?_); rintro r4 w4 ⟨j0, j1, j2, j3, rfl, hb4, hkz⟩)
  obtain ⟨z0, z1, b2, n2, q2, b3, n3, q3, hcs⟩ := form_S 5 _ _ _ hkz.now
  simp only [List.cons.injEq] at hcs
  obtain ⟨rfl, rfl, rfl, rfl, _⟩ := hcs
  obtain ⟨w5, hw5, hbx5, hlD, hbox5⟩ := boxed w4 #[.int .i64 tt, U z0, .string z1, .slice b2 n2 q2, .slice b3 n3 q3, .int .i64 e, .int .i64 pd, .bool ps, .int .i64 (n : Int)] 66
  have hb35 := via hb4 hbx5
  have hb5 := via hb13 hb35
  obtain ⟨D, hDe⟩ : ∃ D, w4.heap.size = D := ⟨_, rfl⟩
  rw [hDe] at hlD
  have Hcell := hid fun W (hW : Below w5.heap.size w5 W) (j : Nat) => show W.cell? ⟨D, j, none⟩ = (#[.int .i64 tt, U z0, .string z1, .slice b2 n2 q2, .slice b3 n3 q3, .int .i64 e, .int .i64 pd, .bool ps, .int .i64 (n : Int)] : Array Value)[j]? from
    (hW.cell (p := ⟨D, j, none⟩) hlD).trans (hDe ▸ hbox5 j)
  have HD := hid fun W (hW : Below w5.heap.size w5 W) => show W.cell? ⟨D, 0, none⟩ = some (.int .i64 tt) ∧ W.cell? ⟨D, 5, none⟩ = some (.int .i64 e) ∧ W.cell? ⟨D, 6, none⟩ = some (.int .i64 pd) ∧ W.cell? ⟨D, 7, none⟩ = some (.bool ps) from
    ⟨Hcell.out W hW 0, Hcell.out W hW 5, Hcell.out W hW 6, Hcell.out W hW 7⟩
  have HDV := hid fun W (hW : Below w5.heap.size w5 W) => show W.cell? ⟨D, 1, none⟩ = some (U z0) ∧ W.cell? ⟨D, 2, none⟩ = some (.string z1) ∧ W.cell? ⟨D, 3, none⟩ = some (.slice b2 n2 q2) ∧ W.cell? ⟨D, 4, none⟩ = some (.slice b3 n3 q3) from
    ⟨Hcell.out W hW 1, Hcell.out W hW 2, Hcell.out W hW 3, Hcell.out W hW 4⟩
  have hrz : RdS 5 w5 [(U z0), (.string z1), (.slice b2 n2 q2), (.slice b3 n3 q3)] V := (hkz.below hbx5).now
  have hrx5 := hrx.below hb35 (Nat.le_refl _)
  have Hrz := hid fun W (hW : Below w5.heap.size w5 W) => hrz.below hW (Nat.le_refl _)
  have HVx := hid fun W (hW : Below w5.heap.size w5 W) => hV3.below (hb35.trans (hW.mono hb35.size))
  have HE := hid fun W (hW : Below w5.heap.size w5 W) => hE3.below (hb35.trans (hW.mono hb35.size))
  have heq : eqB V V = true := eqB_yes rfl
  have hsame := hid (rsame_S 5 V V _ _ w5 hrx5 hrz)
  rw [heq] at hsame
  have ⟨_, c0, c1, c2, c3, _⟩ := HVx.out w5 (Below.refl _ _)
  have ⟨d1, d2, d3, d4⟩ := HDV.out w5 (Below.refl _ _)
  clear hrd hkz hrx hE3 hrx5 hrz hbox5 heq
  go_wp2_with fail
  ((refine hsame.out.mono ?_); rintro r6 w6 ⟨rfl, hb6⟩)
  clear c0 c1 c2 c3 d1 d2 d3 d4 hw5 hsame
  go_wp2_with fail
  ((refine (hpath.out w6 (via hb5 hb6)).mono ?_); rintro r7 w7 ⟨f, rfl, hb7, hf0, hfE⟩)
  have hb57 := via hb6 hb7
  clear hpath
  go_wp2_with fail
  ((refine (Hword.out u w7 (HE.out w7 hb57)).mono ?_); rintro r8 w8 ⟨rfl, hbw⟩)
  have hb58 := via hb57 hbw
  have hb8 := via hb5 hb58
  clear Hword Hcell
  by_cases h0 : e = 0
  · obtain rfl : ps = false := hpn h0
    subst h0
    obtain ⟨g, hg⟩ : ∃ g, getC s 5 tt V l = g := ⟨_, rfl⟩
    obtain rfl := hf0 rfl
    have hnn := Hnn.out
    rw [if_pos rfl, hg] at hnn
    subst hnn
    rw [hg]
    clear hf0 hfE hpn
    go_wp2_with fail
    have Htop := hid fun W (hW : Below w8.heap.size w8 W) => top_errW (hla.out W (via hb8 hW)) (HE.out W (via hb58 hW))
    have ⟨h0', h5', h6', h7'⟩ := HD.out w8 hb58
    refine wp_region_held_drew (S := (fun W => W.cell? ⟨D, 0, none⟩ = some (.int .i64 tt) ∧ W.cell? ⟨D, 5, none⟩ = some (.int .i64 0) ∧ W.cell? ⟨D, 6, none⟩ = some (.int .i64 pd) ∧ W.cell? ⟨D, 7, none⟩ = some (.bool false))) (by kernel_rfl) ?_ (fun hHeld => ?_)
    · exact ⟨h0', h5', h6', h7'⟩
    refine wpAnyH_take (i := 0) (oi := { dst := some 43, op := Op.move (Operand.tmp 7), type := 3, pos := "law.go:104", after := #[], guard := none }) (v := ?vax0) rfl (by kernel_rfl) (by kernel_rfl) (by kernel_rfl) (fun _ _ _ h => h) (Or.inl ⟨by rfl, ?hyax0⟩) (by assumption) ?restax0
    case hyax0 => first | (intro w hSw; (try dsimp only at hSw); go_simp; done) | (intro w hSw; (try dsimp only at hSw); go_simp; with_reducible rfl)
    try simp only [Act.put, List.setIfInBounds_toArray, List.set_cons_zero, List.set_cons_succ]
    refine wpAnyH_take (i := 1) (oi := { dst := some 44, op := Op.fieldAddr 66 (Operand.tmp 10) 0, type := 0, pos := "law.go:104", after := #[], guard := none }) (v := ?vax1) rfl (by kernel_rfl) (by kernel_rfl) (by kernel_rfl) (fun _ _ _ h => h) (Or.inl ⟨by rfl, ?hyax1⟩) (by assumption) ?restax1
    case hyax1 => first | (intro w hSw; (try dsimp only at hSw); go_simp; done) | (intro w hSw; (try dsimp only at hSw); go_simp; with_reducible rfl)
    try simp only [Act.put, List.setIfInBounds_toArray, List.set_cons_zero, List.set_cons_succ]
    refine wpAnyH_take (i := 2) (oi := { dst := some 45, op := Op.load 3 (Operand.tmp 44), type := 3, pos := "law.go:104", after := #[{ on := 1, ground := Ground.data }], guard := none }) (v := ?vax2) rfl (by kernel_rfl) (by kernel_rfl) (by kernel_rfl) (fun _ _ _ h => h) (Or.inl ⟨by rfl, ?hyax2⟩) (by assumption) ?restax2
    case hyax2 => first | (intro w hSw; (try dsimp only at hSw); go_simp; done) | (intro w hSw; (try dsimp only at hSw); go_simp; with_reducible rfl)
    try simp only [Act.put, List.setIfInBounds_toArray, List.set_cons_zero, List.set_cons_succ]
    refine wpAnyH_take (i := 3) (oi := { dst := some 46, op := Op.binOp BinOp.neq 3 (Operand.tmp 43) (Operand.tmp 45) 3, type := 4, pos := "law.go:104", after := #[{ on := 0, ground := Ground.data }, { on := 2, ground := Ground.data }], guard := none }) (v := ?vax3) rfl (by kernel_rfl) (by kernel_rfl) (by kernel_rfl) (fun _ _ _ h => h) (Or.inl ⟨by rfl, ?hyax3⟩) (by assumption) ?restax3
    case hyax3 => first | (intro w hSw; (try dsimp only at hSw); go_simp; done) | (intro w hSw; (try dsimp only at hSw); go_simp; with_reducible rfl)
    try simp only [Act.put, List.setIfInBounds_toArray, List.set_cons_zero, List.set_cons_succ]
    refine wpAnyH_take (i := 4) (oi := { dst := some 47, op := Op.move (Operand.tmp 46), type := 4, pos := "law.go:104", after := #[{ on := 3, ground := Ground.data }], guard := none }) (v := ?vax4) rfl (by kernel_rfl) (by kernel_rfl) (by kernel_rfl) (fun _ _ _ h => h) (Or.inl ⟨by rfl, ?hyax4⟩) (by assumption) ?restax4
    case hyax4 => first | (intro w hSw; (try dsimp only at hSw); go_simp; done) | (intro w hSw; (try dsimp only at hSw); go_simp; with_reducible rfl)
    try simp only [Act.put, List.setIfInBounds_toArray, List.set_cons_zero, List.set_cons_succ]
    refine wpAnyH_take (i := 5) (oi := { dst := some 48, op := Op.move (Operand.tmp 11), type := 4, pos := "law.go:104", after := #[{ on := 4, ground := Ground.guard }], guard := some (4, false) }) (v := ?vax5) rfl (by kernel_rfl) (by kernel_rfl) (by kernel_rfl) (fun _ _ _ h => h) (Or.inl ⟨by rfl, ?hyax5⟩) (by assumption) ?restax5
    case hyax5 => first | (intro w hSw; (try dsimp only at hSw); go_simp; done) | (intro w hSw; (try dsimp only at hSw); go_simp; with_reducible rfl)
    try simp only [Act.put, List.setIfInBounds_toArray, List.set_cons_zero, List.set_cons_succ]
    refine wpAnyH_take (i := 6) (oi := { dst := some 49, op := Op.unOp UnOp.not 4 (Operand.tmp 48), type := 4, pos := "law.go:104", after := #[{ on := 5, ground := Ground.data }, { on := 4, ground := Ground.guard }], guard := some (4, false) }) (v := ?vax6) rfl (by kernel_rfl) (by kernel_rfl) (by kernel_rfl) (fun _ _ _ h => h) (Or.inl ⟨by rfl, ?hyax6⟩) (by assumption) ?restax6
    case hyax6 => first | (intro w hSw; (try dsimp only at hSw); go_simp; done) | (intro w hSw; (try dsimp only at hSw); go_simp; with_reducible rfl)
    try simp only [Act.put, List.setIfInBounds_toArray, List.set_cons_zero, List.set_cons_succ]
    refine wpAnyH_take (i := 7) (oi := { dst := some 50, op := Op.pick (Operand.tmp 47) (Operand.const (Value.bool true)) (Operand.tmp 49), type := 4, pos := "law.go:104", after := #[{ on := 4, ground := Ground.data }, { on := 6, ground := Ground.data }], guard := none }) (v := ?vax7) rfl (by kernel_rfl) (by kernel_rfl) (by kernel_rfl) (fun _ _ _ h => h) (Or.inl ⟨by rfl, ?hyax7⟩) (by assumption) ?restax7
    case hyax7 => first | (intro w hSw; (try dsimp only at hSw); go_simp; done) | (intro w hSw; (try dsimp only at hSw); go_simp; with_reducible rfl)
    try simp only [Act.put, List.setIfInBounds_toArray, List.set_cons_zero, List.set_cons_succ]
    refine wpAnyH_take (i := 8) (oi := { dst := some 51, op := Op.move (Operand.tmp 50), type := 4, pos := "law.go:104", after := #[{ on := 7, ground := Ground.data }, { on := 4, ground := Ground.chain }], guard := none }) (v := ?vax8) rfl (by kernel_rfl) (by kernel_rfl) (by kernel_rfl) (fun _ _ _ h => h) (Or.inl ⟨by rfl, ?hyax8⟩) (by assumption) ?restax8
    case hyax8 => first | (intro w hSw; (try dsimp only at hSw); go_simp; done) | (intro w hSw; (try dsimp only at hSw); go_simp; with_reducible rfl)
    try simp only [Act.put, List.setIfInBounds_toArray, List.set_cons_zero, List.set_cons_succ]
    refine wpAnyH_take (i := 9) (oi := { dst := some 52, op := Op.move (Operand.tmp 9), type := 52, pos := "law.go:104", after := #[{ on := 8, ground := Ground.guard }], guard := some (8, false) }) (v := ?vax9) rfl (by kernel_rfl) (by kernel_rfl) (by kernel_rfl) (fun _ _ _ h => h) (Or.inl ⟨by rfl, ?hyax9⟩) (by assumption) ?restax9
    case hyax9 => first | (intro w hSw; (try dsimp only at hSw); go_simp; done) | (intro w hSw; (try dsimp only at hSw); go_simp; with_reducible rfl)
    try simp only [Act.put, List.setIfInBounds_toArray, List.set_cons_zero, List.set_cons_succ]
    refine wpAnyH_take (i := 11) (oi := { dst := some 54, op := Op.fieldAddr 66 (Operand.tmp 10) 2, type := 0, pos := "law.go:104", after := #[{ on := 8, ground := Ground.guard }], guard := some (8, false) }) (v := ?vax11) rfl (by kernel_rfl) (by kernel_rfl) (by kernel_rfl) (fun _ _ _ h => h) (Or.inl ⟨by rfl, ?hyax11⟩) (by assumption) ?restax11
    case hyax11 => first | (intro w hSw; (try dsimp only at hSw); go_simp; done) | (intro w hSw; (try dsimp only at hSw); go_simp; with_reducible rfl)
    try simp only [Act.put, List.setIfInBounds_toArray, List.set_cons_zero, List.set_cons_succ]
    refine wpAnyH_take (i := 12) (oi := { dst := some 55, op := Op.fieldAddr 64 (Operand.tmp 54) 0, type := 0, pos := "law.go:104", after := #[{ on := 11, ground := Ground.data }, { on := 8, ground := Ground.guard }], guard := some (8, false) }) (v := ?vax12) rfl (by kernel_rfl) (by kernel_rfl) (by kernel_rfl) (fun _ _ _ h => h) (Or.inl ⟨by rfl, ?hyax12⟩) (by assumption) ?restax12
    case hyax12 => first | (intro w hSw; (try dsimp only at hSw); go_simp; done) | (intro w hSw; (try dsimp only at hSw); go_simp; with_reducible rfl)
    try simp only [Act.put, List.setIfInBounds_toArray, List.set_cons_zero, List.set_cons_succ]
    refine wpAnyH_take (i := 13) (oi := { dst := some 56, op := Op.load 55 (Operand.tmp 55), type := 55, pos := "law.go:104", after := #[{ on := 12, ground := Ground.data }, { on := 8, ground := Ground.guard }], guard := some (8, false) }) (v := ?vax13) rfl (by kernel_rfl) (by kernel_rfl) (by kernel_rfl) (fun _ _ _ h => h) (Or.inl ⟨by rfl, ?hyax13⟩) (by assumption) ?restax13
    case hyax13 => first | (intro w hSw; (try dsimp only at hSw); go_simp; done) | (intro w hSw; (try dsimp only at hSw); go_simp; with_reducible rfl)
    try simp only [Act.put, List.setIfInBounds_toArray, List.set_cons_zero, List.set_cons_succ]
    refine wpAnyH_ready (rs := [10]) (by kernel_rfl) (by simp) ?_
    refine AllReadyH.cons (o := { dst := some 53, op := Op.call { callee := Callee.value (Operand.func 13), args := #[Operand.tmp 52], argTypes := #[52] }, type := 55, pos := "law.go:104", after := #[{ on := 9, ground := Ground.data }, { on := 8, ground := Ground.chain }, { on := 8, ground := Ground.guard }], guard := some (8, false) }) rfl (fun K hK => ?_) AllReadyH.nil
    go_simp
    ((refine (Htop.out _ (below_drewN _ w8 1)).mono ?_); rintro rt w9 ⟨rfl, hb9'⟩)
    have hb9 := (below_drewN w8.heap.size w8 1).trans hb9'
    refine hK.out _ _ ?_ (fun hHeld => ?_)
    · exact HD.out w9 (via hb58 hb9)
    clear hK K
    try simp only [Act.put, List.setIfInBounds_toArray, List.set_cons_zero, List.set_cons_succ]
    refine wpAnyH_take (i := 14) (oi := { dst := some 57, op := Op.binOp BinOp.neq 55 (Operand.tmp 53) (Operand.tmp 56) 55, type := 4, pos := "law.go:104", after := #[{ on := 10, ground := Ground.data }, { on := 13, ground := Ground.data }, { on := 8, ground := Ground.guard }], guard := some (8, false) }) (v := ?vax14) rfl (by kernel_rfl) (by kernel_rfl) (by kernel_rfl) (fun _ _ _ h => h) (Or.inl ⟨by rfl, ?hyax14⟩) (by assumption) ?restax14
    case hyax14 => first | (intro w hSw; (try dsimp only at hSw); go_simp; done) | (intro w hSw; (try dsimp only at hSw); go_simp; with_reducible rfl)
    try simp only [Act.put, List.setIfInBounds_toArray, List.set_cons_zero, List.set_cons_succ]
    refine wpAnyH_take (i := 15) (oi := { dst := some 58, op := Op.pick (Operand.tmp 51) (Operand.const (Value.bool true)) (Operand.tmp 57), type := 4, pos := "law.go:104", after := #[{ on := 8, ground := Ground.data }, { on := 14, ground := Ground.data }], guard := none }) (v := ?vax15) rfl (by kernel_rfl) (by kernel_rfl) (by kernel_rfl) (fun _ _ _ h => h) (Or.inl ⟨by rfl, ?hyax15⟩) (by assumption) ?restax15
    case hyax15 => first | (intro w hSw; (try dsimp only at hSw); go_simp; done) | (intro w hSw; (try dsimp only at hSw); go_simp; with_reducible rfl)
    try simp only [Act.put, List.setIfInBounds_toArray, List.set_cons_zero, List.set_cons_succ]
    refine wpAnyH_take (i := 16) (oi := { dst := some 59, op := Op.move (Operand.tmp 58), type := 4, pos := "law.go:104", after := #[{ on := 15, ground := Ground.data }, { on := 10, ground := Ground.chain }], guard := none }) (v := ?vax16) rfl (by kernel_rfl) (by kernel_rfl) (by kernel_rfl) (fun _ _ _ h => h) (Or.inl ⟨by rfl, ?hyax16⟩) (by assumption) ?restax16
    case hyax16 => first | (intro w hSw; (try dsimp only at hSw); go_simp; done) | (intro w hSw; (try dsimp only at hSw); go_simp; with_reducible rfl)
    try simp only [Act.put, List.setIfInBounds_toArray, List.set_cons_zero, List.set_cons_succ]
    refine wpAnyH_take (i := 17) (oi := { dst := some 60, op := Op.move (Operand.tmp 15), type := 4, pos := "law.go:104", after := #[{ on := 16, ground := Ground.guard }], guard := some (16, false) }) (v := ?vax17) rfl (by kernel_rfl) (by kernel_rfl) (by kernel_rfl) (fun _ _ _ h => h) (Or.inl ⟨by rfl, ?hyax17⟩) (by assumption) ?restax17
    case hyax17 => first | (intro w hSw; (try dsimp only at hSw); go_simp; done) | (intro w hSw; (try dsimp only at hSw); go_simp; with_reducible rfl)
    try simp only [Act.put, List.setIfInBounds_toArray, List.set_cons_zero, List.set_cons_succ]
    refine wpAnyH_take (i := 18) (oi := { dst := some 61, op := Op.fieldAddr 66 (Operand.tmp 10) 2, type := 0, pos := "law.go:104", after := #[{ on := 16, ground := Ground.guard }], guard := some (16, false) }) (v := ?vax18) rfl (by kernel_rfl) (by kernel_rfl) (by kernel_rfl) (fun _ _ _ h => h) (Or.inl ⟨by rfl, ?hyax18⟩) (by assumption) ?restax18
    case hyax18 => first | (intro w hSw; (try dsimp only at hSw); go_simp; done) | (intro w hSw; (try dsimp only at hSw); go_simp; with_reducible rfl)
    try simp only [Act.put, List.setIfInBounds_toArray, List.set_cons_zero, List.set_cons_succ]
    refine wpAnyH_take (i := 19) (oi := { dst := some 62, op := Op.fieldAddr 64 (Operand.tmp 61) 2, type := 0, pos := "law.go:104", after := #[{ on := 18, ground := Ground.data }, { on := 16, ground := Ground.guard }], guard := some (16, false) }) (v := ?vax19) rfl (by kernel_rfl) (by kernel_rfl) (by kernel_rfl) (fun _ _ _ h => h) (Or.inl ⟨by rfl, ?hyax19⟩) (by assumption) ?restax19
    case hyax19 => first | (intro w hSw; (try dsimp only at hSw); go_simp; done) | (intro w hSw; (try dsimp only at hSw); go_simp; with_reducible rfl)
    try simp only [Act.put, List.setIfInBounds_toArray, List.set_cons_zero, List.set_cons_succ]
    refine wpAnyH_take (i := 20) (oi := { dst := some 63, op := Op.load 4 (Operand.tmp 62), type := 4, pos := "law.go:104", after := #[{ on := 19, ground := Ground.data }, { on := 16, ground := Ground.guard }], guard := some (16, false) }) (v := ?vax20) rfl (by kernel_rfl) (by kernel_rfl) (by kernel_rfl) (fun _ _ _ h => h) (Or.inl ⟨by rfl, ?hyax20⟩) (by assumption) ?restax20
    case hyax20 => first | (intro w hSw; (try dsimp only at hSw); go_simp; done) | (intro w hSw; (try dsimp only at hSw); go_simp; with_reducible rfl)
    try simp only [Act.put, List.setIfInBounds_toArray, List.set_cons_zero, List.set_cons_succ]
    refine wpAnyH_take (i := 21) (oi := { dst := some 64, op := Op.binOp BinOp.neq 4 (Operand.tmp 60) (Operand.tmp 63) 4, type := 4, pos := "law.go:104", after := #[{ on := 17, ground := Ground.data }, { on := 20, ground := Ground.data }, { on := 16, ground := Ground.guard }], guard := some (16, false) }) (v := ?vax21) rfl (by kernel_rfl) (by kernel_rfl) (by kernel_rfl) (fun _ _ _ h => h) (Or.inl ⟨by rfl, ?hyax21⟩) (by assumption) ?restax21
    case hyax21 => first | (intro w hSw; (try dsimp only at hSw); go_simp; done) | (intro w hSw; (try dsimp only at hSw); go_simp; with_reducible rfl)
    try simp only [Act.put, List.setIfInBounds_toArray, List.set_cons_zero, List.set_cons_succ]
    refine wpAnyH_take (i := 22) (oi := { dst := some 65, op := Op.pick (Operand.tmp 59) (Operand.const (Value.bool true)) (Operand.tmp 64), type := 4, pos := "law.go:104", after := #[{ on := 16, ground := Ground.data }, { on := 21, ground := Ground.data }], guard := none }) (v := ?vax22) rfl (by kernel_rfl) (by kernel_rfl) (by kernel_rfl) (fun _ _ _ h => h) (Or.inl ⟨by rfl, ?hyax22⟩) (by assumption) ?restax22
    case hyax22 => first | (intro w hSw; (try dsimp only at hSw); go_simp; done) | (intro w hSw; (try dsimp only at hSw); go_simp; with_reducible rfl)
    try simp only [Act.put, List.setIfInBounds_toArray, List.set_cons_zero, List.set_cons_succ]
    refine wpAnyH_take (i := 23) (oi := { dst := some 66, op := Op.move (Operand.tmp 65), type := 4, pos := "law.go:104", after := #[{ on := 22, ground := Ground.data }, { on := 16, ground := Ground.chain }], guard := none }) (v := ?vax23) rfl (by kernel_rfl) (by kernel_rfl) (by kernel_rfl) (fun _ _ _ h => h) (Or.inl ⟨by rfl, ?hyax23⟩) (by assumption) ?restax23
    case hyax23 => first | (intro w hSw; (try dsimp only at hSw); go_simp; done) | (intro w hSw; (try dsimp only at hSw); go_simp; with_reducible rfl)
    try simp only [Act.put, List.setIfInBounds_toArray, List.set_cons_zero, List.set_cons_succ]
    refine wpAnyH_take (i := 24) (oi := { dst := some 67, op := Op.move (Operand.tmp 15), type := 4, pos := "law.go:104", after := #[{ on := 23, ground := Ground.guard }], guard := some (23, false) }) (v := ?vax24) rfl (by kernel_rfl) (by kernel_rfl) (by kernel_rfl) (fun _ _ _ h => h) (Or.inl ⟨by rfl, ?hyax24⟩) (by assumption) ?restax24
    case hyax24 => first | (intro w hSw; (try dsimp only at hSw); go_simp; done) | (intro w hSw; (try dsimp only at hSw); go_simp; with_reducible rfl)
    try simp only [Act.put, List.setIfInBounds_toArray, List.set_cons_zero, List.set_cons_succ]
    refine wpAnyH_take (i := 25) (oi := { dst := some 68, op := Op.move (Operand.tmp 67), type := 4, pos := "law.go:104", after := #[{ on := 24, ground := Ground.data }, { on := 23, ground := Ground.chain }, { on := 23, ground := Ground.guard }], guard := some (23, false) }) (v := ?vax25) rfl (by kernel_rfl) (by kernel_rfl) (by kernel_rfl) (fun _ _ _ h => h) (Or.inl ⟨by rfl, ?hyax25⟩) (by assumption) ?restax25
    case hyax25 => first | (intro w hSw; (try dsimp only at hSw); go_simp; done) | (intro w hSw; (try dsimp only at hSw); go_simp; with_reducible rfl)
    try simp only [Act.put, List.setIfInBounds_toArray, List.set_cons_zero, List.set_cons_succ]
    refine wpAnyH_take (i := 26) (oi := { dst := some 69, op := Op.move (Operand.tmp 14), type := 3, pos := "law.go:104", after := #[{ on := 25, ground := Ground.guard }], guard := some (25, true) }) (v := undef) rfl (by kernel_rfl) (by kernel_rfl) (by kernel_rfl) (fun _ _ _ h => h) (Or.inr ⟨by rfl, rfl⟩) (by assumption) ?restax26
    try simp only [Act.put, List.setIfInBounds_toArray, List.set_cons_zero, List.set_cons_succ]
    refine wpAnyH_take (i := 27) (oi := { dst := some 70, op := Op.fieldAddr 66 (Operand.tmp 10) 2, type := 0, pos := "law.go:104", after := #[{ on := 25, ground := Ground.guard }], guard := some (25, true) }) (v := undef) rfl (by kernel_rfl) (by kernel_rfl) (by kernel_rfl) (fun _ _ _ h => h) (Or.inr ⟨by rfl, rfl⟩) (by assumption) ?restax27
    try simp only [Act.put, List.setIfInBounds_toArray, List.set_cons_zero, List.set_cons_succ]
    refine wpAnyH_take (i := 28) (oi := { dst := some 71, op := Op.fieldAddr 64 (Operand.tmp 70) 1, type := 0, pos := "law.go:104", after := #[{ on := 27, ground := Ground.data }, { on := 25, ground := Ground.guard }], guard := some (25, true) }) (v := undef) rfl (by kernel_rfl) (by kernel_rfl) (by kernel_rfl) (fun _ _ _ h => h) (Or.inr ⟨by rfl, rfl⟩) (by assumption) ?restax28
    try simp only [Act.put, List.setIfInBounds_toArray, List.set_cons_zero, List.set_cons_succ]
    refine wpAnyH_take (i := 29) (oi := { dst := some 72, op := Op.load 3 (Operand.tmp 71), type := 3, pos := "law.go:104", after := #[{ on := 28, ground := Ground.data }, { on := 25, ground := Ground.guard }], guard := some (25, true) }) (v := undef) rfl (by kernel_rfl) (by kernel_rfl) (by kernel_rfl) (fun _ _ _ h => h) (Or.inr ⟨by rfl, rfl⟩) (by assumption) ?restax29
    try simp only [Act.put, List.setIfInBounds_toArray, List.set_cons_zero, List.set_cons_succ]
    refine wpAnyH_take (i := 30) (oi := { dst := some 73, op := Op.binOp BinOp.neq 3 (Operand.tmp 69) (Operand.tmp 72) 3, type := 4, pos := "law.go:104", after := #[{ on := 26, ground := Ground.data }, { on := 29, ground := Ground.data }, { on := 25, ground := Ground.guard }], guard := some (25, true) }) (v := undef) rfl (by kernel_rfl) (by kernel_rfl) (by kernel_rfl) (fun _ _ _ h => h) (Or.inr ⟨by rfl, rfl⟩) (by assumption) ?restax30
    try simp only [Act.put, List.setIfInBounds_toArray, List.set_cons_zero, List.set_cons_succ]
    refine wpAnyH_take (i := 31) (oi := { dst := some 74, op := Op.pick (Operand.tmp 68) (Operand.tmp 73) (Operand.const (Value.bool false)), type := 4, pos := "law.go:104", after := #[{ on := 25, ground := Ground.data }, { on := 30, ground := Ground.data }, { on := 23, ground := Ground.guard }], guard := some (23, false) }) (v := ?vax31) rfl (by kernel_rfl) (by kernel_rfl) (by kernel_rfl) (fun _ _ _ h => h) (Or.inl ⟨by rfl, ?hyax31⟩) (by assumption) ?restax31
    case hyax31 => first | (intro w hSw; (try dsimp only at hSw); go_simp; done) | (intro w hSw; (try dsimp only at hSw); go_simp; with_reducible rfl)
    try simp only [Act.put, List.setIfInBounds_toArray, List.set_cons_zero, List.set_cons_succ]
    refine wpAnyH_take (i := 32) (oi := { dst := some 75, op := Op.pick (Operand.tmp 66) (Operand.const (Value.bool true)) (Operand.tmp 74), type := 4, pos := "law.go:104", after := #[{ on := 23, ground := Ground.data }, { on := 31, ground := Ground.data }], guard := none }) (v := ?vax32) rfl (by kernel_rfl) (by kernel_rfl) (by kernel_rfl) (fun _ _ _ h => h) (Or.inl ⟨by rfl, ?hyax32⟩) (by assumption) ?restax32
    case hyax32 => first | (intro w hSw; (try dsimp only at hSw); go_simp; done) | (intro w hSw; (try dsimp only at hSw); go_simp; with_reducible rfl)
    try simp only [Act.put, List.setIfInBounds_toArray, List.set_cons_zero, List.set_cons_succ]
    refine wpAnyH_done (by kernel_rfl) ?_ _
    have hb59 := via hb58 hb9
    clear h0' h5' h6' h7'
    have ⟨h0', h5', h6', h7'⟩ := HD.out w9 hb59
    have ⟨_, c0, c1, c2, c3, _⟩ := HVx.out w9 hb59
    have ⟨d1, d2, d3, d4⟩ := HDV.out w9 hb59
    have hget := hid (Hget.out [(U z0), (.string z1), (.slice b2 n2 q2), (.slice b3 n3 q3)] w9 (via hb5 hb59) (Hrz.out w9 hb59))
    unfold RGetR at hget
    rw [hg] at hget
    go_wp2_with fail
    ((refine hget.out.mono ?_); rintro r10 w10 ⟨rfl, hb10⟩)
    obtain ⟨w11, hw11, hb11, hlt11, hbox11⟩ := boxed w10 #[U g.1, .int .i64 g.2] 72
    have hb911 := via hb10 hb11
    have i0 := hbox11 0
    have i1 := hbox11 1
    simp only [List.getElem?_toArray, List.getElem?_cons_succ, List.getElem?_cons_zero] at i0 i1
    obtain ⟨GB, hGB⟩ : ∃ GB, w10.heap.size = GB := ⟨_, rfl⟩
    rw [hGB] at i0 i1 hlt11
    have hgg : (g.1 == g.1) = true := by simp
    have hcc : (g.2 == g.2) = true := by simp
    clear c0 c1 c2 c3 d1 d2 d3 d4 h0' h5' h6' h7' hbox11 hget
    go_wp2_with fail
    refine wp_region_held_drew (S := (fun W => W.cell? ⟨GB, 0, none⟩ = some (U g.1) ∧ W.cell? ⟨GB, 1, none⟩ = some (.int .i64 g.2))) (by kernel_rfl) ?_ (fun hHeld => ?_)
    · exact ⟨i0, i1⟩
    refine wpAnyH_take (i := 0) (oi := { dst := some 96, op := Op.move (Operand.tmp 12), type := 26, pos := "law.go:111", after := #[], guard := none }) (v := ?vcx0) rfl (by kernel_rfl) (by kernel_rfl) (by kernel_rfl) (fun _ _ _ h => h) (Or.inl ⟨by rfl, ?hycx0⟩) (by assumption) ?restcx0
    case hycx0 => first | (intro w hSw; (try dsimp only at hSw); go_simp; done) | (intro w hSw; (try dsimp only at hSw); go_simp; with_reducible rfl)
    try simp only [Act.put, List.setIfInBounds_toArray, List.set_cons_zero, List.set_cons_succ]
    refine wpAnyH_take (i := 1) (oi := { dst := some 97, op := Op.fieldAddr 72 (Operand.tmp 16) 0, type := 0, pos := "law.go:111", after := #[], guard := none }) (v := ?vcx1) rfl (by kernel_rfl) (by kernel_rfl) (by kernel_rfl) (fun _ _ _ h => h) (Or.inl ⟨by rfl, ?hycx1⟩) (by assumption) ?restcx1
    case hycx1 => first | (intro w hSw; (try dsimp only at hSw); go_simp; done) | (intro w hSw; (try dsimp only at hSw); go_simp; with_reducible rfl)
    try simp only [Act.put, List.setIfInBounds_toArray, List.set_cons_zero, List.set_cons_succ]
    refine wpAnyH_take (i := 2) (oi := { dst := some 98, op := Op.load 26 (Operand.tmp 97), type := 26, pos := "law.go:111", after := #[{ on := 1, ground := Ground.data }], guard := none }) (v := ?vcx2) rfl (by kernel_rfl) (by kernel_rfl) (by kernel_rfl) (fun _ _ _ h => h) (Or.inl ⟨by rfl, ?hycx2⟩) (by assumption) ?restcx2
    case hycx2 => first | (intro w hSw; (try dsimp only at hSw); go_simp; done) | (intro w hSw; (try dsimp only at hSw); go_simp; with_reducible rfl)
    try simp only [Act.put, List.setIfInBounds_toArray, List.set_cons_zero, List.set_cons_succ]
    refine wpAnyH_take (i := 3) (oi := { dst := some 99, op := Op.binOp BinOp.eql 26 (Operand.tmp 96) (Operand.tmp 98) 26, type := 4, pos := "law.go:111", after := #[{ on := 0, ground := Ground.data }, { on := 2, ground := Ground.data }], guard := none }) (v := ?vcx3) rfl (by kernel_rfl) (by kernel_rfl) (by kernel_rfl) (fun _ _ _ h => h) (Or.inl ⟨by rfl, ?hycx3⟩) (by assumption) ?restcx3
    case hycx3 => first | (intro w hSw; (try dsimp only at hSw); go_simp; done) | (intro w hSw; (try dsimp only at hSw); go_simp; with_reducible rfl)
    try simp only [Act.put, List.setIfInBounds_toArray, List.set_cons_zero, List.set_cons_succ]
    refine wpAnyH_take (i := 4) (oi := { dst := some 100, op := Op.move (Operand.tmp 99), type := 4, pos := "law.go:111", after := #[{ on := 3, ground := Ground.data }], guard := none }) (v := ?vcx4) rfl (by kernel_rfl) (by kernel_rfl) (by kernel_rfl) (fun _ _ _ h => h) (Or.inl ⟨by rfl, ?hycx4⟩) (by assumption) ?restcx4
    case hycx4 => first | (intro w hSw; (try dsimp only at hSw); go_simp; done) | (intro w hSw; (try dsimp only at hSw); go_simp; with_reducible rfl)
    try simp only [Act.put, List.setIfInBounds_toArray, List.set_cons_zero, List.set_cons_succ]
    refine wpAnyH_take (i := 5) (oi := { dst := some 101, op := Op.move (Operand.tmp 13), type := 52, pos := "law.go:111", after := #[{ on := 4, ground := Ground.guard }], guard := some (4, true) }) (v := ?vcx5) rfl (by kernel_rfl) (by kernel_rfl) (by kernel_rfl) (fun _ _ _ h => h) (Or.inl ⟨by rfl, ?hycx5⟩) (by assumption) ?restcx5
    case hycx5 => first | (intro w hSw; (try dsimp only at hSw); go_simp; done) | (intro w hSw; (try dsimp only at hSw); go_simp; with_reducible rfl)
    try simp only [Act.put, List.setIfInBounds_toArray, List.set_cons_zero, List.set_cons_succ]
    refine wpAnyH_take (i := 7) (oi := { dst := some 103, op := Op.fieldAddr 72 (Operand.tmp 16) 1, type := 0, pos := "law.go:111", after := #[{ on := 4, ground := Ground.guard }], guard := some (4, true) }) (v := ?vcx7) rfl (by kernel_rfl) (by kernel_rfl) (by kernel_rfl) (fun _ _ _ h => h) (Or.inl ⟨by rfl, ?hycx7⟩) (by assumption) ?restcx7
    case hycx7 => first | (intro w hSw; (try dsimp only at hSw); go_simp; done) | (intro w hSw; (try dsimp only at hSw); go_simp; with_reducible rfl)
    try simp only [Act.put, List.setIfInBounds_toArray, List.set_cons_zero, List.set_cons_succ]
    refine wpAnyH_take (i := 8) (oi := { dst := some 104, op := Op.load 55 (Operand.tmp 103), type := 55, pos := "law.go:111", after := #[{ on := 7, ground := Ground.data }, { on := 4, ground := Ground.guard }], guard := some (4, true) }) (v := ?vcx8) rfl (by kernel_rfl) (by kernel_rfl) (by kernel_rfl) (fun _ _ _ h => h) (Or.inl ⟨by rfl, ?hycx8⟩) (by assumption) ?restcx8
    case hycx8 => first | (intro w hSw; (try dsimp only at hSw); go_simp; done) | (intro w hSw; (try dsimp only at hSw); go_simp; with_reducible rfl)
    try simp only [Act.put, List.setIfInBounds_toArray, List.set_cons_zero, List.set_cons_succ]
    refine wpAnyH_ready (rs := [6]) (by kernel_rfl) (by simp) ?_
    refine AllReadyH.cons (o := { dst := some 102, op := Op.call { callee := Callee.value (Operand.func 13), args := #[Operand.tmp 101], argTypes := #[52] }, type := 55, pos := "law.go:111", after := #[{ on := 5, ground := Ground.data }, { on := 4, ground := Ground.chain }, { on := 4, ground := Ground.guard }], guard := some (4, true) }) rfl (fun K hK => ?_) AllReadyH.nil
    go_simp
    ((refine (top_errW (p := none) (hla.out _ ((via hb5 (via hb59 hb911)).trans (below_drewN _ w11 1))) (rfl : ErrV g.2 = ErrV g.2)).mono ?_); rintro rt w12 ⟨rfl, hb12'⟩)
    have hb12 := (below_drewN w11.heap.size w11 1).trans hb12'
    refine hK.out _ _ ?_ (fun hHeld => ?_)
    · exact ⟨(hb12.cell (p := ⟨GB, 0, none⟩) hlt11).trans i0, (hb12.cell (p := ⟨GB, 1, none⟩) hlt11).trans i1⟩
    clear hK K
    try simp only [Act.put, List.setIfInBounds_toArray, List.set_cons_zero, List.set_cons_succ]
    refine wpAnyH_take (i := 9) (oi := { dst := some 105, op := Op.binOp BinOp.eql 55 (Operand.tmp 102) (Operand.tmp 104) 55, type := 4, pos := "law.go:111", after := #[{ on := 6, ground := Ground.data }, { on := 8, ground := Ground.data }, { on := 4, ground := Ground.guard }], guard := some (4, true) }) (v := ?vcx9) rfl (by kernel_rfl) (by kernel_rfl) (by kernel_rfl) (fun _ _ _ h => h) (Or.inl ⟨by rfl, ?hycx9⟩) (by assumption) ?restcx9
    case hycx9 => first | (intro w hSw; (try dsimp only at hSw); go_simp; done) | (intro w hSw; (try dsimp only at hSw); go_simp; with_reducible rfl)
    try simp only [Act.put, List.setIfInBounds_toArray, List.set_cons_zero, List.set_cons_succ]
    refine wpAnyH_take (i := 10) (oi := { dst := some 106, op := Op.pick (Operand.tmp 100) (Operand.tmp 105) (Operand.const (Value.bool false)), type := 4, pos := "law.go:111", after := #[{ on := 4, ground := Ground.data }, { on := 9, ground := Ground.data }], guard := none }) (v := ?vcx10) rfl (by kernel_rfl) (by kernel_rfl) (by kernel_rfl) (fun _ _ _ h => h) (Or.inl ⟨by rfl, ?hycx10⟩) (by assumption) ?restcx10
    case hycx10 => first | (intro w hSw; (try dsimp only at hSw); go_simp; done) | (intro w hSw; (try dsimp only at hSw); go_simp; with_reducible rfl)
    try simp only [Act.put, List.setIfInBounds_toArray, List.set_cons_zero, List.set_cons_succ]
    refine wpAnyH_take (i := 11) (oi := { dst := some 6, op := Op.assign (Operand.tmp 106), type := 4, pos := "law.go:111", after := #[{ on := 10, ground := Ground.data }, { on := 6, ground := Ground.chain }, { on := 0, ground := Ground.phase }, { on := 1, ground := Ground.phase }, { on := 2, ground := Ground.phase }, { on := 3, ground := Ground.phase }, { on := 4, ground := Ground.phase }, { on := 5, ground := Ground.phase }, { on := 6, ground := Ground.phase }, { on := 7, ground := Ground.phase }, { on := 8, ground := Ground.phase }, { on := 9, ground := Ground.phase }, { on := 10, ground := Ground.phase }], guard := none }) (v := ?vcx11) rfl (by kernel_rfl) (by kernel_rfl) (by kernel_rfl) (fun _ _ _ h => h) (Or.inl ⟨by rfl, ?hycx11⟩) (by assumption) ?restcx11
    case hycx11 => first | (intro w hSw; (try dsimp only at hSw); go_simp; done) | (intro w hSw; (try dsimp only at hSw); go_simp; with_reducible rfl)
    try simp only [Act.put, List.setIfInBounds_toArray, List.set_cons_zero, List.set_cons_succ]
    refine wpAnyH_done (by kernel_rfl) ?_ _
    go_wp2_with fail
    go_returns
    exact ⟨rfl, via hb5 (via hb59 (via hb911 hb12))⟩
  · replace hfE := hfE h0
    have hne : (e != 0) = true := by simpa using h0
    have hnn := Hnn.out
    rw [if_neg h0] at hnn
    subst hnn
    clear hf0 hpn
    cases ps with
    | false =>
      go_wp2_with fail
      have Htop := hid fun W (hW : Below w8.heap.size w8 W) => top_errW (hla.out W (via hb8 hW)) (HE.out W (via hb58 hW))
      have ⟨h0', h5', h6', h7'⟩ := HD.out w8 hb58
      refine wp_region_held_drew (S := (fun W => W.cell? ⟨D, 0, none⟩ = some (.int .i64 tt) ∧ W.cell? ⟨D, 5, none⟩ = some (.int .i64 e) ∧ W.cell? ⟨D, 6, none⟩ = some (.int .i64 pd) ∧ W.cell? ⟨D, 7, none⟩ = some (.bool false))) (by kernel_rfl) ?_ (fun hHeld => ?_)
      · exact ⟨h0', h5', h6', h7'⟩
      refine wpAnyH_take (i := 0) (oi := { dst := some 43, op := Op.move (Operand.tmp 7), type := 3, pos := "law.go:104", after := #[], guard := none }) (v := ?vay0) rfl (by kernel_rfl) (by kernel_rfl) (by kernel_rfl) (fun _ _ _ h => h) (Or.inl ⟨by rfl, ?hyay0⟩) (by assumption) ?restay0
      case hyay0 => first | (intro w hSw; (try dsimp only at hSw); go_simp; done) | (intro w hSw; (try dsimp only at hSw); go_simp; with_reducible rfl)
      try simp only [Act.put, List.setIfInBounds_toArray, List.set_cons_zero, List.set_cons_succ]
      refine wpAnyH_take (i := 1) (oi := { dst := some 44, op := Op.fieldAddr 66 (Operand.tmp 10) 0, type := 0, pos := "law.go:104", after := #[], guard := none }) (v := ?vay1) rfl (by kernel_rfl) (by kernel_rfl) (by kernel_rfl) (fun _ _ _ h => h) (Or.inl ⟨by rfl, ?hyay1⟩) (by assumption) ?restay1
      case hyay1 => first | (intro w hSw; (try dsimp only at hSw); go_simp; done) | (intro w hSw; (try dsimp only at hSw); go_simp; with_reducible rfl)
      try simp only [Act.put, List.setIfInBounds_toArray, List.set_cons_zero, List.set_cons_succ]
      refine wpAnyH_take (i := 2) (oi := { dst := some 45, op := Op.load 3 (Operand.tmp 44), type := 3, pos := "law.go:104", after := #[{ on := 1, ground := Ground.data }], guard := none }) (v := ?vay2) rfl (by kernel_rfl) (by kernel_rfl) (by kernel_rfl) (fun _ _ _ h => h) (Or.inl ⟨by rfl, ?hyay2⟩) (by assumption) ?restay2
      case hyay2 => first | (intro w hSw; (try dsimp only at hSw); go_simp; done) | (intro w hSw; (try dsimp only at hSw); go_simp; with_reducible rfl)
      try simp only [Act.put, List.setIfInBounds_toArray, List.set_cons_zero, List.set_cons_succ]
      refine wpAnyH_take (i := 3) (oi := { dst := some 46, op := Op.binOp BinOp.neq 3 (Operand.tmp 43) (Operand.tmp 45) 3, type := 4, pos := "law.go:104", after := #[{ on := 0, ground := Ground.data }, { on := 2, ground := Ground.data }], guard := none }) (v := ?vay3) rfl (by kernel_rfl) (by kernel_rfl) (by kernel_rfl) (fun _ _ _ h => h) (Or.inl ⟨by rfl, ?hyay3⟩) (by assumption) ?restay3
      case hyay3 => first | (intro w hSw; (try dsimp only at hSw); go_simp; done) | (intro w hSw; (try dsimp only at hSw); go_simp; with_reducible rfl)
      try simp only [Act.put, List.setIfInBounds_toArray, List.set_cons_zero, List.set_cons_succ]
      refine wpAnyH_take (i := 4) (oi := { dst := some 47, op := Op.move (Operand.tmp 46), type := 4, pos := "law.go:104", after := #[{ on := 3, ground := Ground.data }], guard := none }) (v := ?vay4) rfl (by kernel_rfl) (by kernel_rfl) (by kernel_rfl) (fun _ _ _ h => h) (Or.inl ⟨by rfl, ?hyay4⟩) (by assumption) ?restay4
      case hyay4 => first | (intro w hSw; (try dsimp only at hSw); go_simp; done) | (intro w hSw; (try dsimp only at hSw); go_simp; with_reducible rfl)
      try simp only [Act.put, List.setIfInBounds_toArray, List.set_cons_zero, List.set_cons_succ]
      refine wpAnyH_take (i := 5) (oi := { dst := some 48, op := Op.move (Operand.tmp 11), type := 4, pos := "law.go:104", after := #[{ on := 4, ground := Ground.guard }], guard := some (4, false) }) (v := ?vay5) rfl (by kernel_rfl) (by kernel_rfl) (by kernel_rfl) (fun _ _ _ h => h) (Or.inl ⟨by rfl, ?hyay5⟩) (by assumption) ?restay5
      case hyay5 => first | (intro w hSw; (try dsimp only at hSw); go_simp; done) | (intro w hSw; (try dsimp only at hSw); go_simp; with_reducible rfl)
      try simp only [Act.put, List.setIfInBounds_toArray, List.set_cons_zero, List.set_cons_succ]
      refine wpAnyH_take (i := 6) (oi := { dst := some 49, op := Op.unOp UnOp.not 4 (Operand.tmp 48), type := 4, pos := "law.go:104", after := #[{ on := 5, ground := Ground.data }, { on := 4, ground := Ground.guard }], guard := some (4, false) }) (v := ?vay6) rfl (by kernel_rfl) (by kernel_rfl) (by kernel_rfl) (fun _ _ _ h => h) (Or.inl ⟨by rfl, ?hyay6⟩) (by assumption) ?restay6
      case hyay6 => first | (intro w hSw; (try dsimp only at hSw); go_simp; done) | (intro w hSw; (try dsimp only at hSw); go_simp; with_reducible rfl)
      try simp only [Act.put, List.setIfInBounds_toArray, List.set_cons_zero, List.set_cons_succ]
      refine wpAnyH_take (i := 7) (oi := { dst := some 50, op := Op.pick (Operand.tmp 47) (Operand.const (Value.bool true)) (Operand.tmp 49), type := 4, pos := "law.go:104", after := #[{ on := 4, ground := Ground.data }, { on := 6, ground := Ground.data }], guard := none }) (v := ?vay7) rfl (by kernel_rfl) (by kernel_rfl) (by kernel_rfl) (fun _ _ _ h => h) (Or.inl ⟨by rfl, ?hyay7⟩) (by assumption) ?restay7
      case hyay7 => first | (intro w hSw; (try dsimp only at hSw); go_simp; done) | (intro w hSw; (try dsimp only at hSw); go_simp; with_reducible rfl)
      try simp only [Act.put, List.setIfInBounds_toArray, List.set_cons_zero, List.set_cons_succ]
      refine wpAnyH_take (i := 8) (oi := { dst := some 51, op := Op.move (Operand.tmp 50), type := 4, pos := "law.go:104", after := #[{ on := 7, ground := Ground.data }, { on := 4, ground := Ground.chain }], guard := none }) (v := ?vay8) rfl (by kernel_rfl) (by kernel_rfl) (by kernel_rfl) (fun _ _ _ h => h) (Or.inl ⟨by rfl, ?hyay8⟩) (by assumption) ?restay8
      case hyay8 => first | (intro w hSw; (try dsimp only at hSw); go_simp; done) | (intro w hSw; (try dsimp only at hSw); go_simp; with_reducible rfl)
      try simp only [Act.put, List.setIfInBounds_toArray, List.set_cons_zero, List.set_cons_succ]
      refine wpAnyH_take (i := 9) (oi := { dst := some 52, op := Op.move (Operand.tmp 9), type := 52, pos := "law.go:104", after := #[{ on := 8, ground := Ground.guard }], guard := some (8, false) }) (v := ?vay9) rfl (by kernel_rfl) (by kernel_rfl) (by kernel_rfl) (fun _ _ _ h => h) (Or.inl ⟨by rfl, ?hyay9⟩) (by assumption) ?restay9
      case hyay9 => first | (intro w hSw; (try dsimp only at hSw); go_simp; done) | (intro w hSw; (try dsimp only at hSw); go_simp; with_reducible rfl)
      try simp only [Act.put, List.setIfInBounds_toArray, List.set_cons_zero, List.set_cons_succ]
      refine wpAnyH_take (i := 11) (oi := { dst := some 54, op := Op.fieldAddr 66 (Operand.tmp 10) 2, type := 0, pos := "law.go:104", after := #[{ on := 8, ground := Ground.guard }], guard := some (8, false) }) (v := ?vay11) rfl (by kernel_rfl) (by kernel_rfl) (by kernel_rfl) (fun _ _ _ h => h) (Or.inl ⟨by rfl, ?hyay11⟩) (by assumption) ?restay11
      case hyay11 => first | (intro w hSw; (try dsimp only at hSw); go_simp; done) | (intro w hSw; (try dsimp only at hSw); go_simp; with_reducible rfl)
      try simp only [Act.put, List.setIfInBounds_toArray, List.set_cons_zero, List.set_cons_succ]
      refine wpAnyH_take (i := 12) (oi := { dst := some 55, op := Op.fieldAddr 64 (Operand.tmp 54) 0, type := 0, pos := "law.go:104", after := #[{ on := 11, ground := Ground.data }, { on := 8, ground := Ground.guard }], guard := some (8, false) }) (v := ?vay12) rfl (by kernel_rfl) (by kernel_rfl) (by kernel_rfl) (fun _ _ _ h => h) (Or.inl ⟨by rfl, ?hyay12⟩) (by assumption) ?restay12
      case hyay12 => first | (intro w hSw; (try dsimp only at hSw); go_simp; done) | (intro w hSw; (try dsimp only at hSw); go_simp; with_reducible rfl)
      try simp only [Act.put, List.setIfInBounds_toArray, List.set_cons_zero, List.set_cons_succ]
      refine wpAnyH_take (i := 13) (oi := { dst := some 56, op := Op.load 55 (Operand.tmp 55), type := 55, pos := "law.go:104", after := #[{ on := 12, ground := Ground.data }, { on := 8, ground := Ground.guard }], guard := some (8, false) }) (v := ?vay13) rfl (by kernel_rfl) (by kernel_rfl) (by kernel_rfl) (fun _ _ _ h => h) (Or.inl ⟨by rfl, ?hyay13⟩) (by assumption) ?restay13
      case hyay13 => first | (intro w hSw; (try dsimp only at hSw); go_simp; done) | (intro w hSw; (try dsimp only at hSw); go_simp; with_reducible rfl)
      try simp only [Act.put, List.setIfInBounds_toArray, List.set_cons_zero, List.set_cons_succ]
      refine wpAnyH_ready (rs := [10]) (by kernel_rfl) (by simp) ?_
      refine AllReadyH.cons (o := { dst := some 53, op := Op.call { callee := Callee.value (Operand.func 13), args := #[Operand.tmp 52], argTypes := #[52] }, type := 55, pos := "law.go:104", after := #[{ on := 9, ground := Ground.data }, { on := 8, ground := Ground.chain }, { on := 8, ground := Ground.guard }], guard := some (8, false) }) rfl (fun K hK => ?_) AllReadyH.nil
      go_simp
      ((refine (Htop.out _ (below_drewN _ w8 1)).mono ?_); rintro rt w9 ⟨rfl, hb9'⟩)
      have hb9 := (below_drewN w8.heap.size w8 1).trans hb9'
      refine hK.out _ _ ?_ (fun hHeld => ?_)
      · exact HD.out w9 (via hb58 hb9)
      clear hK K
      try simp only [Act.put, List.setIfInBounds_toArray, List.set_cons_zero, List.set_cons_succ]
      refine wpAnyH_take (i := 14) (oi := { dst := some 57, op := Op.binOp BinOp.neq 55 (Operand.tmp 53) (Operand.tmp 56) 55, type := 4, pos := "law.go:104", after := #[{ on := 10, ground := Ground.data }, { on := 13, ground := Ground.data }, { on := 8, ground := Ground.guard }], guard := some (8, false) }) (v := ?vay14) rfl (by kernel_rfl) (by kernel_rfl) (by kernel_rfl) (fun _ _ _ h => h) (Or.inl ⟨by rfl, ?hyay14⟩) (by assumption) ?restay14
      case hyay14 => first | (intro w hSw; (try dsimp only at hSw); go_simp; done) | (intro w hSw; (try dsimp only at hSw); go_simp; with_reducible rfl)
      try simp only [Act.put, List.setIfInBounds_toArray, List.set_cons_zero, List.set_cons_succ]
      refine wpAnyH_take (i := 15) (oi := { dst := some 58, op := Op.pick (Operand.tmp 51) (Operand.const (Value.bool true)) (Operand.tmp 57), type := 4, pos := "law.go:104", after := #[{ on := 8, ground := Ground.data }, { on := 14, ground := Ground.data }], guard := none }) (v := ?vay15) rfl (by kernel_rfl) (by kernel_rfl) (by kernel_rfl) (fun _ _ _ h => h) (Or.inl ⟨by rfl, ?hyay15⟩) (by assumption) ?restay15
      case hyay15 => first | (intro w hSw; (try dsimp only at hSw); go_simp; done) | (intro w hSw; (try dsimp only at hSw); go_simp; with_reducible rfl)
      try simp only [Act.put, List.setIfInBounds_toArray, List.set_cons_zero, List.set_cons_succ]
      refine wpAnyH_take (i := 16) (oi := { dst := some 59, op := Op.move (Operand.tmp 58), type := 4, pos := "law.go:104", after := #[{ on := 15, ground := Ground.data }, { on := 10, ground := Ground.chain }], guard := none }) (v := ?vay16) rfl (by kernel_rfl) (by kernel_rfl) (by kernel_rfl) (fun _ _ _ h => h) (Or.inl ⟨by rfl, ?hyay16⟩) (by assumption) ?restay16
      case hyay16 => first | (intro w hSw; (try dsimp only at hSw); go_simp; done) | (intro w hSw; (try dsimp only at hSw); go_simp; with_reducible rfl)
      try simp only [Act.put, List.setIfInBounds_toArray, List.set_cons_zero, List.set_cons_succ]
      refine wpAnyH_take (i := 17) (oi := { dst := some 60, op := Op.move (Operand.tmp 15), type := 4, pos := "law.go:104", after := #[{ on := 16, ground := Ground.guard }], guard := some (16, false) }) (v := ?vay17) rfl (by kernel_rfl) (by kernel_rfl) (by kernel_rfl) (fun _ _ _ h => h) (Or.inl ⟨by rfl, ?hyay17⟩) (by assumption) ?restay17
      case hyay17 => first | (intro w hSw; (try dsimp only at hSw); go_simp; done) | (intro w hSw; (try dsimp only at hSw); go_simp; with_reducible rfl)
      try simp only [Act.put, List.setIfInBounds_toArray, List.set_cons_zero, List.set_cons_succ]
      refine wpAnyH_take (i := 18) (oi := { dst := some 61, op := Op.fieldAddr 66 (Operand.tmp 10) 2, type := 0, pos := "law.go:104", after := #[{ on := 16, ground := Ground.guard }], guard := some (16, false) }) (v := ?vay18) rfl (by kernel_rfl) (by kernel_rfl) (by kernel_rfl) (fun _ _ _ h => h) (Or.inl ⟨by rfl, ?hyay18⟩) (by assumption) ?restay18
      case hyay18 => first | (intro w hSw; (try dsimp only at hSw); go_simp; done) | (intro w hSw; (try dsimp only at hSw); go_simp; with_reducible rfl)
      try simp only [Act.put, List.setIfInBounds_toArray, List.set_cons_zero, List.set_cons_succ]
      refine wpAnyH_take (i := 19) (oi := { dst := some 62, op := Op.fieldAddr 64 (Operand.tmp 61) 2, type := 0, pos := "law.go:104", after := #[{ on := 18, ground := Ground.data }, { on := 16, ground := Ground.guard }], guard := some (16, false) }) (v := ?vay19) rfl (by kernel_rfl) (by kernel_rfl) (by kernel_rfl) (fun _ _ _ h => h) (Or.inl ⟨by rfl, ?hyay19⟩) (by assumption) ?restay19
      case hyay19 => first | (intro w hSw; (try dsimp only at hSw); go_simp; done) | (intro w hSw; (try dsimp only at hSw); go_simp; with_reducible rfl)
      try simp only [Act.put, List.setIfInBounds_toArray, List.set_cons_zero, List.set_cons_succ]
      refine wpAnyH_take (i := 20) (oi := { dst := some 63, op := Op.load 4 (Operand.tmp 62), type := 4, pos := "law.go:104", after := #[{ on := 19, ground := Ground.data }, { on := 16, ground := Ground.guard }], guard := some (16, false) }) (v := ?vay20) rfl (by kernel_rfl) (by kernel_rfl) (by kernel_rfl) (fun _ _ _ h => h) (Or.inl ⟨by rfl, ?hyay20⟩) (by assumption) ?restay20
      case hyay20 => first | (intro w hSw; (try dsimp only at hSw); go_simp; done) | (intro w hSw; (try dsimp only at hSw); go_simp; with_reducible rfl)
      try simp only [Act.put, List.setIfInBounds_toArray, List.set_cons_zero, List.set_cons_succ]
      refine wpAnyH_take (i := 21) (oi := { dst := some 64, op := Op.binOp BinOp.neq 4 (Operand.tmp 60) (Operand.tmp 63) 4, type := 4, pos := "law.go:104", after := #[{ on := 17, ground := Ground.data }, { on := 20, ground := Ground.data }, { on := 16, ground := Ground.guard }], guard := some (16, false) }) (v := ?vay21) rfl (by kernel_rfl) (by kernel_rfl) (by kernel_rfl) (fun _ _ _ h => h) (Or.inl ⟨by rfl, ?hyay21⟩) (by assumption) ?restay21
      case hyay21 => first | (intro w hSw; (try dsimp only at hSw); go_simp; done) | (intro w hSw; (try dsimp only at hSw); go_simp; with_reducible rfl)
      try simp only [Act.put, List.setIfInBounds_toArray, List.set_cons_zero, List.set_cons_succ]
      refine wpAnyH_take (i := 22) (oi := { dst := some 65, op := Op.pick (Operand.tmp 59) (Operand.const (Value.bool true)) (Operand.tmp 64), type := 4, pos := "law.go:104", after := #[{ on := 16, ground := Ground.data }, { on := 21, ground := Ground.data }], guard := none }) (v := ?vay22) rfl (by kernel_rfl) (by kernel_rfl) (by kernel_rfl) (fun _ _ _ h => h) (Or.inl ⟨by rfl, ?hyay22⟩) (by assumption) ?restay22
      case hyay22 => first | (intro w hSw; (try dsimp only at hSw); go_simp; done) | (intro w hSw; (try dsimp only at hSw); go_simp; with_reducible rfl)
      try simp only [Act.put, List.setIfInBounds_toArray, List.set_cons_zero, List.set_cons_succ]
      refine wpAnyH_take (i := 23) (oi := { dst := some 66, op := Op.move (Operand.tmp 65), type := 4, pos := "law.go:104", after := #[{ on := 22, ground := Ground.data }, { on := 16, ground := Ground.chain }], guard := none }) (v := ?vay23) rfl (by kernel_rfl) (by kernel_rfl) (by kernel_rfl) (fun _ _ _ h => h) (Or.inl ⟨by rfl, ?hyay23⟩) (by assumption) ?restay23
      case hyay23 => first | (intro w hSw; (try dsimp only at hSw); go_simp; done) | (intro w hSw; (try dsimp only at hSw); go_simp; with_reducible rfl)
      try simp only [Act.put, List.setIfInBounds_toArray, List.set_cons_zero, List.set_cons_succ]
      refine wpAnyH_take (i := 24) (oi := { dst := some 67, op := Op.move (Operand.tmp 15), type := 4, pos := "law.go:104", after := #[{ on := 23, ground := Ground.guard }], guard := some (23, false) }) (v := ?vay24) rfl (by kernel_rfl) (by kernel_rfl) (by kernel_rfl) (fun _ _ _ h => h) (Or.inl ⟨by rfl, ?hyay24⟩) (by assumption) ?restay24
      case hyay24 => first | (intro w hSw; (try dsimp only at hSw); go_simp; done) | (intro w hSw; (try dsimp only at hSw); go_simp; with_reducible rfl)
      try simp only [Act.put, List.setIfInBounds_toArray, List.set_cons_zero, List.set_cons_succ]
      refine wpAnyH_take (i := 25) (oi := { dst := some 68, op := Op.move (Operand.tmp 67), type := 4, pos := "law.go:104", after := #[{ on := 24, ground := Ground.data }, { on := 23, ground := Ground.chain }, { on := 23, ground := Ground.guard }], guard := some (23, false) }) (v := ?vay25) rfl (by kernel_rfl) (by kernel_rfl) (by kernel_rfl) (fun _ _ _ h => h) (Or.inl ⟨by rfl, ?hyay25⟩) (by assumption) ?restay25
      case hyay25 => first | (intro w hSw; (try dsimp only at hSw); go_simp; done) | (intro w hSw; (try dsimp only at hSw); go_simp; with_reducible rfl)
      try simp only [Act.put, List.setIfInBounds_toArray, List.set_cons_zero, List.set_cons_succ]
      refine wpAnyH_take (i := 26) (oi := { dst := some 69, op := Op.move (Operand.tmp 14), type := 3, pos := "law.go:104", after := #[{ on := 25, ground := Ground.guard }], guard := some (25, true) }) (v := undef) rfl (by kernel_rfl) (by kernel_rfl) (by kernel_rfl) (fun _ _ _ h => h) (Or.inr ⟨by rfl, rfl⟩) (by assumption) ?restay26
      try simp only [Act.put, List.setIfInBounds_toArray, List.set_cons_zero, List.set_cons_succ]
      refine wpAnyH_take (i := 27) (oi := { dst := some 70, op := Op.fieldAddr 66 (Operand.tmp 10) 2, type := 0, pos := "law.go:104", after := #[{ on := 25, ground := Ground.guard }], guard := some (25, true) }) (v := undef) rfl (by kernel_rfl) (by kernel_rfl) (by kernel_rfl) (fun _ _ _ h => h) (Or.inr ⟨by rfl, rfl⟩) (by assumption) ?restay27
      try simp only [Act.put, List.setIfInBounds_toArray, List.set_cons_zero, List.set_cons_succ]
      refine wpAnyH_take (i := 28) (oi := { dst := some 71, op := Op.fieldAddr 64 (Operand.tmp 70) 1, type := 0, pos := "law.go:104", after := #[{ on := 27, ground := Ground.data }, { on := 25, ground := Ground.guard }], guard := some (25, true) }) (v := undef) rfl (by kernel_rfl) (by kernel_rfl) (by kernel_rfl) (fun _ _ _ h => h) (Or.inr ⟨by rfl, rfl⟩) (by assumption) ?restay28
      try simp only [Act.put, List.setIfInBounds_toArray, List.set_cons_zero, List.set_cons_succ]
      refine wpAnyH_take (i := 29) (oi := { dst := some 72, op := Op.load 3 (Operand.tmp 71), type := 3, pos := "law.go:104", after := #[{ on := 28, ground := Ground.data }, { on := 25, ground := Ground.guard }], guard := some (25, true) }) (v := undef) rfl (by kernel_rfl) (by kernel_rfl) (by kernel_rfl) (fun _ _ _ h => h) (Or.inr ⟨by rfl, rfl⟩) (by assumption) ?restay29
      try simp only [Act.put, List.setIfInBounds_toArray, List.set_cons_zero, List.set_cons_succ]
      refine wpAnyH_take (i := 30) (oi := { dst := some 73, op := Op.binOp BinOp.neq 3 (Operand.tmp 69) (Operand.tmp 72) 3, type := 4, pos := "law.go:104", after := #[{ on := 26, ground := Ground.data }, { on := 29, ground := Ground.data }, { on := 25, ground := Ground.guard }], guard := some (25, true) }) (v := undef) rfl (by kernel_rfl) (by kernel_rfl) (by kernel_rfl) (fun _ _ _ h => h) (Or.inr ⟨by rfl, rfl⟩) (by assumption) ?restay30
      try simp only [Act.put, List.setIfInBounds_toArray, List.set_cons_zero, List.set_cons_succ]
      refine wpAnyH_take (i := 31) (oi := { dst := some 74, op := Op.pick (Operand.tmp 68) (Operand.tmp 73) (Operand.const (Value.bool false)), type := 4, pos := "law.go:104", after := #[{ on := 25, ground := Ground.data }, { on := 30, ground := Ground.data }, { on := 23, ground := Ground.guard }], guard := some (23, false) }) (v := ?vay31) rfl (by kernel_rfl) (by kernel_rfl) (by kernel_rfl) (fun _ _ _ h => h) (Or.inl ⟨by rfl, ?hyay31⟩) (by assumption) ?restay31
      case hyay31 => first | (intro w hSw; (try dsimp only at hSw); go_simp; done) | (intro w hSw; (try dsimp only at hSw); go_simp; with_reducible rfl)
      try simp only [Act.put, List.setIfInBounds_toArray, List.set_cons_zero, List.set_cons_succ]
      refine wpAnyH_take (i := 32) (oi := { dst := some 75, op := Op.pick (Operand.tmp 66) (Operand.const (Value.bool true)) (Operand.tmp 74), type := 4, pos := "law.go:104", after := #[{ on := 23, ground := Ground.data }, { on := 31, ground := Ground.data }], guard := none }) (v := ?vay32) rfl (by kernel_rfl) (by kernel_rfl) (by kernel_rfl) (fun _ _ _ h => h) (Or.inl ⟨by rfl, ?hyay32⟩) (by assumption) ?restay32
      case hyay32 => first | (intro w hSw; (try dsimp only at hSw); go_simp; done) | (intro w hSw; (try dsimp only at hSw); go_simp; with_reducible rfl)
      try simp only [Act.put, List.setIfInBounds_toArray, List.set_cons_zero, List.set_cons_succ]
      refine wpAnyH_done (by kernel_rfl) ?_ _
      have hb59 := via hb58 hb9
      clear h0' h5' h6' h7'
      have ⟨h0', h5', h6', h7'⟩ := HD.out w9 hb59
      have hlD9 := Nat.lt_of_lt_of_le hlD hb59.size
      go_wp2_with fail
      refine wp_region_held_drew (S := (fun W => W.cell? ⟨D, 5, none⟩ = some (.int .i64 e))) (by kernel_rfl) ?_ (fun hHeld => ?_)
      · exact h5'
      refine wpAnyH_take (i := 0) (oi := { dst := some 80, op := Op.move (Operand.tmp 12), type := 26, pos := "law.go:108", after := #[], guard := none }) (v := ?vby0) rfl (by kernel_rfl) (by kernel_rfl) (by kernel_rfl) (fun _ _ _ h => h) (Or.inl ⟨by rfl, ?hyby0⟩) (by assumption) ?restby0
      case hyby0 => first | (intro w hSw; (try dsimp only at hSw); go_simp; done) | (intro w hSw; (try dsimp only at hSw); go_simp; with_reducible rfl)
      try simp only [Act.put, List.setIfInBounds_toArray, List.set_cons_zero, List.set_cons_succ]
      refine wpAnyH_take (i := 1) (oi := { dst := some 81, op := Op.binOp BinOp.eql 26 (Operand.tmp 80) (Operand.const (Value.int IntKind.u64 0)) 26, type := 4, pos := "law.go:108", after := #[{ on := 0, ground := Ground.data }], guard := none }) (v := ?vby1) rfl (by kernel_rfl) (by kernel_rfl) (by kernel_rfl) (fun _ _ _ h => h) (Or.inl ⟨by rfl, ?hyby1⟩) (by assumption) ?restby1
      case hyby1 => first | (intro w hSw; (try dsimp only at hSw); go_simp; done) | (intro w hSw; (try dsimp only at hSw); go_simp; with_reducible rfl)
      try simp only [Act.put, List.setIfInBounds_toArray, List.set_cons_zero, List.set_cons_succ]
      refine wpAnyH_take (i := 2) (oi := { dst := some 82, op := Op.move (Operand.tmp 81), type := 4, pos := "law.go:108", after := #[{ on := 1, ground := Ground.data }], guard := none }) (v := ?vby2) rfl (by kernel_rfl) (by kernel_rfl) (by kernel_rfl) (fun _ _ _ h => h) (Or.inl ⟨by rfl, ?hyby2⟩) (by assumption) ?restby2
      case hyby2 => first | (intro w hSw; (try dsimp only at hSw); go_simp; done) | (intro w hSw; (try dsimp only at hSw); go_simp; with_reducible rfl)
      try simp only [Act.put, List.setIfInBounds_toArray, List.set_cons_zero, List.set_cons_succ]
      refine wpAnyH_take (i := 3) (oi := { dst := some 83, op := Op.move (Operand.tmp 13), type := 52, pos := "law.go:108", after := #[{ on := 2, ground := Ground.guard }], guard := some (2, true) }) (v := ?vby3) rfl (by kernel_rfl) (by kernel_rfl) (by kernel_rfl) (fun _ _ _ h => h) (Or.inl ⟨by rfl, ?hyby3⟩) (by assumption) ?restby3
      case hyby3 => first | (intro w hSw; (try dsimp only at hSw); go_simp; done) | (intro w hSw; (try dsimp only at hSw); go_simp; with_reducible rfl)
      try simp only [Act.put, List.setIfInBounds_toArray, List.set_cons_zero, List.set_cons_succ]
      refine wpAnyH_take (i := 5) (oi := { dst := some 85, op := Op.fieldAddr 66 (Operand.tmp 10) 2, type := 0, pos := "law.go:108", after := #[{ on := 2, ground := Ground.guard }], guard := some (2, true) }) (v := ?vby5) rfl (by kernel_rfl) (by kernel_rfl) (by kernel_rfl) (fun _ _ _ h => h) (Or.inl ⟨by rfl, ?hyby5⟩) (by assumption) ?restby5
      case hyby5 => first | (intro w hSw; (try dsimp only at hSw); go_simp; done) | (intro w hSw; (try dsimp only at hSw); go_simp; with_reducible rfl)
      try simp only [Act.put, List.setIfInBounds_toArray, List.set_cons_zero, List.set_cons_succ]
      refine wpAnyH_take (i := 6) (oi := { dst := some 86, op := Op.fieldAddr 64 (Operand.tmp 85) 0, type := 0, pos := "law.go:108", after := #[{ on := 5, ground := Ground.data }, { on := 2, ground := Ground.guard }], guard := some (2, true) }) (v := ?vby6) rfl (by kernel_rfl) (by kernel_rfl) (by kernel_rfl) (fun _ _ _ h => h) (Or.inl ⟨by rfl, ?hyby6⟩) (by assumption) ?restby6
      case hyby6 => first | (intro w hSw; (try dsimp only at hSw); go_simp; done) | (intro w hSw; (try dsimp only at hSw); go_simp; with_reducible rfl)
      try simp only [Act.put, List.setIfInBounds_toArray, List.set_cons_zero, List.set_cons_succ]
      refine wpAnyH_take (i := 7) (oi := { dst := some 87, op := Op.load 55 (Operand.tmp 86), type := 55, pos := "law.go:108", after := #[{ on := 6, ground := Ground.data }, { on := 2, ground := Ground.guard }], guard := some (2, true) }) (v := ?vby7) rfl (by kernel_rfl) (by kernel_rfl) (by kernel_rfl) (fun _ _ _ h => h) (Or.inl ⟨by rfl, ?hyby7⟩) (by assumption) ?restby7
      case hyby7 => first | (intro w hSw; (try dsimp only at hSw); go_simp; done) | (intro w hSw; (try dsimp only at hSw); go_simp; with_reducible rfl)
      try simp only [Act.put, List.setIfInBounds_toArray, List.set_cons_zero, List.set_cons_succ]
      refine wpAnyH_ready (rs := [4]) (by kernel_rfl) (by simp) ?_
      refine AllReadyH.cons (o := { dst := some 84, op := Op.call { callee := Callee.value (Operand.func 13), args := #[Operand.tmp 83], argTypes := #[52] }, type := 55, pos := "law.go:108", after := #[{ on := 3, ground := Ground.data }, { on := 2, ground := Ground.chain }, { on := 2, ground := Ground.guard }], guard := some (2, true) }) rfl (fun K hK => ?_) AllReadyH.nil
      go_simp
      ((refine (top_errW (hla.out _ ((via hb5 hb59).trans (below_drewN _ w9 1))) ((hfE.below (via hbw hb9)).below (below_drewN _ w9 1))).mono ?_); rintro rt w12 ⟨rfl, hb12'⟩)
      have hb12 := (below_drewN w9.heap.size w9 1).trans hb12'
      refine hK.out _ _ ?_ (fun hHeld => ?_)
      · exact (hb12.cell (p := ⟨D, 5, none⟩) hlD9).trans h5'
      clear hK K
      try simp only [Act.put, List.setIfInBounds_toArray, List.set_cons_zero, List.set_cons_succ]
      refine wpAnyH_take (i := 8) (oi := { dst := some 88, op := Op.binOp BinOp.eql 55 (Operand.tmp 84) (Operand.tmp 87) 55, type := 4, pos := "law.go:108", after := #[{ on := 4, ground := Ground.data }, { on := 7, ground := Ground.data }, { on := 2, ground := Ground.guard }], guard := some (2, true) }) (v := ?vby8) rfl (by kernel_rfl) (by kernel_rfl) (by kernel_rfl) (fun _ _ _ h => h) (Or.inl ⟨by rfl, ?hyby8⟩) (by assumption) ?restby8
      case hyby8 => first | (intro w hSw; (try dsimp only at hSw); go_simp; done) | (intro w hSw; (try dsimp only at hSw); go_simp; with_reducible rfl)
      try simp only [Act.put, List.setIfInBounds_toArray, List.set_cons_zero, List.set_cons_succ]
      refine wpAnyH_take (i := 9) (oi := { dst := some 89, op := Op.pick (Operand.tmp 82) (Operand.tmp 88) (Operand.const (Value.bool false)), type := 4, pos := "law.go:108", after := #[{ on := 2, ground := Ground.data }, { on := 8, ground := Ground.data }], guard := none }) (v := ?vby9) rfl (by kernel_rfl) (by kernel_rfl) (by kernel_rfl) (fun _ _ _ h => h) (Or.inl ⟨by rfl, ?hyby9⟩) (by assumption) ?restby9
      case hyby9 => first | (intro w hSw; (try dsimp only at hSw); go_simp; done) | (intro w hSw; (try dsimp only at hSw); go_simp; with_reducible rfl)
      try simp only [Act.put, List.setIfInBounds_toArray, List.set_cons_zero, List.set_cons_succ]
      refine wpAnyH_take (i := 10) (oi := { dst := some 6, op := Op.assign (Operand.tmp 89), type := 4, pos := "law.go:108", after := #[{ on := 9, ground := Ground.data }, { on := 4, ground := Ground.chain }, { on := 0, ground := Ground.phase }, { on := 1, ground := Ground.phase }, { on := 2, ground := Ground.phase }, { on := 3, ground := Ground.phase }, { on := 4, ground := Ground.phase }, { on := 5, ground := Ground.phase }, { on := 6, ground := Ground.phase }, { on := 7, ground := Ground.phase }, { on := 8, ground := Ground.phase }, { on := 9, ground := Ground.phase }], guard := none }) (v := ?vby10) rfl (by kernel_rfl) (by kernel_rfl) (by kernel_rfl) (fun _ _ _ h => h) (Or.inl ⟨by rfl, ?hyby10⟩) (by assumption) ?restby10
      case hyby10 => first | (intro w hSw; (try dsimp only at hSw); go_simp; done) | (intro w hSw; (try dsimp only at hSw); go_simp; with_reducible rfl)
      try simp only [Act.put, List.setIfInBounds_toArray, List.set_cons_zero, List.set_cons_succ]
      refine wpAnyH_done (by kernel_rfl) ?_ _
      go_wp2_with fail
      go_returns
      exact ⟨rfl, via hb5 (via hb59 hb12)⟩
    | true =>
      go_wp2_with fail
      have Htop := hid fun W (hW : Below w8.heap.size w8 W) => top_errW (hla.out W (via hb8 hW)) (HE.out W (via hb58 hW))
      have ⟨h0', h5', h6', h7'⟩ := HD.out w8 hb58
      refine wp_region_held_drew (S := (fun W => W.cell? ⟨D, 0, none⟩ = some (.int .i64 tt) ∧ W.cell? ⟨D, 5, none⟩ = some (.int .i64 e) ∧ W.cell? ⟨D, 6, none⟩ = some (.int .i64 pd) ∧ W.cell? ⟨D, 7, none⟩ = some (.bool true))) (by kernel_rfl) ?_ (fun hHeld => ?_)
      · exact ⟨h0', h5', h6', h7'⟩
      refine wpAnyH_take (i := 0) (oi := { dst := some 43, op := Op.move (Operand.tmp 7), type := 3, pos := "law.go:104", after := #[], guard := none }) (v := ?vaz0) rfl (by kernel_rfl) (by kernel_rfl) (by kernel_rfl) (fun _ _ _ h => h) (Or.inl ⟨by rfl, ?hyaz0⟩) (by assumption) ?restaz0
      case hyaz0 => first | (intro w hSw; (try dsimp only at hSw); go_simp; done) | (intro w hSw; (try dsimp only at hSw); go_simp; with_reducible rfl)
      try simp only [Act.put, List.setIfInBounds_toArray, List.set_cons_zero, List.set_cons_succ]
      refine wpAnyH_take (i := 1) (oi := { dst := some 44, op := Op.fieldAddr 66 (Operand.tmp 10) 0, type := 0, pos := "law.go:104", after := #[], guard := none }) (v := ?vaz1) rfl (by kernel_rfl) (by kernel_rfl) (by kernel_rfl) (fun _ _ _ h => h) (Or.inl ⟨by rfl, ?hyaz1⟩) (by assumption) ?restaz1
      case hyaz1 => first | (intro w hSw; (try dsimp only at hSw); go_simp; done) | (intro w hSw; (try dsimp only at hSw); go_simp; with_reducible rfl)
      try simp only [Act.put, List.setIfInBounds_toArray, List.set_cons_zero, List.set_cons_succ]
      refine wpAnyH_take (i := 2) (oi := { dst := some 45, op := Op.load 3 (Operand.tmp 44), type := 3, pos := "law.go:104", after := #[{ on := 1, ground := Ground.data }], guard := none }) (v := ?vaz2) rfl (by kernel_rfl) (by kernel_rfl) (by kernel_rfl) (fun _ _ _ h => h) (Or.inl ⟨by rfl, ?hyaz2⟩) (by assumption) ?restaz2
      case hyaz2 => first | (intro w hSw; (try dsimp only at hSw); go_simp; done) | (intro w hSw; (try dsimp only at hSw); go_simp; with_reducible rfl)
      try simp only [Act.put, List.setIfInBounds_toArray, List.set_cons_zero, List.set_cons_succ]
      refine wpAnyH_take (i := 3) (oi := { dst := some 46, op := Op.binOp BinOp.neq 3 (Operand.tmp 43) (Operand.tmp 45) 3, type := 4, pos := "law.go:104", after := #[{ on := 0, ground := Ground.data }, { on := 2, ground := Ground.data }], guard := none }) (v := ?vaz3) rfl (by kernel_rfl) (by kernel_rfl) (by kernel_rfl) (fun _ _ _ h => h) (Or.inl ⟨by rfl, ?hyaz3⟩) (by assumption) ?restaz3
      case hyaz3 => first | (intro w hSw; (try dsimp only at hSw); go_simp; done) | (intro w hSw; (try dsimp only at hSw); go_simp; with_reducible rfl)
      try simp only [Act.put, List.setIfInBounds_toArray, List.set_cons_zero, List.set_cons_succ]
      refine wpAnyH_take (i := 4) (oi := { dst := some 47, op := Op.move (Operand.tmp 46), type := 4, pos := "law.go:104", after := #[{ on := 3, ground := Ground.data }], guard := none }) (v := ?vaz4) rfl (by kernel_rfl) (by kernel_rfl) (by kernel_rfl) (fun _ _ _ h => h) (Or.inl ⟨by rfl, ?hyaz4⟩) (by assumption) ?restaz4
      case hyaz4 => first | (intro w hSw; (try dsimp only at hSw); go_simp; done) | (intro w hSw; (try dsimp only at hSw); go_simp; with_reducible rfl)
      try simp only [Act.put, List.setIfInBounds_toArray, List.set_cons_zero, List.set_cons_succ]
      refine wpAnyH_take (i := 5) (oi := { dst := some 48, op := Op.move (Operand.tmp 11), type := 4, pos := "law.go:104", after := #[{ on := 4, ground := Ground.guard }], guard := some (4, false) }) (v := ?vaz5) rfl (by kernel_rfl) (by kernel_rfl) (by kernel_rfl) (fun _ _ _ h => h) (Or.inl ⟨by rfl, ?hyaz5⟩) (by assumption) ?restaz5
      case hyaz5 => first | (intro w hSw; (try dsimp only at hSw); go_simp; done) | (intro w hSw; (try dsimp only at hSw); go_simp; with_reducible rfl)
      try simp only [Act.put, List.setIfInBounds_toArray, List.set_cons_zero, List.set_cons_succ]
      refine wpAnyH_take (i := 6) (oi := { dst := some 49, op := Op.unOp UnOp.not 4 (Operand.tmp 48), type := 4, pos := "law.go:104", after := #[{ on := 5, ground := Ground.data }, { on := 4, ground := Ground.guard }], guard := some (4, false) }) (v := ?vaz6) rfl (by kernel_rfl) (by kernel_rfl) (by kernel_rfl) (fun _ _ _ h => h) (Or.inl ⟨by rfl, ?hyaz6⟩) (by assumption) ?restaz6
      case hyaz6 => first | (intro w hSw; (try dsimp only at hSw); go_simp; done) | (intro w hSw; (try dsimp only at hSw); go_simp; with_reducible rfl)
      try simp only [Act.put, List.setIfInBounds_toArray, List.set_cons_zero, List.set_cons_succ]
      refine wpAnyH_take (i := 7) (oi := { dst := some 50, op := Op.pick (Operand.tmp 47) (Operand.const (Value.bool true)) (Operand.tmp 49), type := 4, pos := "law.go:104", after := #[{ on := 4, ground := Ground.data }, { on := 6, ground := Ground.data }], guard := none }) (v := ?vaz7) rfl (by kernel_rfl) (by kernel_rfl) (by kernel_rfl) (fun _ _ _ h => h) (Or.inl ⟨by rfl, ?hyaz7⟩) (by assumption) ?restaz7
      case hyaz7 => first | (intro w hSw; (try dsimp only at hSw); go_simp; done) | (intro w hSw; (try dsimp only at hSw); go_simp; with_reducible rfl)
      try simp only [Act.put, List.setIfInBounds_toArray, List.set_cons_zero, List.set_cons_succ]
      refine wpAnyH_take (i := 8) (oi := { dst := some 51, op := Op.move (Operand.tmp 50), type := 4, pos := "law.go:104", after := #[{ on := 7, ground := Ground.data }, { on := 4, ground := Ground.chain }], guard := none }) (v := ?vaz8) rfl (by kernel_rfl) (by kernel_rfl) (by kernel_rfl) (fun _ _ _ h => h) (Or.inl ⟨by rfl, ?hyaz8⟩) (by assumption) ?restaz8
      case hyaz8 => first | (intro w hSw; (try dsimp only at hSw); go_simp; done) | (intro w hSw; (try dsimp only at hSw); go_simp; with_reducible rfl)
      try simp only [Act.put, List.setIfInBounds_toArray, List.set_cons_zero, List.set_cons_succ]
      refine wpAnyH_take (i := 9) (oi := { dst := some 52, op := Op.move (Operand.tmp 9), type := 52, pos := "law.go:104", after := #[{ on := 8, ground := Ground.guard }], guard := some (8, false) }) (v := ?vaz9) rfl (by kernel_rfl) (by kernel_rfl) (by kernel_rfl) (fun _ _ _ h => h) (Or.inl ⟨by rfl, ?hyaz9⟩) (by assumption) ?restaz9
      case hyaz9 => first | (intro w hSw; (try dsimp only at hSw); go_simp; done) | (intro w hSw; (try dsimp only at hSw); go_simp; with_reducible rfl)
      try simp only [Act.put, List.setIfInBounds_toArray, List.set_cons_zero, List.set_cons_succ]
      refine wpAnyH_take (i := 11) (oi := { dst := some 54, op := Op.fieldAddr 66 (Operand.tmp 10) 2, type := 0, pos := "law.go:104", after := #[{ on := 8, ground := Ground.guard }], guard := some (8, false) }) (v := ?vaz11) rfl (by kernel_rfl) (by kernel_rfl) (by kernel_rfl) (fun _ _ _ h => h) (Or.inl ⟨by rfl, ?hyaz11⟩) (by assumption) ?restaz11
      case hyaz11 => first | (intro w hSw; (try dsimp only at hSw); go_simp; done) | (intro w hSw; (try dsimp only at hSw); go_simp; with_reducible rfl)
      try simp only [Act.put, List.setIfInBounds_toArray, List.set_cons_zero, List.set_cons_succ]
      refine wpAnyH_take (i := 12) (oi := { dst := some 55, op := Op.fieldAddr 64 (Operand.tmp 54) 0, type := 0, pos := "law.go:104", after := #[{ on := 11, ground := Ground.data }, { on := 8, ground := Ground.guard }], guard := some (8, false) }) (v := ?vaz12) rfl (by kernel_rfl) (by kernel_rfl) (by kernel_rfl) (fun _ _ _ h => h) (Or.inl ⟨by rfl, ?hyaz12⟩) (by assumption) ?restaz12
      case hyaz12 => first | (intro w hSw; (try dsimp only at hSw); go_simp; done) | (intro w hSw; (try dsimp only at hSw); go_simp; with_reducible rfl)
      try simp only [Act.put, List.setIfInBounds_toArray, List.set_cons_zero, List.set_cons_succ]
      refine wpAnyH_take (i := 13) (oi := { dst := some 56, op := Op.load 55 (Operand.tmp 55), type := 55, pos := "law.go:104", after := #[{ on := 12, ground := Ground.data }, { on := 8, ground := Ground.guard }], guard := some (8, false) }) (v := ?vaz13) rfl (by kernel_rfl) (by kernel_rfl) (by kernel_rfl) (fun _ _ _ h => h) (Or.inl ⟨by rfl, ?hyaz13⟩) (by assumption) ?restaz13
      case hyaz13 => first | (intro w hSw; (try dsimp only at hSw); go_simp; done) | (intro w hSw; (try dsimp only at hSw); go_simp; with_reducible rfl)
      try simp only [Act.put, List.setIfInBounds_toArray, List.set_cons_zero, List.set_cons_succ]
      refine wpAnyH_ready (rs := [10]) (by kernel_rfl) (by simp) ?_
      refine AllReadyH.cons (o := { dst := some 53, op := Op.call { callee := Callee.value (Operand.func 13), args := #[Operand.tmp 52], argTypes := #[52] }, type := 55, pos := "law.go:104", after := #[{ on := 9, ground := Ground.data }, { on := 8, ground := Ground.chain }, { on := 8, ground := Ground.guard }], guard := some (8, false) }) rfl (fun K hK => ?_) AllReadyH.nil
      go_simp
      ((refine (Htop.out _ (below_drewN _ w8 1)).mono ?_); rintro rt w9 ⟨rfl, hb9'⟩)
      have hb9 := (below_drewN w8.heap.size w8 1).trans hb9'
      refine hK.out _ _ ?_ (fun hHeld => ?_)
      · exact HD.out w9 (via hb58 hb9)
      clear hK K
      try simp only [Act.put, List.setIfInBounds_toArray, List.set_cons_zero, List.set_cons_succ]
      refine wpAnyH_take (i := 14) (oi := { dst := some 57, op := Op.binOp BinOp.neq 55 (Operand.tmp 53) (Operand.tmp 56) 55, type := 4, pos := "law.go:104", after := #[{ on := 10, ground := Ground.data }, { on := 13, ground := Ground.data }, { on := 8, ground := Ground.guard }], guard := some (8, false) }) (v := ?vaz14) rfl (by kernel_rfl) (by kernel_rfl) (by kernel_rfl) (fun _ _ _ h => h) (Or.inl ⟨by rfl, ?hyaz14⟩) (by assumption) ?restaz14
      case hyaz14 => first | (intro w hSw; (try dsimp only at hSw); go_simp; done) | (intro w hSw; (try dsimp only at hSw); go_simp; with_reducible rfl)
      try simp only [Act.put, List.setIfInBounds_toArray, List.set_cons_zero, List.set_cons_succ]
      refine wpAnyH_take (i := 15) (oi := { dst := some 58, op := Op.pick (Operand.tmp 51) (Operand.const (Value.bool true)) (Operand.tmp 57), type := 4, pos := "law.go:104", after := #[{ on := 8, ground := Ground.data }, { on := 14, ground := Ground.data }], guard := none }) (v := ?vaz15) rfl (by kernel_rfl) (by kernel_rfl) (by kernel_rfl) (fun _ _ _ h => h) (Or.inl ⟨by rfl, ?hyaz15⟩) (by assumption) ?restaz15
      case hyaz15 => first | (intro w hSw; (try dsimp only at hSw); go_simp; done) | (intro w hSw; (try dsimp only at hSw); go_simp; with_reducible rfl)
      try simp only [Act.put, List.setIfInBounds_toArray, List.set_cons_zero, List.set_cons_succ]
      refine wpAnyH_take (i := 16) (oi := { dst := some 59, op := Op.move (Operand.tmp 58), type := 4, pos := "law.go:104", after := #[{ on := 15, ground := Ground.data }, { on := 10, ground := Ground.chain }], guard := none }) (v := ?vaz16) rfl (by kernel_rfl) (by kernel_rfl) (by kernel_rfl) (fun _ _ _ h => h) (Or.inl ⟨by rfl, ?hyaz16⟩) (by assumption) ?restaz16
      case hyaz16 => first | (intro w hSw; (try dsimp only at hSw); go_simp; done) | (intro w hSw; (try dsimp only at hSw); go_simp; with_reducible rfl)
      try simp only [Act.put, List.setIfInBounds_toArray, List.set_cons_zero, List.set_cons_succ]
      refine wpAnyH_take (i := 17) (oi := { dst := some 60, op := Op.move (Operand.tmp 15), type := 4, pos := "law.go:104", after := #[{ on := 16, ground := Ground.guard }], guard := some (16, false) }) (v := ?vaz17) rfl (by kernel_rfl) (by kernel_rfl) (by kernel_rfl) (fun _ _ _ h => h) (Or.inl ⟨by rfl, ?hyaz17⟩) (by assumption) ?restaz17
      case hyaz17 => first | (intro w hSw; (try dsimp only at hSw); go_simp; done) | (intro w hSw; (try dsimp only at hSw); go_simp; with_reducible rfl)
      try simp only [Act.put, List.setIfInBounds_toArray, List.set_cons_zero, List.set_cons_succ]
      refine wpAnyH_take (i := 18) (oi := { dst := some 61, op := Op.fieldAddr 66 (Operand.tmp 10) 2, type := 0, pos := "law.go:104", after := #[{ on := 16, ground := Ground.guard }], guard := some (16, false) }) (v := ?vaz18) rfl (by kernel_rfl) (by kernel_rfl) (by kernel_rfl) (fun _ _ _ h => h) (Or.inl ⟨by rfl, ?hyaz18⟩) (by assumption) ?restaz18
      case hyaz18 => first | (intro w hSw; (try dsimp only at hSw); go_simp; done) | (intro w hSw; (try dsimp only at hSw); go_simp; with_reducible rfl)
      try simp only [Act.put, List.setIfInBounds_toArray, List.set_cons_zero, List.set_cons_succ]
      refine wpAnyH_take (i := 19) (oi := { dst := some 62, op := Op.fieldAddr 64 (Operand.tmp 61) 2, type := 0, pos := "law.go:104", after := #[{ on := 18, ground := Ground.data }, { on := 16, ground := Ground.guard }], guard := some (16, false) }) (v := ?vaz19) rfl (by kernel_rfl) (by kernel_rfl) (by kernel_rfl) (fun _ _ _ h => h) (Or.inl ⟨by rfl, ?hyaz19⟩) (by assumption) ?restaz19
      case hyaz19 => first | (intro w hSw; (try dsimp only at hSw); go_simp; done) | (intro w hSw; (try dsimp only at hSw); go_simp; with_reducible rfl)
      try simp only [Act.put, List.setIfInBounds_toArray, List.set_cons_zero, List.set_cons_succ]
      refine wpAnyH_take (i := 20) (oi := { dst := some 63, op := Op.load 4 (Operand.tmp 62), type := 4, pos := "law.go:104", after := #[{ on := 19, ground := Ground.data }, { on := 16, ground := Ground.guard }], guard := some (16, false) }) (v := ?vaz20) rfl (by kernel_rfl) (by kernel_rfl) (by kernel_rfl) (fun _ _ _ h => h) (Or.inl ⟨by rfl, ?hyaz20⟩) (by assumption) ?restaz20
      case hyaz20 => first | (intro w hSw; (try dsimp only at hSw); go_simp; done) | (intro w hSw; (try dsimp only at hSw); go_simp; with_reducible rfl)
      try simp only [Act.put, List.setIfInBounds_toArray, List.set_cons_zero, List.set_cons_succ]
      refine wpAnyH_take (i := 21) (oi := { dst := some 64, op := Op.binOp BinOp.neq 4 (Operand.tmp 60) (Operand.tmp 63) 4, type := 4, pos := "law.go:104", after := #[{ on := 17, ground := Ground.data }, { on := 20, ground := Ground.data }, { on := 16, ground := Ground.guard }], guard := some (16, false) }) (v := ?vaz21) rfl (by kernel_rfl) (by kernel_rfl) (by kernel_rfl) (fun _ _ _ h => h) (Or.inl ⟨by rfl, ?hyaz21⟩) (by assumption) ?restaz21
      case hyaz21 => first | (intro w hSw; (try dsimp only at hSw); go_simp; done) | (intro w hSw; (try dsimp only at hSw); go_simp; with_reducible rfl)
      try simp only [Act.put, List.setIfInBounds_toArray, List.set_cons_zero, List.set_cons_succ]
      refine wpAnyH_take (i := 22) (oi := { dst := some 65, op := Op.pick (Operand.tmp 59) (Operand.const (Value.bool true)) (Operand.tmp 64), type := 4, pos := "law.go:104", after := #[{ on := 16, ground := Ground.data }, { on := 21, ground := Ground.data }], guard := none }) (v := ?vaz22) rfl (by kernel_rfl) (by kernel_rfl) (by kernel_rfl) (fun _ _ _ h => h) (Or.inl ⟨by rfl, ?hyaz22⟩) (by assumption) ?restaz22
      case hyaz22 => first | (intro w hSw; (try dsimp only at hSw); go_simp; done) | (intro w hSw; (try dsimp only at hSw); go_simp; with_reducible rfl)
      try simp only [Act.put, List.setIfInBounds_toArray, List.set_cons_zero, List.set_cons_succ]
      refine wpAnyH_take (i := 23) (oi := { dst := some 66, op := Op.move (Operand.tmp 65), type := 4, pos := "law.go:104", after := #[{ on := 22, ground := Ground.data }, { on := 16, ground := Ground.chain }], guard := none }) (v := ?vaz23) rfl (by kernel_rfl) (by kernel_rfl) (by kernel_rfl) (fun _ _ _ h => h) (Or.inl ⟨by rfl, ?hyaz23⟩) (by assumption) ?restaz23
      case hyaz23 => first | (intro w hSw; (try dsimp only at hSw); go_simp; done) | (intro w hSw; (try dsimp only at hSw); go_simp; with_reducible rfl)
      try simp only [Act.put, List.setIfInBounds_toArray, List.set_cons_zero, List.set_cons_succ]
      refine wpAnyH_take (i := 24) (oi := { dst := some 67, op := Op.move (Operand.tmp 15), type := 4, pos := "law.go:104", after := #[{ on := 23, ground := Ground.guard }], guard := some (23, false) }) (v := ?vaz24) rfl (by kernel_rfl) (by kernel_rfl) (by kernel_rfl) (fun _ _ _ h => h) (Or.inl ⟨by rfl, ?hyaz24⟩) (by assumption) ?restaz24
      case hyaz24 => first | (intro w hSw; (try dsimp only at hSw); go_simp; done) | (intro w hSw; (try dsimp only at hSw); go_simp; with_reducible rfl)
      try simp only [Act.put, List.setIfInBounds_toArray, List.set_cons_zero, List.set_cons_succ]
      refine wpAnyH_take (i := 25) (oi := { dst := some 68, op := Op.move (Operand.tmp 67), type := 4, pos := "law.go:104", after := #[{ on := 24, ground := Ground.data }, { on := 23, ground := Ground.chain }, { on := 23, ground := Ground.guard }], guard := some (23, false) }) (v := ?vaz25) rfl (by kernel_rfl) (by kernel_rfl) (by kernel_rfl) (fun _ _ _ h => h) (Or.inl ⟨by rfl, ?hyaz25⟩) (by assumption) ?restaz25
      case hyaz25 => first | (intro w hSw; (try dsimp only at hSw); go_simp; done) | (intro w hSw; (try dsimp only at hSw); go_simp; with_reducible rfl)
      try simp only [Act.put, List.setIfInBounds_toArray, List.set_cons_zero, List.set_cons_succ]
      refine wpAnyH_take (i := 26) (oi := { dst := some 69, op := Op.move (Operand.tmp 14), type := 3, pos := "law.go:104", after := #[{ on := 25, ground := Ground.guard }], guard := some (25, true) }) (v := ?vaz26) rfl (by kernel_rfl) (by kernel_rfl) (by kernel_rfl) (fun _ _ _ h => h) (Or.inl ⟨by rfl, ?hyaz26⟩) (by assumption) ?restaz26
      case hyaz26 => first | (intro w hSw; (try dsimp only at hSw); go_simp; done) | (intro w hSw; (try dsimp only at hSw); go_simp; with_reducible rfl)
      try simp only [Act.put, List.setIfInBounds_toArray, List.set_cons_zero, List.set_cons_succ]
      refine wpAnyH_take (i := 27) (oi := { dst := some 70, op := Op.fieldAddr 66 (Operand.tmp 10) 2, type := 0, pos := "law.go:104", after := #[{ on := 25, ground := Ground.guard }], guard := some (25, true) }) (v := ?vaz27) rfl (by kernel_rfl) (by kernel_rfl) (by kernel_rfl) (fun _ _ _ h => h) (Or.inl ⟨by rfl, ?hyaz27⟩) (by assumption) ?restaz27
      case hyaz27 => first | (intro w hSw; (try dsimp only at hSw); go_simp; done) | (intro w hSw; (try dsimp only at hSw); go_simp; with_reducible rfl)
      try simp only [Act.put, List.setIfInBounds_toArray, List.set_cons_zero, List.set_cons_succ]
      refine wpAnyH_take (i := 28) (oi := { dst := some 71, op := Op.fieldAddr 64 (Operand.tmp 70) 1, type := 0, pos := "law.go:104", after := #[{ on := 27, ground := Ground.data }, { on := 25, ground := Ground.guard }], guard := some (25, true) }) (v := ?vaz28) rfl (by kernel_rfl) (by kernel_rfl) (by kernel_rfl) (fun _ _ _ h => h) (Or.inl ⟨by rfl, ?hyaz28⟩) (by assumption) ?restaz28
      case hyaz28 => first | (intro w hSw; (try dsimp only at hSw); go_simp; done) | (intro w hSw; (try dsimp only at hSw); go_simp; with_reducible rfl)
      try simp only [Act.put, List.setIfInBounds_toArray, List.set_cons_zero, List.set_cons_succ]
      refine wpAnyH_take (i := 29) (oi := { dst := some 72, op := Op.load 3 (Operand.tmp 71), type := 3, pos := "law.go:104", after := #[{ on := 28, ground := Ground.data }, { on := 25, ground := Ground.guard }], guard := some (25, true) }) (v := ?vaz29) rfl (by kernel_rfl) (by kernel_rfl) (by kernel_rfl) (fun _ _ _ h => h) (Or.inl ⟨by rfl, ?hyaz29⟩) (by assumption) ?restaz29
      case hyaz29 => first | (intro w hSw; (try dsimp only at hSw); go_simp; done) | (intro w hSw; (try dsimp only at hSw); go_simp; with_reducible rfl)
      try simp only [Act.put, List.setIfInBounds_toArray, List.set_cons_zero, List.set_cons_succ]
      refine wpAnyH_take (i := 30) (oi := { dst := some 73, op := Op.binOp BinOp.neq 3 (Operand.tmp 69) (Operand.tmp 72) 3, type := 4, pos := "law.go:104", after := #[{ on := 26, ground := Ground.data }, { on := 29, ground := Ground.data }, { on := 25, ground := Ground.guard }], guard := some (25, true) }) (v := ?vaz30) rfl (by kernel_rfl) (by kernel_rfl) (by kernel_rfl) (fun _ _ _ h => h) (Or.inl ⟨by rfl, ?hyaz30⟩) (by assumption) ?restaz30
      case hyaz30 => first | (intro w hSw; (try dsimp only at hSw); go_simp; done) | (intro w hSw; (try dsimp only at hSw); go_simp; with_reducible rfl)
      try simp only [Act.put, List.setIfInBounds_toArray, List.set_cons_zero, List.set_cons_succ]
      refine wpAnyH_take (i := 31) (oi := { dst := some 74, op := Op.pick (Operand.tmp 68) (Operand.tmp 73) (Operand.const (Value.bool false)), type := 4, pos := "law.go:104", after := #[{ on := 25, ground := Ground.data }, { on := 30, ground := Ground.data }, { on := 23, ground := Ground.guard }], guard := some (23, false) }) (v := ?vaz31) rfl (by kernel_rfl) (by kernel_rfl) (by kernel_rfl) (fun _ _ _ h => h) (Or.inl ⟨by rfl, ?hyaz31⟩) (by assumption) ?restaz31
      case hyaz31 => first | (intro w hSw; (try dsimp only at hSw); go_simp; done) | (intro w hSw; (try dsimp only at hSw); go_simp; with_reducible rfl)
      try simp only [Act.put, List.setIfInBounds_toArray, List.set_cons_zero, List.set_cons_succ]
      refine wpAnyH_take (i := 32) (oi := { dst := some 75, op := Op.pick (Operand.tmp 66) (Operand.const (Value.bool true)) (Operand.tmp 74), type := 4, pos := "law.go:104", after := #[{ on := 23, ground := Ground.data }, { on := 31, ground := Ground.data }], guard := none }) (v := ?vaz32) rfl (by kernel_rfl) (by kernel_rfl) (by kernel_rfl) (fun _ _ _ h => h) (Or.inl ⟨by rfl, ?hyaz32⟩) (by assumption) ?restaz32
      case hyaz32 => first | (intro w hSw; (try dsimp only at hSw); go_simp; done) | (intro w hSw; (try dsimp only at hSw); go_simp; with_reducible rfl)
      try simp only [Act.put, List.setIfInBounds_toArray, List.set_cons_zero, List.set_cons_succ]
      refine wpAnyH_done (by kernel_rfl) ?_ _
      have hb59 := via hb58 hb9
      clear h0' h5' h6' h7'
      have ⟨h0', h5', h6', h7'⟩ := HD.out w9 hb59
      have hlD9 := Nat.lt_of_lt_of_le hlD hb59.size
      go_wp2_with fail
      refine wp_region_held_drew (S := (fun W => W.cell? ⟨D, 5, none⟩ = some (.int .i64 e))) (by kernel_rfl) ?_ (fun hHeld => ?_)
      · exact h5'
      refine wpAnyH_take (i := 0) (oi := { dst := some 80, op := Op.move (Operand.tmp 12), type := 26, pos := "law.go:108", after := #[], guard := none }) (v := ?vbz0) rfl (by kernel_rfl) (by kernel_rfl) (by kernel_rfl) (fun _ _ _ h => h) (Or.inl ⟨by rfl, ?hybz0⟩) (by assumption) ?restbz0
      case hybz0 => first | (intro w hSw; (try dsimp only at hSw); go_simp; done) | (intro w hSw; (try dsimp only at hSw); go_simp; with_reducible rfl)
      try simp only [Act.put, List.setIfInBounds_toArray, List.set_cons_zero, List.set_cons_succ]
      refine wpAnyH_take (i := 1) (oi := { dst := some 81, op := Op.binOp BinOp.eql 26 (Operand.tmp 80) (Operand.const (Value.int IntKind.u64 0)) 26, type := 4, pos := "law.go:108", after := #[{ on := 0, ground := Ground.data }], guard := none }) (v := ?vbz1) rfl (by kernel_rfl) (by kernel_rfl) (by kernel_rfl) (fun _ _ _ h => h) (Or.inl ⟨by rfl, ?hybz1⟩) (by assumption) ?restbz1
      case hybz1 => first | (intro w hSw; (try dsimp only at hSw); go_simp; done) | (intro w hSw; (try dsimp only at hSw); go_simp; with_reducible rfl)
      try simp only [Act.put, List.setIfInBounds_toArray, List.set_cons_zero, List.set_cons_succ]
      refine wpAnyH_take (i := 2) (oi := { dst := some 82, op := Op.move (Operand.tmp 81), type := 4, pos := "law.go:108", after := #[{ on := 1, ground := Ground.data }], guard := none }) (v := ?vbz2) rfl (by kernel_rfl) (by kernel_rfl) (by kernel_rfl) (fun _ _ _ h => h) (Or.inl ⟨by rfl, ?hybz2⟩) (by assumption) ?restbz2
      case hybz2 => first | (intro w hSw; (try dsimp only at hSw); go_simp; done) | (intro w hSw; (try dsimp only at hSw); go_simp; with_reducible rfl)
      try simp only [Act.put, List.setIfInBounds_toArray, List.set_cons_zero, List.set_cons_succ]
      refine wpAnyH_take (i := 3) (oi := { dst := some 83, op := Op.move (Operand.tmp 13), type := 52, pos := "law.go:108", after := #[{ on := 2, ground := Ground.guard }], guard := some (2, true) }) (v := ?vbz3) rfl (by kernel_rfl) (by kernel_rfl) (by kernel_rfl) (fun _ _ _ h => h) (Or.inl ⟨by rfl, ?hybz3⟩) (by assumption) ?restbz3
      case hybz3 => first | (intro w hSw; (try dsimp only at hSw); go_simp; done) | (intro w hSw; (try dsimp only at hSw); go_simp; with_reducible rfl)
      try simp only [Act.put, List.setIfInBounds_toArray, List.set_cons_zero, List.set_cons_succ]
      refine wpAnyH_take (i := 5) (oi := { dst := some 85, op := Op.fieldAddr 66 (Operand.tmp 10) 2, type := 0, pos := "law.go:108", after := #[{ on := 2, ground := Ground.guard }], guard := some (2, true) }) (v := ?vbz5) rfl (by kernel_rfl) (by kernel_rfl) (by kernel_rfl) (fun _ _ _ h => h) (Or.inl ⟨by rfl, ?hybz5⟩) (by assumption) ?restbz5
      case hybz5 => first | (intro w hSw; (try dsimp only at hSw); go_simp; done) | (intro w hSw; (try dsimp only at hSw); go_simp; with_reducible rfl)
      try simp only [Act.put, List.setIfInBounds_toArray, List.set_cons_zero, List.set_cons_succ]
      refine wpAnyH_take (i := 6) (oi := { dst := some 86, op := Op.fieldAddr 64 (Operand.tmp 85) 0, type := 0, pos := "law.go:108", after := #[{ on := 5, ground := Ground.data }, { on := 2, ground := Ground.guard }], guard := some (2, true) }) (v := ?vbz6) rfl (by kernel_rfl) (by kernel_rfl) (by kernel_rfl) (fun _ _ _ h => h) (Or.inl ⟨by rfl, ?hybz6⟩) (by assumption) ?restbz6
      case hybz6 => first | (intro w hSw; (try dsimp only at hSw); go_simp; done) | (intro w hSw; (try dsimp only at hSw); go_simp; with_reducible rfl)
      try simp only [Act.put, List.setIfInBounds_toArray, List.set_cons_zero, List.set_cons_succ]
      refine wpAnyH_take (i := 7) (oi := { dst := some 87, op := Op.load 55 (Operand.tmp 86), type := 55, pos := "law.go:108", after := #[{ on := 6, ground := Ground.data }, { on := 2, ground := Ground.guard }], guard := some (2, true) }) (v := ?vbz7) rfl (by kernel_rfl) (by kernel_rfl) (by kernel_rfl) (fun _ _ _ h => h) (Or.inl ⟨by rfl, ?hybz7⟩) (by assumption) ?restbz7
      case hybz7 => first | (intro w hSw; (try dsimp only at hSw); go_simp; done) | (intro w hSw; (try dsimp only at hSw); go_simp; with_reducible rfl)
      try simp only [Act.put, List.setIfInBounds_toArray, List.set_cons_zero, List.set_cons_succ]
      refine wpAnyH_ready (rs := [4]) (by kernel_rfl) (by simp) ?_
      refine AllReadyH.cons (o := { dst := some 84, op := Op.call { callee := Callee.value (Operand.func 13), args := #[Operand.tmp 83], argTypes := #[52] }, type := 55, pos := "law.go:108", after := #[{ on := 3, ground := Ground.data }, { on := 2, ground := Ground.chain }, { on := 2, ground := Ground.guard }], guard := some (2, true) }) rfl (fun K hK => ?_) AllReadyH.nil
      go_simp
      ((refine (top_errW (hla.out _ ((via hb5 hb59).trans (below_drewN _ w9 1))) ((hfE.below (via hbw hb9)).below (below_drewN _ w9 1))).mono ?_); rintro rt w12 ⟨rfl, hb12'⟩)
      have hb12 := (below_drewN w9.heap.size w9 1).trans hb12'
      refine hK.out _ _ ?_ (fun hHeld => ?_)
      · exact (hb12.cell (p := ⟨D, 5, none⟩) hlD9).trans h5'
      clear hK K
      try simp only [Act.put, List.setIfInBounds_toArray, List.set_cons_zero, List.set_cons_succ]
      refine wpAnyH_take (i := 8) (oi := { dst := some 88, op := Op.binOp BinOp.eql 55 (Operand.tmp 84) (Operand.tmp 87) 55, type := 4, pos := "law.go:108", after := #[{ on := 4, ground := Ground.data }, { on := 7, ground := Ground.data }, { on := 2, ground := Ground.guard }], guard := some (2, true) }) (v := ?vbz8) rfl (by kernel_rfl) (by kernel_rfl) (by kernel_rfl) (fun _ _ _ h => h) (Or.inl ⟨by rfl, ?hybz8⟩) (by assumption) ?restbz8
      case hybz8 => first | (intro w hSw; (try dsimp only at hSw); go_simp; done) | (intro w hSw; (try dsimp only at hSw); go_simp; with_reducible rfl)
      try simp only [Act.put, List.setIfInBounds_toArray, List.set_cons_zero, List.set_cons_succ]
      refine wpAnyH_take (i := 9) (oi := { dst := some 89, op := Op.pick (Operand.tmp 82) (Operand.tmp 88) (Operand.const (Value.bool false)), type := 4, pos := "law.go:108", after := #[{ on := 2, ground := Ground.data }, { on := 8, ground := Ground.data }], guard := none }) (v := ?vbz9) rfl (by kernel_rfl) (by kernel_rfl) (by kernel_rfl) (fun _ _ _ h => h) (Or.inl ⟨by rfl, ?hybz9⟩) (by assumption) ?restbz9
      case hybz9 => first | (intro w hSw; (try dsimp only at hSw); go_simp; done) | (intro w hSw; (try dsimp only at hSw); go_simp; with_reducible rfl)
      try simp only [Act.put, List.setIfInBounds_toArray, List.set_cons_zero, List.set_cons_succ]
      refine wpAnyH_take (i := 10) (oi := { dst := some 6, op := Op.assign (Operand.tmp 89), type := 4, pos := "law.go:108", after := #[{ on := 9, ground := Ground.data }, { on := 4, ground := Ground.chain }, { on := 0, ground := Ground.phase }, { on := 1, ground := Ground.phase }, { on := 2, ground := Ground.phase }, { on := 3, ground := Ground.phase }, { on := 4, ground := Ground.phase }, { on := 5, ground := Ground.phase }, { on := 6, ground := Ground.phase }, { on := 7, ground := Ground.phase }, { on := 8, ground := Ground.phase }, { on := 9, ground := Ground.phase }], guard := none }) (v := ?vbz10) rfl (by kernel_rfl) (by kernel_rfl) (by kernel_rfl) (fun _ _ _ h => h) (Or.inl ⟨by rfl, ?hybz10⟩) (by assumption) ?restbz10
      case hybz10 => first | (intro w hSw; (try dsimp only at hSw); go_simp; done) | (intro w hSw; (try dsimp only at hSw); go_simp; with_reducible rfl)
      try simp only [Act.put, List.setIfInBounds_toArray, List.set_cons_zero, List.set_cons_succ]
      refine wpAnyH_done (by kernel_rfl) ?_ _
      go_wp2_with fail
      go_returns
      exact ⟨rfl, via hb5 (via hb59 hb12)⟩
end SLkDecs

end Go.Proofs.YtogaclolodlnbaaGreatDoor

