/- The document's get: a field of kind 4. -/
import Derived.Test.YtogaclolodlnbaaGreatDoorGs
set_option linter.unusedVariables false
set_option linter.unusedSimpArgs false
namespace Go.Proofs.YtogaclolodlnbaaGreatDoor
section SRGK4
open Go.RowKit

set_option maxRecDepth 100000 in
set_option maxHeartbeats 40000000 in
theorem rget_k4 (s : Schema) (hr : rightB s = true) (sa : Option Addr) (sn sc : Nat) (d left : Nat) (ihd : RGetIH s sa sn sc d (left - 1)) : ∀ (t : Nat) (v : St (d + 1)) (cs : List Value) (i : Nat) (rest : List Int) (b off m c : Nat) (w : World),
    Sch w (.slice sa sn sc) s → t < s.length → codeT s (d + 1) left t v = 0 → RdS (d + 1) w cs v → m = rest.length + 1 → Ints w (.slice (some ⟨b, off, none⟩) m c) ((i : Int) :: rest) → i < (Node.kids v).length → (fieldP s t i).1 = 4 →
    Calls Tryz.prog 49 #[.slice sa sn sc, .int .i64 t, .agg cs.toArray, .slice (some ⟨b, off, none⟩) m c] w (RGetR w (getT s (d + 1) t v ((i : Int) :: rest))) := by
  intro t v cs i rest b off m c w hs ht hc h hm hp hi hK
  have ih := hid ihd
  clear ihd
  have hlen := (code_struct hc).2.2.2.2.1
  have hf := (code_struct hc).2.2.2.2.2
  obtain ⟨a2, p2, a, cap, rfl, hbs, hn, hk, hnm, hkm⟩ := RdN.open h
  clear h hn hc
  obtain ⟨l, hl3⟩ := get_lt (l := s) (i := t) ht
  have hTl := typeL_at hl3
  obtain ⟨fk, hfk⟩ := get_lt (l := Node.kids v) (i := i) hi
  obtain ⟨hbF, hxF⟩ := hf i fk hfk
  obtain ⟨⟨kd, ty⟩, hpf⟩ := get_lt (l := l) (i := i) (by rw [← hTl, ← hlen]; exact hi)
  have hFp : fieldP s t i = (kd, ty) := fieldP_at (by rw [hTl]; exact hpf)
  obtain ⟨-, -, hty0, htyn, -⟩ := right_at hr hl3 hpf
  simp only at hty0 htyn
  obtain ⟨tn, rfl⟩ : ∃ tn : Nat, ty = (tn : Int) := ⟨ty.toNat, by omega⟩
  have htn : tn < s.length := by omega
  rw [hFp] at hK hbF hxF
  simp only at hK hbF hxF
  subst hK
  have Hg := hid (show getT s (d + 1) t v ((i : Int) :: rest) = getF s (fun x r => getT s d tn x r) 4 tn fk rest by
    rw [getT, List.headD_cons, if_neg (by omega), Int.toNat_natCast, hfk, hFp]; rfl)
  rw [Hg.out]
  obtain ⟨ml, hml⟩ : ∃ ml, ml = l.length := ⟨_, rfl⟩
  have him : i < ml := by rw [hml]; exact (List.getElem?_eq_some_iff.1 hpf).1
  obtain ⟨bs, offs, al, capl, rfl, hbs2, hcl, hfl, hlm, hlc, hcm⟩ := hs.at_ hl3
  rw [← hml] at hcl hlm hlc
  obtain ⟨bl, offl, rfl, hbbl, r0, r1⟩ := hfl.at_ hpf
  simp only at r0 r1
  unfold maxLen at hlm hcm
  obtain ⟨_, _, esn, esc, esm, esl⟩ := hs.shape
  simp only [Value.slice.injEq] at esn
  obtain ⟨rfl, hsn, rfl⟩ := esn
  unfold maxLen at esm esl
  rw [← hsn] at ht esc esl htn
  have Hsn := hid hsn
  have HxF := hid hxF
  clear hlen hf hTl hFp Hg hl3 hpf hfl hml htyn hty0 hsn hxF
  obtain ⟨N, hN⟩ : ∃ N, N = (Node.kids v).length := ⟨_, rfl⟩
  rw [← hN] at hk hkm hi ⊢
  clear hN
  obtain ⟨o2, ho2, htail⟩ := Ints.behind hp hm
  obtain ⟨c9, hc9⟩ : ∃ x, c - 1 = x := ⟨_, rfl⟩
  rw [hc9] at htail
  obtain ⟨n, hnl⟩ : ∃ n, n = rest.length := ⟨_, rfl⟩
  rw [← hnl] at hm htail
  have Hn := hid hnl
  clear hnl
  subst hm
  obtain ⟨b', off', c', e, h2, h3, h4, h5⟩ := Row.cons hp (by simp)
  have h6 := hp.most
  simp only [Value.slice.injEq, Option.some.injEq, Addr.mk.injEq] at e
  obtain ⟨⟨rfl, rfl, _⟩, em, rfl⟩ := e
  clear em
  have c0 : w.cell? ⟨b, off, none⟩ = some (.int .i64 i) := h5 0 (by simp)
  clear h5 hp
  obtain ⟨w1, hw1, hb1, hlt1, hbox⟩ := boxed w #[U (Node.num v), .string (Node.bytes v), .slice a2 (Node.nums v).length p2, .slice a N cap] 36
  have x3 : w1.cell? ⟨w.heap.size, 3, none⟩ = some (.slice a N cap) := hbox 3
  obtain ⟨w2, hw2, hb2, hlt2, g0, g1, gf⟩ := got_make w1 (.int .u64 0) (.int .i64 0) 72
  have hb12 := via hb1 hb2
  replace x3 := (hb2.cell hlt1).trans x3
  replace c0 := (hb12.cell h4).trans c0
  replace hcl := (hb12.cell hbs2).trans hcl
  replace r0 := (hb12.cell hbbl).trans r0
  replace r1 := (hb12.cell hbbl).trans r1
  have hs2 := hs.below hb12 (Nat.le_refl _)
  have ht2 := htail.below hb12 (Nat.le_refl _)
  obtain ⟨bf, of, a4, p4, a5, p5, rfl, hbb, q0, q1, q2, q3, hfb, hfn, hfkk, -, hfnn, hfm⟩ := Kids.at_ hk hfk
  replace q0 := (hb12.cell hbb).trans q0
  replace q1 := (hb12.cell hbb).trans q1
  replace q2 := (hb12.cell hbb).trans q2
  replace q3 := (hb12.cell hbb).trans q3
  replace hbb := Nat.lt_of_lt_of_le hbb hb12.size
  obtain ⟨M, hM⟩ : ∃ M, M = fk.kids.length := ⟨_, rfl⟩
  obtain ⟨R, hR⟩ : ∃ R, R = fk.nums.length := ⟨_, rfl⟩
  rw [← hM] at hfkk hfm q3
  rw [← hR] at hfnn q2
  have hfn' : Row w 1 (.slice a4 R p4) fk.nums.length (fk.nums.map U) := by rw [hR]; exact hfn
  have h4w := hid h4
  have HM := hid hM
  have HR := hid hR
  have h42 := Nat.lt_of_lt_of_le h4 hb12.size
  have hbs22 := Nat.lt_of_lt_of_le hbs2 hb12.size
  have hbbl2 := Nat.lt_of_lt_of_le hbbl hb12.size
  have hlt12 := Nat.lt_of_lt_of_le hlt1 hb2.size
  clear hM hR hfk hfn hk hbox hb1 hb2 h4 hbs2 hbbl
  have hn1 : (1 : Int) ≤ (n : Int) + 1 := by omega
  have hd : decide ((i : Int) < 0) = false := decide_eq_false (by omega)
  have hd2 : decide (N ≤ i) = false := decide_eq_false (by omega)
  go_enter Tryz.func49, Tryz.ntmps49
  go_wp2_with fail
  clear hw1 hw2
  go_quiet (fail)
  go_wp2_with fail
  have hzp : ∀ nq B j, B < w2.heap.size → ((w2.drewN nq).alloc (.cells #[.int .i64 0, .int .i64 0] 44)).cell? ⟨B, j, none⟩ = w2.cell? ⟨B, j, none⟩ := fun nq B j h => World.cell?_alloc_past _ _ _ h
  have z0 : ∀ nq, ((w2.drewN nq).alloc (.cells #[.int .i64 0, .int .i64 0] 44)).cell? ⟨w2.heap.size, 0, none⟩ = some (.int .i64 0) := fun nq => World.cell?_alloc_at _ _ _ _ rfl
  have z1 : ∀ nq, ((w2.drewN nq).alloc (.cells #[.int .i64 0, .int .i64 0] 44)).cell? ⟨w2.heap.size, 1, none⟩ = some (.int .i64 0) := fun nq => World.cell?_alloc_at _ _ _ _ rfl
  have zf : ∀ nq j, ((w2.drewN nq).alloc (.cells #[.int .i64 0, .int .i64 0] 44)).frozen? ⟨w2.heap.size, j, none⟩ = false := fun nq j => World.frozen?_alloc_at _ _ _ _ rfl
  have zc := fun nq => (hzp nq b off h42).trans c0
  have zs := fun nq => (hzp nq bs (offs + t) hbs22).trans hcl
  have zr0 := fun nq => (hzp nq bl (offl + i * 2) hbbl2).trans r0
  have zr1 := fun nq => (hzp nq bl (offl + i * 2 + 1) hbbl2).trans r1
  clear hzp
  go_region
  obtain ⟨W3, hW3, hbW3, ltW3, f0, f1⟩ := fld_copy w2 (nq + 1) (.int .i64 4) (.int .i64 (tn : Int))
  rw [hW3]
  clear zc zs zr0 zr1 z0 z1 zf hW3
  replace x3 := (hbW3.cell hlt12).trans x3
  replace c0 := (hbW3.cell h42).trans c0
  replace g0 := (hbW3.cell hlt2).trans g0
  replace g1 := (hbW3.cell hlt2).trans g1
  replace gf := fun j => (hbW3.frozen (p := ⟨w1.heap.size, j, none⟩) hlt2).trans (gf j)
  replace q0 := (hbW3.cell hbb).trans q0
  replace q1 := (hbW3.cell hbb).trans q1
  replace q2 := (hbW3.cell hbb).trans q2
  replace q3 := (hbW3.cell hbb).trans q3
  have h43 := Nat.lt_of_lt_of_le h42 hbW3.size
  have hbb3 := Nat.lt_of_lt_of_le hbb hbW3.size
  have hlt13 := Nat.lt_of_lt_of_le hlt12 hbW3.size
  have hlt23 := Nat.lt_of_lt_of_le hlt2 hbW3.size
  clear hcl r0 r1
  go_wp2_with fail
  have hzp : ∀ nq B j, B < W3.heap.size → ((W3.drewN nq).alloc (.cells #[.int .u64 0, .string { data := #[] }, .slice none 0 0, .slice none 0 0] 36)).cell? ⟨B, j, none⟩ = W3.cell? ⟨B, j, none⟩ := fun nq B j h => World.cell?_alloc_past _ _ _ h
  have z0 : ∀ nq, ((W3.drewN nq).alloc (.cells #[.int .u64 0, .string { data := #[] }, .slice none 0 0, .slice none 0 0] 36)).cell? ⟨W3.heap.size, 0, none⟩ = some (.int .u64 0) := fun nq => World.cell?_alloc_at _ _ _ _ rfl
  have z1 : ∀ nq, ((W3.drewN nq).alloc (.cells #[.int .u64 0, .string { data := #[] }, .slice none 0 0, .slice none 0 0] 36)).cell? ⟨W3.heap.size, 1, none⟩ = some (.string { data := #[] }) := fun nq => World.cell?_alloc_at _ _ _ _ rfl
  have z2 : ∀ nq, ((W3.drewN nq).alloc (.cells #[.int .u64 0, .string { data := #[] }, .slice none 0 0, .slice none 0 0] 36)).cell? ⟨W3.heap.size, 2, none⟩ = some (.slice none 0 0) := fun nq => World.cell?_alloc_at _ _ _ _ rfl
  have z3 : ∀ nq, ((W3.drewN nq).alloc (.cells #[.int .u64 0, .string { data := #[] }, .slice none 0 0, .slice none 0 0] 36)).cell? ⟨W3.heap.size, 3, none⟩ = some (.slice none 0 0) := fun nq => World.cell?_alloc_at _ _ _ _ rfl
  have zf : ∀ nq j, ((W3.drewN nq).alloc (.cells #[.int .u64 0, .string { data := #[] }, .slice none 0 0, .slice none 0 0] 36)).frozen? ⟨W3.heap.size, j, none⟩ = false := fun nq j => World.frozen?_alloc_at _ _ _ _ rfl
  have zc := fun nq => (hzp nq b off h43).trans c0
  have zq0 := fun nq => (hzp nq bf (of + i * 4) hbb3).trans q0
  have zq1 := fun nq => (hzp nq bf (of + i * 4 + 1) hbb3).trans q1
  have zq2 := fun nq => (hzp nq bf (of + i * 4 + 2) hbb3).trans q2
  have zq3 := fun nq => (hzp nq bf (of + i * 4 + 3) hbb3).trans q3
  have zx := fun nq => (hzp nq w.heap.size 3 hlt13).trans x3
  clear hzp
  go_region
  obtain ⟨W, hW, hbW, ltW, d0, d1, d2, d3⟩ := tree_new W3 (U fk.num) (.string fk.bytes) (.slice a4 R p4) (.slice a5 M p5)
  rw [hW]
  clear zc zq0 zq1 zq2 zq3 zx z0 z1 z2 z3 zf hW q0 q1 q2 q3 x3 c0
  replace f0 := (hbW.cell ltW3).trans f0
  replace f1 := (hbW.cell ltW3).trans f1
  replace g0 := (hbW.cell hlt23).trans g0
  replace g1 := (hbW.cell hlt23).trans g1
  replace gf := fun j => (hbW.frozen (p := ⟨w1.heap.size, j, none⟩) hlt23).trans (gf j)
  have hb2W := via hbW3 hbW
  have hB := hb12.trans (hb2W.mono hb12.size)
  have hG : w.heap.size ≤ w1.heap.size := Nat.le_of_lt hlt1
  have hp4 := ht2.below hb2W (Nat.le_refl _)
  have hn4 := hfn'.below hB (Nat.le_refl _)
  have hFG : w1.heap.size ≠ w2.heap.size := by omega
  have hDG : w1.heap.size ≠ W3.heap.size := by omega
  have hs4 := hs2.below hb2W (Nat.le_refl _)
  have ge0 := fun x' => got_set0 (x' := x') g0
  have ge1 := fun x' y' => (got_set (x' := x') (y' := y') g0 g1).2
  have gq0 := fun n x' => got_set0 (w := W.drewN n) (x' := x') g0
  have gq1 := fun n x' y' => (got_set (w := W.drewN n) (x' := x') (y' := y') g0 g1).2
  have HBG := hid fun (x' y' : Value) => show Below w.heap.size w ((W.setCell ⟨w1.heap.size, 0, none⟩ x').setCell ⟨w1.heap.size, 1, none⟩ y') from (hB.setCell (p := ⟨w1.heap.size, 0, none⟩) hG x').setCell (p := ⟨w1.heap.size, 1, none⟩) hG y'
  generalize w1.heap.size = G at *
  generalize w2.heap.size = F at *
  generalize W3.heap.size = D at d0 d1 d2 d3 hDG ⊢
  clear hbW hbW3 hlt12 hlt23 hlt13 hs2 ht2 hfn' hbb hbb3 h42 h43 hbs22 hbbl2 hb12 hb2W hlt1 hlt2
  cases rest with
  | nil =>
    obtain rfl : n = 0 := by rw [Hn.out]; rfl
    have Hv := hid (show getF s (fun x r => getT s d tn x r) 4 tn fk [] = (BitVec.ofNat 64 M, 0) by unfold getF; rw [if_neg (show ¬ ((4 : Int) = 1) by decide), if_neg (show ¬ ((4 : Int) = 2) by decide), if_neg (show ¬ ((4 : Int) = 3) by decide), if_pos rfl]; rw [HM.out]; simp [endV, pickV])
    have hU := hid (U_nat M (by omega))
    go_wp2_with fail
    (try simp only [Exit.inBlock, Exit.then])
    refine bodyPost_ret (by simp [results, Tryz.results49, go_sem, ge0, ge1, gq0, gq1]; try rfl) rfl ?_
    exact ⟨by rw [Hv.out, ← hU.out]; try rfl, HBG.out _ _⟩
  | cons p' r =>
    have hn0 : 0 < n := by rw [Hn.out]; simp
    have hnz : ((n : Int) == 0) = false := by rw [beq_eq_false_iff_ne]; omega
    by_cases hM : M = 0
    · have hM0 : fk.kids.length = 0 := by rw [← HM.out]; exact hM
      have hk0 : fk.kids[0]? = none := List.getElem?_eq_none (by omega)
      have Hv := hid (show getF s (fun x r => getT s d tn x r) 4 tn fk (p' :: r) = (0#64, 12) by unfold getF; rw [if_neg (show ¬ ((4 : Int) = 1) by decide), if_neg (show ¬ ((4 : Int) = 2) by decide), if_neg (show ¬ ((4 : Int) = 3) by decide), if_pos rfl]; rw [if_pos (by simp), hk0]; simp [endV, hM0])
      subst hM
      clear hM0 hk0
      go_wp2_with fail
      (try simp only [Exit.inBlock, Exit.then])
      refine bodyPost_ret (by simp [results, Tryz.results49, go_sem, ge0, ge1, gq0, gq1]; try rfl) rfl ?_
      exact ⟨by rw [Hv.out]; try rfl, HBG.out _ _⟩
    obtain ⟨x, hx⟩ := get_lt (l := fk.kids) (i := 0) (by rw [← HM.out]; omega)
    obtain ⟨b2, off2, xn, xb, e2, m2, t2, e3, m3, t3, rfl, hbb2, q0, q1, q2, q3, hrx⟩ := Kids.atS hfkk hx
    simp only [Nat.zero_mul, Nat.add_zero] at q0 q1 q2 q3
    replace q0 := (hB.cell hbb2).trans q0
    replace q1 := (hB.cell hbb2).trans q1
    replace q2 := (hB.cell hbb2).trans q2
    replace q3 := (hB.cell hbb2).trans q3
    have hGb2 : G ≠ b2 := by omega
    have hpos : 0 < M := by omega
    have hMz : ((M : Int) == 0) = false := by rw [beq_eq_false_iff_ne]; omega
    have hcx := HxF.out x (List.mem_of_getElem? hx)
    have hcall := fun W' (hW : Below w.heap.size w W') => ih.out tn x _ p' r b o2 n c9 W' (hs.below hW (Nat.le_refl _)) (by rw [← Hsn.out]; exact htn) hcx (hrx.below hW (Nat.le_refl _)) Hn.out (htail.below hW (Nat.le_refl _))
    have Hv := hid (show getF s (fun x r => getT s d tn x r) 4 tn fk (p' :: r) = getT s d (tn : Int) x (p' :: r) by unfold getF; rw [if_neg (show ¬ ((4 : Int) = 1) by decide), if_neg (show ¬ ((4 : Int) = 2) by decide), if_neg (show ¬ ((4 : Int) = 3) by decide), if_pos rfl]; rw [if_pos (by simp), hx])
    clear hx hrx hcx hM hp4 hs4
    go_wp2_with fail
    refine wp_region_held_drew (S := (fun W => W.cell? ⟨F, 1, none⟩ = some (.int .i64 (tn : Int)) ∧ W.cell? ⟨D, 3, none⟩ = some (.slice (some ⟨b2, off2, none⟩) M p5) ∧ W.cell? ⟨b2, off2, none⟩ = some (U xn) ∧ W.cell? ⟨b2, off2 + 1, none⟩ = some (.string xb) ∧ W.cell? ⟨b2, off2 + 2, none⟩ = some (.slice e2 m2 t2) ∧ W.cell? ⟨b2, off2 + 3, none⟩ = some (.slice e3 m3 t3) ∧ (∃ x, W.cell? ⟨G, 0, none⟩ = some x) ∧ (∃ y, W.cell? ⟨G, 1, none⟩ = some y) ∧ (∀ j, W.frozen? ⟨G, j, none⟩ = false) ∧ Below w.heap.size w W)) (by kernel_rfl) ?_ (fun hHeld => ?_)
    · exact ⟨f1, d3, q0, q1, q2, q3, ⟨_, g0⟩, ⟨_, g1⟩, gf, hB.trans (below_drewN _ W 1)⟩
    refine wpAnyH_take (i := 0) (oi := { dst := some 142, op := Op.move (Operand.tmp 0), type := 33, pos := "ref.go:149", after := #[], guard := none }) (v := ?vm0) rfl (by kernel_rfl) (by kernel_rfl) (by kernel_rfl) (fun _ _ _ h => h) (Or.inl ⟨by rfl, ?hym0⟩) (by assumption) ?restm0
    case hym0 => first | (intro w hSw; (try dsimp only at hSw); go_simp; done) | (intro w hSw; (try dsimp only at hSw); go_simp; with_reducible rfl)
    try simp only [Act.put, List.setIfInBounds_toArray, List.set_cons_zero, List.set_cons_succ]
    refine wpAnyH_take (i := 1) (oi := { dst := some 143, op := Op.fieldAddr 44 (Operand.tmp 9) 1, type := 0, pos := "ref.go:149", after := #[], guard := none }) (v := ?vm1) rfl (by kernel_rfl) (by kernel_rfl) (by kernel_rfl) (fun _ _ _ h => h) (Or.inl ⟨by rfl, ?hym1⟩) (by assumption) ?restm1
    case hym1 => first | (intro w hSw; (try dsimp only at hSw); go_simp; done) | (intro w hSw; (try dsimp only at hSw); go_simp; with_reducible rfl)
    try simp only [Act.put, List.setIfInBounds_toArray, List.set_cons_zero, List.set_cons_succ]
    refine wpAnyH_take (i := 2) (oi := { dst := some 144, op := Op.load 3 (Operand.tmp 143), type := 3, pos := "ref.go:149", after := #[{ on := 1, ground := Ground.data }], guard := none }) (v := ?vm2) rfl (by kernel_rfl) (by kernel_rfl) (by kernel_rfl) (fun _ _ _ h => h) (Or.inl ⟨by rfl, ?hym2⟩) (by assumption) ?restm2
    case hym2 => first | (intro w hSw; (try dsimp only at hSw); go_simp; done) | (intro w hSw; (try dsimp only at hSw); go_simp; with_reducible rfl)
    try simp only [Act.put, List.setIfInBounds_toArray, List.set_cons_zero, List.set_cons_succ]
    refine wpAnyH_take (i := 3) (oi := { dst := some 145, op := Op.fieldAddr 36 (Operand.tmp 10) 3, type := 0, pos := "ref.go:149", after := #[], guard := none }) (v := ?vm3) rfl (by kernel_rfl) (by kernel_rfl) (by kernel_rfl) (fun _ _ _ h => h) (Or.inl ⟨by rfl, ?hym3⟩) (by assumption) ?restm3
    case hym3 => first | (intro w hSw; (try dsimp only at hSw); go_simp; done) | (intro w hSw; (try dsimp only at hSw); go_simp; with_reducible rfl)
    try simp only [Act.put, List.setIfInBounds_toArray, List.set_cons_zero, List.set_cons_succ]
    refine wpAnyH_take (i := 4) (oi := { dst := some 146, op := Op.load 34 (Operand.tmp 145), type := 34, pos := "ref.go:149", after := #[{ on := 3, ground := Ground.data }], guard := none }) (v := ?vm4) rfl (by kernel_rfl) (by kernel_rfl) (by kernel_rfl) (fun _ _ _ h => h) (Or.inl ⟨by rfl, ?hym4⟩) (by assumption) ?restm4
    case hym4 => first | (intro w hSw; (try dsimp only at hSw); go_simp; done) | (intro w hSw; (try dsimp only at hSw); go_simp; with_reducible rfl)
    try simp only [Act.put, List.setIfInBounds_toArray, List.set_cons_zero, List.set_cons_succ]
    refine wpAnyH_take (i := 5) (oi := { dst := some 147, op := Op.indexAddr 34 (Operand.tmp 146) (Operand.const (Value.int IntKind.i64 0)), type := 0, pos := "ref.go:149", after := #[{ on := 4, ground := Ground.data }], guard := none }) (v := ?vm5) rfl (by kernel_rfl) (by kernel_rfl) (by kernel_rfl) (fun _ _ _ h => h) (Or.inl ⟨by rfl, ?hym5⟩) (by assumption) ?restm5
    case hym5 => first | (intro w hSw; (try dsimp only at hSw); go_simp; done) | (intro w hSw; (try dsimp only at hSw); go_simp; with_reducible rfl)
    try simp only [Act.put, List.setIfInBounds_toArray, List.set_cons_zero, List.set_cons_succ]
    refine wpAnyH_take (i := 6) (oi := { dst := some 148, op := Op.load 36 (Operand.tmp 147), type := 36, pos := "ref.go:149", after := #[{ on := 5, ground := Ground.data }], guard := none }) (v := ?vm6) rfl (by kernel_rfl) (by kernel_rfl) (by kernel_rfl) (fun _ _ _ h => h) (Or.inl ⟨by rfl, ?hym6⟩) (by assumption) ?restm6
    case hym6 => first | (intro w hSw; (try dsimp only at hSw); go_simp; done) | (intro w hSw; (try dsimp only at hSw); go_simp; with_reducible rfl)
    try simp only [Act.put, List.setIfInBounds_toArray, List.set_cons_zero, List.set_cons_succ]
    refine wpAnyH_take (i := 7) (oi := { dst := some 149, op := Op.move (Operand.tmp 11), type := 23, pos := "ref.go:149", after := #[], guard := none }) (v := ?vm7) rfl (by kernel_rfl) (by kernel_rfl) (by kernel_rfl) (fun _ _ _ h => h) (Or.inl ⟨by rfl, ?hym7⟩) (by assumption) ?restm7
    case hym7 => first | (intro w hSw; (try dsimp only at hSw); go_simp; done) | (intro w hSw; (try dsimp only at hSw); go_simp; with_reducible rfl)
    try simp only [Act.put, List.setIfInBounds_toArray, List.set_cons_zero, List.set_cons_succ]
    refine wpAnyH_ready (rs := [8]) (by kernel_rfl) (by simp) ?_
    refine AllReadyH.cons (o := { dst := some 150, op := Op.call { callee := Callee.value (Operand.func 49), args := #[Operand.tmp 142, Operand.tmp 144, Operand.tmp 148, Operand.tmp 149], argTypes := #[33, 3, 36, 23] }, type := 72, pos := "ref.go:149", after := #[{ on := 0, ground := Ground.data }, { on := 2, ground := Ground.data }, { on := 6, ground := Ground.data }, { on := 7, ground := Ground.data }], guard := none }) rfl (fun K hK => ?_) AllReadyH.nil
    go_simp
    ((refine (hcall _ (RecS.made hHeld)).mono ?_); rintro rm wm ⟨rfl, hbm⟩)
    refine hK.out _ _ ?_ (fun hHeld => ?_)
    · exact RecS.below hHeld hbm
    clear hK K
    try simp only [Act.put, List.setIfInBounds_toArray, List.set_cons_zero, List.set_cons_succ]
    refine wpAnyH_ready (rs := [9]) (by kernel_rfl) (by simp) ?_
    refine AllReadyH.cons (o := { dst := none, op := Op.store 72 (Operand.tmp 8) (Operand.tmp 150), type := 0, pos := "ref.go:149", after := #[{ on := 8, ground := Ground.data }, { on := 8, ground := Ground.chain }, { on := 0, ground := Ground.phase }, { on := 1, ground := Ground.phase }, { on := 2, ground := Ground.phase }, { on := 3, ground := Ground.phase }, { on := 4, ground := Ground.phase }, { on := 5, ground := Ground.phase }, { on := 6, ground := Ground.phase }, { on := 7, ground := Ground.phase }, { on := 8, ground := Ground.phase }], guard := none }) rfl (fun K hK => ?_) AllReadyH.nil
    obtain ⟨_, _, _, _, _, _, ⟨xm, hxm⟩, ⟨ym, hym⟩, hfm, -⟩ := id hHeld
    have zm := got_set (x' := U (getT s d (tn : Int) x (p' :: r)).1) (y' := .int .i64 (getT s d (tn : Int) x (p' :: r)).2) hxm hym
    go_simp
    refine hK.out _ _ ?_ (fun hHeld => ?_)
    · exact RecS.set hHeld hFG hDG hGb2 hG _ _
    clear hK K
    try simp only [Act.put, List.setIfInBounds_toArray, List.set_cons_zero, List.set_cons_succ]
    refine wpAnyH_done (by kernel_rfl) ?_ _
    have hfin := RecS.made hHeld
    have e0 := zm.1
    have e1 := zm.2
    go_wp2_with fail
    (try simp only [Exit.inBlock, Exit.then])
    refine bodyPost_ret (by simp [results, Tryz.results49, go_sem, e0, e1]; try rfl) rfl ?_
    exact ⟨by rw [Hv.out], hfin⟩
end SRGK4

end Go.Proofs.YtogaclolodlnbaaGreatDoor

