/- The document's get: what its parts share. -/
import Derived.Test.YtogaclolodlnbaaGreatDoorGt
import Derived.Test.YtogaclolodlnbaaGreatDoorGj
import Derived.Deep.RegionHeld3
set_option linter.unusedVariables false
set_option linter.unusedSimpArgs false
namespace Go.Proofs.YtogaclolodlnbaaGreatDoor
section SRGetA
open Go.RowKit

def RGetR (w : World) (x : BitVec 64 × Int) (e : Ending) (w' : World) : Prop := e = .returned (.agg #[U x.1, .int .i64 x.2]) ∧ Below w.heap.size w w'

/-- The contract of the document's get for right structs of St d. -/
def RGetIH (s : Schema) (sa : Option Addr) (sn sc : Nat) (d left : Nat) : Prop := ∀ (t : Nat) (v : St d) (cs : List Value) (p : Int) (rest : List Int) (b off m c : Nat) (w : World), Sch w (.slice sa sn sc) s → t < s.length → codeT s d left t v = 0 → RdS d w cs v →
    m = rest.length + 1 → Ints w (.slice (some ⟨b, off, none⟩) m c) (p :: rest) →
    Calls Tryz.prog 49 #[.slice sa sn sc, .int .i64 t, .agg cs.toArray, .slice (some ⟨b, off, none⟩) m c] w (RGetR w (getT s d t v (p :: rest)))

theorem got_make (w : World) (x y : Value) (T : TypeId) : ∃ w1, w.alloc (.cells #[x, y] T) = w1 ∧ Below w.heap.size w w1 ∧ w.heap.size < w1.heap.size ∧ w1.cell? ⟨w.heap.size, 0, none⟩ = some x ∧ w1.cell? ⟨w.heap.size, 1, none⟩ = some y ∧ ∀ j, w1.frozen? ⟨w.heap.size, j, none⟩ = false :=
  ⟨_, rfl, below_alloc _ _, by simp, World.cell?_alloc_at _ _ _ _ rfl, World.cell?_alloc_at _ _ _ _ rfl, fun j => World.frozen?_alloc_at _ _ _ _ rfl⟩
theorem got_set {w : World} {G : Nat} {x y x' y' : Value} (h0 : w.cell? ⟨G, 0, none⟩ = some x) (h1 : w.cell? ⟨G, 1, none⟩ = some y) :
    ((w.setCell ⟨G, 0, none⟩ x').setCell ⟨G, 1, none⟩ y').cell? ⟨G, 0, none⟩ = some x' ∧ ((w.setCell ⟨G, 0, none⟩ x').setCell ⟨G, 1, none⟩ y').cell? ⟨G, 1, none⟩ = some y' := by
  constructor <;> simp [go_sem, h0, h1]
/-- While the walk goes into a struct of the field. -/
def RecS (w : World) (G F D b2 o2 : Nat) (v1 v3 u0 u1 u2 u3 : Value) (W : World) : Prop := W.cell? ⟨F, 1, none⟩ = some v1 ∧ W.cell? ⟨D, 3, none⟩ = some v3 ∧ W.cell? ⟨b2, o2, none⟩ = some u0 ∧ W.cell? ⟨b2, o2 + 1, none⟩ = some u1 ∧ W.cell? ⟨b2, o2 + 2, none⟩ = some u2 ∧ W.cell? ⟨b2, o2 + 3, none⟩ = some u3 ∧
  (∃ x, W.cell? ⟨G, 0, none⟩ = some x) ∧ (∃ y, W.cell? ⟨G, 1, none⟩ = some y) ∧ (∀ j, W.frozen? ⟨G, j, none⟩ = false) ∧ Below w.heap.size w W
theorem frozen_below {W W' : World} {p : Addr} {v : Value} (hc : W.cell? p = some v) (h : W.frozen? p = false) (hb : Below W.heap.size W W') : W'.frozen? p = false := (hb.frozen (World.block_lt_of_cell? W p hc)).trans h
theorem RecS.below {w : World} {G F D b2 o2 : Nat} {v1 v3 u0 u1 u2 u3 : Value} {W W' : World} (h : RecS w G F D b2 o2 v1 v3 u0 u1 u2 u3 W) (hb : Below W.heap.size W W') : RecS w G F D b2 o2 v1 v3 u0 u1 u2 u3 W' := by
  obtain ⟨h1, h2, h3, h4, h5, h6, ⟨x, hx⟩, ⟨y, hy⟩, hf, hB⟩ := h
  refine ⟨cell_below h1 hb, cell_below h2 hb, cell_below h3 hb, cell_below h4 hb, cell_below h5 hb, cell_below h6 hb, ⟨x, cell_below hx hb⟩, ⟨y, cell_below hy hb⟩, fun j => ?_, hB.trans (hb.mono hB.size)⟩
  exact (hb.frozen (p := ⟨G, j, none⟩) (World.block_lt_of_cell? W ⟨G, 0, none⟩ hx)).trans (hf j)
theorem RecS.set {w : World} {G F D b2 o2 : Nat} {v1 v3 u0 u1 u2 u3 : Value} {W : World} (h : RecS w G F D b2 o2 v1 v3 u0 u1 u2 u3 W) (h1 : G ≠ F) (h2 : G ≠ D) (h3 : G ≠ b2) (hG : w.heap.size ≤ G) (x y : Value) : RecS w G F D b2 o2 v1 v3 u0 u1 u2 u3 ((W.setCell ⟨G, 0, none⟩ x).setCell ⟨G, 1, none⟩ y) := by
  obtain ⟨g1, g2, g3, g4, g5, g6, ⟨x', hx⟩, ⟨y', hy⟩, hf, hB⟩ := h
  have e : ∀ B j, G ≠ B → ((W.setCell ⟨G, 0, none⟩ x).setCell ⟨G, 1, none⟩ y).cell? ⟨B, j, none⟩ = W.cell? ⟨B, j, none⟩ := fun B j hne => by
    rw [World.cell?_setCell_other _ _ _ _ (by simp [hne]), World.cell?_setCell_other _ _ _ _ (by simp [hne])]
  have k := got_set (x' := x) (y' := y) hx hy
  exact ⟨(e _ _ h1).trans g1, (e _ _ h2).trans g2, (e _ _ h3).trans g3, (e _ _ h3).trans g4, (e _ _ h3).trans g5, (e _ _ h3).trans g6, ⟨_, k.1⟩, ⟨_, k.2⟩, fun j => by rw [World.frozen?_setCell, World.frozen?_setCell]; exact hf j, (hB.setCell (p := ⟨G, 0, none⟩) hG x).setCell (p := ⟨G, 1, none⟩) hG y⟩
theorem RecS.made {w : World} {G F D b2 o2 : Nat} {v1 v3 u0 u1 u2 u3 : Value} {W : World} (h : RecS w G F D b2 o2 v1 v3 u0 u1 u2 u3 W) : Below w.heap.size w W := h.2.2.2.2.2.2.2.2.2
theorem got_set0 {w : World} {G : Nat} {x x' : Value} (h0 : w.cell? ⟨G, 0, none⟩ = some x) : (w.setCell ⟨G, 0, none⟩ x').cell? ⟨G, 0, none⟩ = some x' := by simp [go_sem, h0]
theorem below_q {w W : World} {G : Nat} {n : Nat} {x y : Value} (h : ∀ x' y' : Value, Below w.heap.size w ((W.setCell ⟨G, 0, none⟩ x').setCell ⟨G, 1, none⟩ y')) : Below w.heap.size w (((W.drewN n).setCell ⟨G, 0, none⟩ x).setCell ⟨G, 1, none⟩ y) := ⟨(h x y).os, (h x y).tape, (h x y).output, (h x y).size, (h x y).block⟩
/-- A field laid anew, cell by cell. -/
theorem fld_copy (w : World) (m : Nat) (c0 c1 : Value) : ∃ W, ((((w.drewN m).alloc (.cells #[.int .i64 0, .int .i64 0] 44)).setCell ⟨w.heap.size, 0, none⟩ c0).setCell ⟨w.heap.size, 1, none⟩ c1) = W ∧
    Below w.heap.size w W ∧ w.heap.size < W.heap.size ∧ W.cell? ⟨w.heap.size, 0, none⟩ = some c0 ∧ W.cell? ⟨w.heap.size, 1, none⟩ = some c1 := by
  have z0 : ((w.drewN m).alloc (.cells #[.int .i64 0, .int .i64 0] 44)).cell? ⟨w.heap.size, 0, none⟩ = some (.int .i64 0) := World.cell?_alloc_at _ _ _ _ rfl
  have z1 : ((w.drewN m).alloc (.cells #[.int .i64 0, .int .i64 0] 44)).cell? ⟨w.heap.size, 1, none⟩ = some (.int .i64 0) := World.cell?_alloc_at _ _ _ _ rfl
  refine ⟨_, rfl, ?_, ?_, ?_, ?_⟩
  · exact (((below_drewN _ w m).alloc (Nat.le_refl _) _).setCell (Nat.le_refl _) _).setCell (Nat.le_refl _) _
  · simp
  all_goals simp [go_sem, z0, z1]
theorem tree_new (w : World) (c0 c1 c2 c3 : Value) : ∃ W, (w.alloc (.cells #[c0, c1, c2, c3] 36)).drew = W ∧ Below w.heap.size w W ∧ w.heap.size < W.heap.size ∧ W.cell? ⟨w.heap.size, 0, none⟩ = some c0 ∧ W.cell? ⟨w.heap.size, 1, none⟩ = some c1 ∧ W.cell? ⟨w.heap.size, 2, none⟩ = some c2 ∧ W.cell? ⟨w.heap.size, 3, none⟩ = some c3 := by
  refine ⟨_, rfl, (below_alloc _ _).trans (below_drewN _ _ 1), by show _ < (w.alloc _).heap.size; simp, ?_, ?_, ?_, ?_⟩
  all_goals exact World.cell?_alloc_at (w := w) _ _ _ _ rfl
end SRGetA

section SRGK1
open Go.RowKit

set_option maxRecDepth 100000 in
set_option maxHeartbeats 40000000 in
theorem rget_k1 (s : Schema) (hr : rightB s = true) (sa : Option Addr) (sn sc : Nat) (d left : Nat) (ihd : RGetIH s sa sn sc d (left - 1)) : ∀ (t : Nat) (v : St (d + 1)) (cs : List Value) (i : Nat) (rest : List Int) (b off m c : Nat) (w : World),
    Sch w (.slice sa sn sc) s → t < s.length → codeT s (d + 1) left t v = 0 → RdS (d + 1) w cs v → m = rest.length + 1 → Ints w (.slice (some ⟨b, off, none⟩) m c) ((i : Int) :: rest) → i < (Node.kids v).length → (fieldP s t i).1 = 1 →
    Calls Tryz.prog 49 #[.slice sa sn sc, .int .i64 t, .agg cs.toArray, .slice (some ⟨b, off, none⟩) m c] w (RGetR w (getT s (d + 1) t v ((i : Int) :: rest))) := by
  intro t v cs i rest b off m c w hs ht hc h hm hp hi hK
  have ih := hid ihd
  clear ihd
  have hlen := (code_struct hc).2.2.2.2.1
  have hf := (code_struct hc).2.2.2.2.2
  obtain ⟨a2, p2, a, cap, rfl, hbs, hn, hk, hnm, hkm⟩ := RdN.open h
  clear h hn hc
  obtain ⟨l, hl3⟩ := get_lt (l := s) (i := t) ht
  have hTl := typeL_at hl3
  obtain ⟨fk, hfk⟩ := get_lt (l := Node.kids v) (i := i) hi
  obtain ⟨hbF, hxF⟩ := hf i fk hfk
  obtain ⟨⟨kd, ty⟩, hpf⟩ := get_lt (l := l) (i := i) (by rw [← hTl, ← hlen]; exact hi)
  have hFp : fieldP s t i = (kd, ty) := fieldP_at (by rw [hTl]; exact hpf)
  obtain ⟨-, -, hty0, htyn, -⟩ := right_at hr hl3 hpf
  simp only at hty0 htyn
  obtain ⟨tn, rfl⟩ : ∃ tn : Nat, ty = (tn : Int) := ⟨ty.toNat, by omega⟩
  have htn : tn < s.length := by omega
  rw [hFp] at hK hbF hxF
  simp only at hK hbF hxF
  subst hK
  have Hg := hid (show getT s (d + 1) t v ((i : Int) :: rest) = getF s (fun x r => getT s d tn x r) 1 tn fk rest by
    rw [getT, List.headD_cons, if_neg (by omega), Int.toNat_natCast, hfk, hFp]; rfl)
  rw [Hg.out]
  obtain ⟨ml, hml⟩ : ∃ ml, ml = l.length := ⟨_, rfl⟩
  have him : i < ml := by rw [hml]; exact (List.getElem?_eq_some_iff.1 hpf).1
  obtain ⟨bs, offs, al, capl, rfl, hbs2, hcl, hfl, hlm, hlc, hcm⟩ := hs.at_ hl3
  rw [← hml] at hcl hlm hlc
  obtain ⟨bl, offl, rfl, hbbl, r0, r1⟩ := hfl.at_ hpf
  simp only at r0 r1
  unfold maxLen at hlm hcm
  obtain ⟨_, _, esn, esc, esm, esl⟩ := hs.shape
  simp only [Value.slice.injEq] at esn
  obtain ⟨rfl, hsn, rfl⟩ := esn
  unfold maxLen at esm esl
  rw [← hsn] at ht esc esl htn
  have Hsn := hid hsn
  have HxF := hid hxF
  clear hlen hf hTl hFp Hg hl3 hpf hfl hml htyn hty0 hsn hxF
  obtain ⟨N, hN⟩ : ∃ N, N = (Node.kids v).length := ⟨_, rfl⟩
  rw [← hN] at hk hkm hi ⊢
  clear hN
  obtain ⟨o2, ho2, htail⟩ := Ints.behind hp hm
  obtain ⟨c9, hc9⟩ : ∃ x, c - 1 = x := ⟨_, rfl⟩
  rw [hc9] at htail
  obtain ⟨n, hnl⟩ : ∃ n, n = rest.length := ⟨_, rfl⟩
  rw [← hnl] at hm htail
  have Hn := hid hnl
  clear hnl
  subst hm
  obtain ⟨b', off', c', e, h2, h3, h4, h5⟩ := Row.cons hp (by simp)
  have h6 := hp.most
  simp only [Value.slice.injEq, Option.some.injEq, Addr.mk.injEq] at e
  obtain ⟨⟨rfl, rfl, _⟩, em, rfl⟩ := e
  clear em
  have c0 : w.cell? ⟨b, off, none⟩ = some (.int .i64 i) := h5 0 (by simp)
  clear h5 hp
  obtain ⟨w1, hw1, hb1, hlt1, hbox⟩ := boxed w #[U (Node.num v), .string (Node.bytes v), .slice a2 (Node.nums v).length p2, .slice a N cap] 36
  have x3 : w1.cell? ⟨w.heap.size, 3, none⟩ = some (.slice a N cap) := hbox 3
  obtain ⟨w2, hw2, hb2, hlt2, g0, g1, gf⟩ := got_make w1 (.int .u64 0) (.int .i64 0) 72
  have hb12 := via hb1 hb2
  replace x3 := (hb2.cell hlt1).trans x3
  replace c0 := (hb12.cell h4).trans c0
  replace hcl := (hb12.cell hbs2).trans hcl
  replace r0 := (hb12.cell hbbl).trans r0
  replace r1 := (hb12.cell hbbl).trans r1
  have hs2 := hs.below hb12 (Nat.le_refl _)
  have ht2 := htail.below hb12 (Nat.le_refl _)
  obtain ⟨bf, of, a4, p4, a5, p5, rfl, hbb, q0, q1, q2, q3, hfb, hfn, hfkk, -, hfnn, hfm⟩ := Kids.at_ hk hfk
  replace q0 := (hb12.cell hbb).trans q0
  replace q1 := (hb12.cell hbb).trans q1
  replace q2 := (hb12.cell hbb).trans q2
  replace q3 := (hb12.cell hbb).trans q3
  replace hbb := Nat.lt_of_lt_of_le hbb hb12.size
  obtain ⟨M, hM⟩ : ∃ M, M = fk.kids.length := ⟨_, rfl⟩
  obtain ⟨R, hR⟩ : ∃ R, R = fk.nums.length := ⟨_, rfl⟩
  rw [← hM] at hfkk hfm q3
  rw [← hR] at hfnn q2
  have hfn' : Row w 1 (.slice a4 R p4) fk.nums.length (fk.nums.map U) := by rw [hR]; exact hfn
  have h4w := hid h4
  have HM := hid hM
  have HR := hid hR
  have h42 := Nat.lt_of_lt_of_le h4 hb12.size
  have hbs22 := Nat.lt_of_lt_of_le hbs2 hb12.size
  have hbbl2 := Nat.lt_of_lt_of_le hbbl hb12.size
  have hlt12 := Nat.lt_of_lt_of_le hlt1 hb2.size
  clear hM hR hfk hfn hk hbox hb1 hb2 h4 hbs2 hbbl
  have hn1 : (1 : Int) ≤ (n : Int) + 1 := by omega
  have hd : decide ((i : Int) < 0) = false := decide_eq_false (by omega)
  have hd2 : decide (N ≤ i) = false := decide_eq_false (by omega)
  go_enter Tryz.func49, Tryz.ntmps49
  go_wp2_with fail
  clear hw1 hw2
  go_quiet (fail)
  go_wp2_with fail
  have hzp : ∀ nq B j, B < w2.heap.size → ((w2.drewN nq).alloc (.cells #[.int .i64 0, .int .i64 0] 44)).cell? ⟨B, j, none⟩ = w2.cell? ⟨B, j, none⟩ := fun nq B j h => World.cell?_alloc_past _ _ _ h
  have z0 : ∀ nq, ((w2.drewN nq).alloc (.cells #[.int .i64 0, .int .i64 0] 44)).cell? ⟨w2.heap.size, 0, none⟩ = some (.int .i64 0) := fun nq => World.cell?_alloc_at _ _ _ _ rfl
  have z1 : ∀ nq, ((w2.drewN nq).alloc (.cells #[.int .i64 0, .int .i64 0] 44)).cell? ⟨w2.heap.size, 1, none⟩ = some (.int .i64 0) := fun nq => World.cell?_alloc_at _ _ _ _ rfl
  have zf : ∀ nq j, ((w2.drewN nq).alloc (.cells #[.int .i64 0, .int .i64 0] 44)).frozen? ⟨w2.heap.size, j, none⟩ = false := fun nq j => World.frozen?_alloc_at _ _ _ _ rfl
  have zc := fun nq => (hzp nq b off h42).trans c0
  have zs := fun nq => (hzp nq bs (offs + t) hbs22).trans hcl
  have zr0 := fun nq => (hzp nq bl (offl + i * 2) hbbl2).trans r0
  have zr1 := fun nq => (hzp nq bl (offl + i * 2 + 1) hbbl2).trans r1
  clear hzp
  go_region
  obtain ⟨W3, hW3, hbW3, ltW3, f0, f1⟩ := fld_copy w2 (nq + 1) (.int .i64 1) (.int .i64 (tn : Int))
  rw [hW3]
  clear zc zs zr0 zr1 z0 z1 zf hW3
  replace x3 := (hbW3.cell hlt12).trans x3
  replace c0 := (hbW3.cell h42).trans c0
  replace g0 := (hbW3.cell hlt2).trans g0
  replace g1 := (hbW3.cell hlt2).trans g1
  replace gf := fun j => (hbW3.frozen (p := ⟨w1.heap.size, j, none⟩) hlt2).trans (gf j)
  replace q0 := (hbW3.cell hbb).trans q0
  replace q1 := (hbW3.cell hbb).trans q1
  replace q2 := (hbW3.cell hbb).trans q2
  replace q3 := (hbW3.cell hbb).trans q3
  have h43 := Nat.lt_of_lt_of_le h42 hbW3.size
  have hbb3 := Nat.lt_of_lt_of_le hbb hbW3.size
  have hlt13 := Nat.lt_of_lt_of_le hlt12 hbW3.size
  have hlt23 := Nat.lt_of_lt_of_le hlt2 hbW3.size
  clear hcl r0 r1
  go_wp2_with fail
  have hzp : ∀ nq B j, B < W3.heap.size → ((W3.drewN nq).alloc (.cells #[.int .u64 0, .string { data := #[] }, .slice none 0 0, .slice none 0 0] 36)).cell? ⟨B, j, none⟩ = W3.cell? ⟨B, j, none⟩ := fun nq B j h => World.cell?_alloc_past _ _ _ h
  have z0 : ∀ nq, ((W3.drewN nq).alloc (.cells #[.int .u64 0, .string { data := #[] }, .slice none 0 0, .slice none 0 0] 36)).cell? ⟨W3.heap.size, 0, none⟩ = some (.int .u64 0) := fun nq => World.cell?_alloc_at _ _ _ _ rfl
  have z1 : ∀ nq, ((W3.drewN nq).alloc (.cells #[.int .u64 0, .string { data := #[] }, .slice none 0 0, .slice none 0 0] 36)).cell? ⟨W3.heap.size, 1, none⟩ = some (.string { data := #[] }) := fun nq => World.cell?_alloc_at _ _ _ _ rfl
  have z2 : ∀ nq, ((W3.drewN nq).alloc (.cells #[.int .u64 0, .string { data := #[] }, .slice none 0 0, .slice none 0 0] 36)).cell? ⟨W3.heap.size, 2, none⟩ = some (.slice none 0 0) := fun nq => World.cell?_alloc_at _ _ _ _ rfl
  have z3 : ∀ nq, ((W3.drewN nq).alloc (.cells #[.int .u64 0, .string { data := #[] }, .slice none 0 0, .slice none 0 0] 36)).cell? ⟨W3.heap.size, 3, none⟩ = some (.slice none 0 0) := fun nq => World.cell?_alloc_at _ _ _ _ rfl
  have zf : ∀ nq j, ((W3.drewN nq).alloc (.cells #[.int .u64 0, .string { data := #[] }, .slice none 0 0, .slice none 0 0] 36)).frozen? ⟨W3.heap.size, j, none⟩ = false := fun nq j => World.frozen?_alloc_at _ _ _ _ rfl
  have zc := fun nq => (hzp nq b off h43).trans c0
  have zq0 := fun nq => (hzp nq bf (of + i * 4) hbb3).trans q0
  have zq1 := fun nq => (hzp nq bf (of + i * 4 + 1) hbb3).trans q1
  have zq2 := fun nq => (hzp nq bf (of + i * 4 + 2) hbb3).trans q2
  have zq3 := fun nq => (hzp nq bf (of + i * 4 + 3) hbb3).trans q3
  have zx := fun nq => (hzp nq w.heap.size 3 hlt13).trans x3
  clear hzp
  go_region
  obtain ⟨W, hW, hbW, ltW, d0, d1, d2, d3⟩ := tree_new W3 (U fk.num) (.string fk.bytes) (.slice a4 R p4) (.slice a5 M p5)
  rw [hW]
  clear zc zq0 zq1 zq2 zq3 zx z0 z1 z2 z3 zf hW q0 q1 q2 q3 x3 c0
  replace f0 := (hbW.cell ltW3).trans f0
  replace f1 := (hbW.cell ltW3).trans f1
  replace g0 := (hbW.cell hlt23).trans g0
  replace g1 := (hbW.cell hlt23).trans g1
  replace gf := fun j => (hbW.frozen (p := ⟨w1.heap.size, j, none⟩) hlt23).trans (gf j)
  have hb2W := via hbW3 hbW
  have hB := hb12.trans (hb2W.mono hb12.size)
  have hG : w.heap.size ≤ w1.heap.size := Nat.le_of_lt hlt1
  have hp4 := ht2.below hb2W (Nat.le_refl _)
  have hn4 := hfn'.below hB (Nat.le_refl _)
  have hFG : w1.heap.size ≠ w2.heap.size := by omega
  have hDG : w1.heap.size ≠ W3.heap.size := by omega
  have hs4 := hs2.below hb2W (Nat.le_refl _)
  have ge0 := fun x' => got_set0 (x' := x') g0
  have ge1 := fun x' y' => (got_set (x' := x') (y' := y') g0 g1).2
  have gq0 := fun n x' => got_set0 (w := W.drewN n) (x' := x') g0
  have gq1 := fun n x' y' => (got_set (w := W.drewN n) (x' := x') (y' := y') g0 g1).2
  have HBG := hid fun (x' y' : Value) => show Below w.heap.size w ((W.setCell ⟨w1.heap.size, 0, none⟩ x').setCell ⟨w1.heap.size, 1, none⟩ y') from (hB.setCell (p := ⟨w1.heap.size, 0, none⟩) hG x').setCell (p := ⟨w1.heap.size, 1, none⟩) hG y'
  generalize w1.heap.size = G at *
  generalize w2.heap.size = F at *
  generalize W3.heap.size = D at d0 d1 d2 d3 hDG ⊢
  clear hbW hbW3 hlt12 hlt23 hlt13 hs2 ht2 hfn' hbb hbb3 h42 h43 hbs22 hbbl2 hb12 hb2W hlt1 hlt2
  by_cases hr : rest = []
  · obtain rfl : n = 0 := by rw [Hn.out, hr]; rfl
    have Hv := hid (show getF s (fun x r => getT s d tn x r) 1 tn fk rest = (fk.num, 0) by unfold getF; rw [if_pos rfl]; rw [if_pos hr])
    clear hr
    go_wp2_with fail
    (try simp only [Exit.inBlock, Exit.then])
    refine bodyPost_ret (by simp [results, Tryz.results49, go_sem, ge0, ge1, gq0, gq1]; try rfl) rfl ?_
    exact ⟨by rw [Hv.out]; try rfl, HBG.out _ _⟩
  · have hn0 : 0 < n := by rw [Hn.out]; exact List.length_pos_iff.2 hr
    have hnd : decide ((0 : Int) < (n : Int)) = true := decide_eq_true (by omega)
    have Hv := hid (show getF s (fun x r => getT s d tn x r) 1 tn fk rest = (0#64, 24) by unfold getF; rw [if_pos rfl]; rw [if_neg hr])
    clear hr
    go_wp2_with fail
    (try simp only [Exit.inBlock, Exit.then])
    refine bodyPost_ret (by simp [results, Tryz.results49, go_sem, ge0, ge1, gq0, gq1]; try rfl) rfl ?_
    exact ⟨by rw [Hv.out]; try rfl, HBG.out _ _⟩
end SRGK1

section SRGK2
open Go.RowKit

set_option maxRecDepth 100000 in
set_option maxHeartbeats 40000000 in
theorem rget_k2 (s : Schema) (hr : rightB s = true) (sa : Option Addr) (sn sc : Nat) (d left : Nat) (ihd : RGetIH s sa sn sc d (left - 1)) : ∀ (t : Nat) (v : St (d + 1)) (cs : List Value) (i : Nat) (rest : List Int) (b off m c : Nat) (w : World),
    Sch w (.slice sa sn sc) s → t < s.length → codeT s (d + 1) left t v = 0 → RdS (d + 1) w cs v → m = rest.length + 1 → Ints w (.slice (some ⟨b, off, none⟩) m c) ((i : Int) :: rest) → i < (Node.kids v).length → (fieldP s t i).1 = 2 →
    Calls Tryz.prog 49 #[.slice sa sn sc, .int .i64 t, .agg cs.toArray, .slice (some ⟨b, off, none⟩) m c] w (RGetR w (getT s (d + 1) t v ((i : Int) :: rest))) := by
  intro t v cs i rest b off m c w hs ht hc h hm hp hi hK
  have ih := hid ihd
  clear ihd
  have hlen := (code_struct hc).2.2.2.2.1
  have hf := (code_struct hc).2.2.2.2.2
  obtain ⟨a2, p2, a, cap, rfl, hbs, hn, hk, hnm, hkm⟩ := RdN.open h
  clear h hn hc
  obtain ⟨l, hl3⟩ := get_lt (l := s) (i := t) ht
  have hTl := typeL_at hl3
  obtain ⟨fk, hfk⟩ := get_lt (l := Node.kids v) (i := i) hi
  obtain ⟨hbF, hxF⟩ := hf i fk hfk
  obtain ⟨⟨kd, ty⟩, hpf⟩ := get_lt (l := l) (i := i) (by rw [← hTl, ← hlen]; exact hi)
  have hFp : fieldP s t i = (kd, ty) := fieldP_at (by rw [hTl]; exact hpf)
  obtain ⟨-, -, hty0, htyn, -⟩ := right_at hr hl3 hpf
  simp only at hty0 htyn
  obtain ⟨tn, rfl⟩ : ∃ tn : Nat, ty = (tn : Int) := ⟨ty.toNat, by omega⟩
  have htn : tn < s.length := by omega
  rw [hFp] at hK hbF hxF
  simp only at hK hbF hxF
  subst hK
  have Hg := hid (show getT s (d + 1) t v ((i : Int) :: rest) = getF s (fun x r => getT s d tn x r) 2 tn fk rest by
    rw [getT, List.headD_cons, if_neg (by omega), Int.toNat_natCast, hfk, hFp]; rfl)
  rw [Hg.out]
  obtain ⟨ml, hml⟩ : ∃ ml, ml = l.length := ⟨_, rfl⟩
  have him : i < ml := by rw [hml]; exact (List.getElem?_eq_some_iff.1 hpf).1
  obtain ⟨bs, offs, al, capl, rfl, hbs2, hcl, hfl, hlm, hlc, hcm⟩ := hs.at_ hl3
  rw [← hml] at hcl hlm hlc
  obtain ⟨bl, offl, rfl, hbbl, r0, r1⟩ := hfl.at_ hpf
  simp only at r0 r1
  unfold maxLen at hlm hcm
  obtain ⟨_, _, esn, esc, esm, esl⟩ := hs.shape
  simp only [Value.slice.injEq] at esn
  obtain ⟨rfl, hsn, rfl⟩ := esn
  unfold maxLen at esm esl
  rw [← hsn] at ht esc esl htn
  have Hsn := hid hsn
  have HxF := hid hxF
  clear hlen hf hTl hFp Hg hl3 hpf hfl hml htyn hty0 hsn hxF
  obtain ⟨N, hN⟩ : ∃ N, N = (Node.kids v).length := ⟨_, rfl⟩
  rw [← hN] at hk hkm hi ⊢
  clear hN
  obtain ⟨o2, ho2, htail⟩ := Ints.behind hp hm
  obtain ⟨c9, hc9⟩ : ∃ x, c - 1 = x := ⟨_, rfl⟩
  rw [hc9] at htail
  obtain ⟨n, hnl⟩ : ∃ n, n = rest.length := ⟨_, rfl⟩
  rw [← hnl] at hm htail
  have Hn := hid hnl
  clear hnl
  subst hm
  obtain ⟨b', off', c', e, h2, h3, h4, h5⟩ := Row.cons hp (by simp)
  have h6 := hp.most
  simp only [Value.slice.injEq, Option.some.injEq, Addr.mk.injEq] at e
  obtain ⟨⟨rfl, rfl, _⟩, em, rfl⟩ := e
  clear em
  have c0 : w.cell? ⟨b, off, none⟩ = some (.int .i64 i) := h5 0 (by simp)
  clear h5 hp
  obtain ⟨w1, hw1, hb1, hlt1, hbox⟩ := boxed w #[U (Node.num v), .string (Node.bytes v), .slice a2 (Node.nums v).length p2, .slice a N cap] 36
  have x3 : w1.cell? ⟨w.heap.size, 3, none⟩ = some (.slice a N cap) := hbox 3
  obtain ⟨w2, hw2, hb2, hlt2, g0, g1, gf⟩ := got_make w1 (.int .u64 0) (.int .i64 0) 72
  have hb12 := via hb1 hb2
  replace x3 := (hb2.cell hlt1).trans x3
  replace c0 := (hb12.cell h4).trans c0
  replace hcl := (hb12.cell hbs2).trans hcl
  replace r0 := (hb12.cell hbbl).trans r0
  replace r1 := (hb12.cell hbbl).trans r1
  have hs2 := hs.below hb12 (Nat.le_refl _)
  have ht2 := htail.below hb12 (Nat.le_refl _)
  obtain ⟨bf, of, a4, p4, a5, p5, rfl, hbb, q0, q1, q2, q3, hfb, hfn, hfkk, -, hfnn, hfm⟩ := Kids.at_ hk hfk
  replace q0 := (hb12.cell hbb).trans q0
  replace q1 := (hb12.cell hbb).trans q1
  replace q2 := (hb12.cell hbb).trans q2
  replace q3 := (hb12.cell hbb).trans q3
  replace hbb := Nat.lt_of_lt_of_le hbb hb12.size
  obtain ⟨M, hM⟩ : ∃ M, M = fk.kids.length := ⟨_, rfl⟩
  obtain ⟨R, hR⟩ : ∃ R, R = fk.nums.length := ⟨_, rfl⟩
  rw [← hM] at hfkk hfm q3
  rw [← hR] at hfnn q2
  have hfn' : Row w 1 (.slice a4 R p4) fk.nums.length (fk.nums.map U) := by rw [hR]; exact hfn
  have h4w := hid h4
  have HM := hid hM
  have HR := hid hR
  have h42 := Nat.lt_of_lt_of_le h4 hb12.size
  have hbs22 := Nat.lt_of_lt_of_le hbs2 hb12.size
  have hbbl2 := Nat.lt_of_lt_of_le hbbl hb12.size
  have hlt12 := Nat.lt_of_lt_of_le hlt1 hb2.size
  clear hM hR hfk hfn hk hbox hb1 hb2 h4 hbs2 hbbl
  have hn1 : (1 : Int) ≤ (n : Int) + 1 := by omega
  have hd : decide ((i : Int) < 0) = false := decide_eq_false (by omega)
  have hd2 : decide (N ≤ i) = false := decide_eq_false (by omega)
  go_enter Tryz.func49, Tryz.ntmps49
  go_wp2_with fail
  clear hw1 hw2
  go_quiet (fail)
  go_wp2_with fail
  have hzp : ∀ nq B j, B < w2.heap.size → ((w2.drewN nq).alloc (.cells #[.int .i64 0, .int .i64 0] 44)).cell? ⟨B, j, none⟩ = w2.cell? ⟨B, j, none⟩ := fun nq B j h => World.cell?_alloc_past _ _ _ h
  have z0 : ∀ nq, ((w2.drewN nq).alloc (.cells #[.int .i64 0, .int .i64 0] 44)).cell? ⟨w2.heap.size, 0, none⟩ = some (.int .i64 0) := fun nq => World.cell?_alloc_at _ _ _ _ rfl
  have z1 : ∀ nq, ((w2.drewN nq).alloc (.cells #[.int .i64 0, .int .i64 0] 44)).cell? ⟨w2.heap.size, 1, none⟩ = some (.int .i64 0) := fun nq => World.cell?_alloc_at _ _ _ _ rfl
  have zf : ∀ nq j, ((w2.drewN nq).alloc (.cells #[.int .i64 0, .int .i64 0] 44)).frozen? ⟨w2.heap.size, j, none⟩ = false := fun nq j => World.frozen?_alloc_at _ _ _ _ rfl
  have zc := fun nq => (hzp nq b off h42).trans c0
  have zs := fun nq => (hzp nq bs (offs + t) hbs22).trans hcl
  have zr0 := fun nq => (hzp nq bl (offl + i * 2) hbbl2).trans r0
  have zr1 := fun nq => (hzp nq bl (offl + i * 2 + 1) hbbl2).trans r1
  clear hzp
  go_region
  obtain ⟨W3, hW3, hbW3, ltW3, f0, f1⟩ := fld_copy w2 (nq + 1) (.int .i64 2) (.int .i64 (tn : Int))
  rw [hW3]
  clear zc zs zr0 zr1 z0 z1 zf hW3
  replace x3 := (hbW3.cell hlt12).trans x3
  replace c0 := (hbW3.cell h42).trans c0
  replace g0 := (hbW3.cell hlt2).trans g0
  replace g1 := (hbW3.cell hlt2).trans g1
  replace gf := fun j => (hbW3.frozen (p := ⟨w1.heap.size, j, none⟩) hlt2).trans (gf j)
  replace q0 := (hbW3.cell hbb).trans q0
  replace q1 := (hbW3.cell hbb).trans q1
  replace q2 := (hbW3.cell hbb).trans q2
  replace q3 := (hbW3.cell hbb).trans q3
  have h43 := Nat.lt_of_lt_of_le h42 hbW3.size
  have hbb3 := Nat.lt_of_lt_of_le hbb hbW3.size
  have hlt13 := Nat.lt_of_lt_of_le hlt12 hbW3.size
  have hlt23 := Nat.lt_of_lt_of_le hlt2 hbW3.size
  clear hcl r0 r1
  go_wp2_with fail
  have hzp : ∀ nq B j, B < W3.heap.size → ((W3.drewN nq).alloc (.cells #[.int .u64 0, .string { data := #[] }, .slice none 0 0, .slice none 0 0] 36)).cell? ⟨B, j, none⟩ = W3.cell? ⟨B, j, none⟩ := fun nq B j h => World.cell?_alloc_past _ _ _ h
  have z0 : ∀ nq, ((W3.drewN nq).alloc (.cells #[.int .u64 0, .string { data := #[] }, .slice none 0 0, .slice none 0 0] 36)).cell? ⟨W3.heap.size, 0, none⟩ = some (.int .u64 0) := fun nq => World.cell?_alloc_at _ _ _ _ rfl
  have z1 : ∀ nq, ((W3.drewN nq).alloc (.cells #[.int .u64 0, .string { data := #[] }, .slice none 0 0, .slice none 0 0] 36)).cell? ⟨W3.heap.size, 1, none⟩ = some (.string { data := #[] }) := fun nq => World.cell?_alloc_at _ _ _ _ rfl
  have z2 : ∀ nq, ((W3.drewN nq).alloc (.cells #[.int .u64 0, .string { data := #[] }, .slice none 0 0, .slice none 0 0] 36)).cell? ⟨W3.heap.size, 2, none⟩ = some (.slice none 0 0) := fun nq => World.cell?_alloc_at _ _ _ _ rfl
  have z3 : ∀ nq, ((W3.drewN nq).alloc (.cells #[.int .u64 0, .string { data := #[] }, .slice none 0 0, .slice none 0 0] 36)).cell? ⟨W3.heap.size, 3, none⟩ = some (.slice none 0 0) := fun nq => World.cell?_alloc_at _ _ _ _ rfl
  have zf : ∀ nq j, ((W3.drewN nq).alloc (.cells #[.int .u64 0, .string { data := #[] }, .slice none 0 0, .slice none 0 0] 36)).frozen? ⟨W3.heap.size, j, none⟩ = false := fun nq j => World.frozen?_alloc_at _ _ _ _ rfl
  have zc := fun nq => (hzp nq b off h43).trans c0
  have zq0 := fun nq => (hzp nq bf (of + i * 4) hbb3).trans q0
  have zq1 := fun nq => (hzp nq bf (of + i * 4 + 1) hbb3).trans q1
  have zq2 := fun nq => (hzp nq bf (of + i * 4 + 2) hbb3).trans q2
  have zq3 := fun nq => (hzp nq bf (of + i * 4 + 3) hbb3).trans q3
  have zx := fun nq => (hzp nq w.heap.size 3 hlt13).trans x3
  clear hzp
  go_region
  obtain ⟨W, hW, hbW, ltW, d0, d1, d2, d3⟩ := tree_new W3 (U fk.num) (.string fk.bytes) (.slice a4 R p4) (.slice a5 M p5)
  rw [hW]
  clear zc zq0 zq1 zq2 zq3 zx z0 z1 z2 z3 zf hW q0 q1 q2 q3 x3 c0
  replace f0 := (hbW.cell ltW3).trans f0
  replace f1 := (hbW.cell ltW3).trans f1
  replace g0 := (hbW.cell hlt23).trans g0
  replace g1 := (hbW.cell hlt23).trans g1
  replace gf := fun j => (hbW.frozen (p := ⟨w1.heap.size, j, none⟩) hlt23).trans (gf j)
  have hb2W := via hbW3 hbW
  have hB := hb12.trans (hb2W.mono hb12.size)
  have hG : w.heap.size ≤ w1.heap.size := Nat.le_of_lt hlt1
  have hp4 := ht2.below hb2W (Nat.le_refl _)
  have hn4 := hfn'.below hB (Nat.le_refl _)
  have hFG : w1.heap.size ≠ w2.heap.size := by omega
  have hDG : w1.heap.size ≠ W3.heap.size := by omega
  have hs4 := hs2.below hb2W (Nat.le_refl _)
  have ge0 := fun x' => got_set0 (x' := x') g0
  have ge1 := fun x' y' => (got_set (x' := x') (y' := y') g0 g1).2
  have gq0 := fun n x' => got_set0 (w := W.drewN n) (x' := x') g0
  have gq1 := fun n x' y' => (got_set (w := W.drewN n) (x' := x') (y' := y') g0 g1).2
  have HBG := hid fun (x' y' : Value) => show Below w.heap.size w ((W.setCell ⟨w1.heap.size, 0, none⟩ x').setCell ⟨w1.heap.size, 1, none⟩ y') from (hB.setCell (p := ⟨w1.heap.size, 0, none⟩) hG x').setCell (p := ⟨w1.heap.size, 1, none⟩) hG y'
  generalize w1.heap.size = G at *
  generalize w2.heap.size = F at *
  generalize W3.heap.size = D at d0 d1 d2 d3 hDG ⊢
  clear hbW hbW3 hlt12 hlt23 hlt13 hs2 ht2 hfn' hbb hbb3 h42 h43 hbs22 hbbl2 hb12 hb2W hlt1 hlt2
  cases rest with
  | nil =>
    obtain rfl : n = 0 := by rw [Hn.out]; rfl
    have Hv := hid (show getF s (fun x r => getT s d tn x r) 2 tn fk [] = (BitVec.ofNat 64 fk.bytes.size, 0) by unfold getF; rw [if_neg (show ¬ ((2 : Int) = 1) by decide), if_pos rfl]; rfl)
    have hU := hid (U_nat fk.bytes.size (by omega))
    go_wp2_with fail
    (try simp only [Exit.inBlock, Exit.then])
    refine bodyPost_ret (by simp [results, Tryz.results49, go_sem, ge0, ge1, gq0, gq1]; try rfl) rfl ?_
    exact ⟨by rw [Hv.out, ← hU.out]; try rfl, HBG.out _ _⟩
  | cons p' r =>
    have c2 : W.cell? ⟨b, o2, none⟩ = some (.int .i64 p') := by obtain ⟨b3, o3', c3', e, hnc, _, _, hcell⟩ := Row.cons hp4 (by simp); simp only [Value.slice.injEq, Option.some.injEq, Addr.mk.injEq] at e; obtain ⟨⟨rfl, rfl, _⟩, _, rfl⟩ := e; exact hcell 0 (by simp)
    have hn0 : 0 < n := by rw [Hn.out]; simp
    have hnz : ((n : Int) == 0) = false := by rw [beq_eq_false_iff_ne]; omega
    clear hp4
    by_cases hp0 : p' < 0
    · have hpd : decide (p' < 0) = true := decide_eq_true hp0
      have Hv := hid (show getF s (fun x r => getT s d tn x r) 2 tn fk (p' :: r) = (0#64, 12) by unfold getF; rw [if_neg (show ¬ ((2 : Int) = 1) by decide), if_pos rfl]; rw [pickV, if_neg (by omega)])
      clear hp0
      go_wp2_with fail
      go_quiet (fail)
      go_wp2_with fail
      (try simp only [Exit.inBlock, Exit.then])
      refine bodyPost_ret (by simp [results, Tryz.results49, go_sem, ge0, ge1, gq0, gq1]; try rfl) rfl ?_
      exact ⟨by rw [Hv.out]; try rfl, below_q HBG.out⟩
    obtain ⟨j, rfl⟩ : ∃ j : Nat, p' = j := ⟨p'.toNat, by omega⟩
    clear hp0
    have hpd : decide ((j : Int) < 0) = false := decide_eq_false (by omega)
    by_cases hj : j < fk.bytes.size
    · have hjd : decide (fk.bytes.size ≤ j) = false := decide_eq_false (by omega)
      by_cases hr : r = []
      · obtain rfl : n = 1 := by rw [Hn.out, hr]; rfl
        have Hv := hid (show getF s (fun x r => getT s d tn x r) 2 tn fk ((j : Int) :: r) = (byteV fk.bytes j, 0) by unfold getF; rw [if_neg (show ¬ ((2 : Int) = 1) by decide), if_pos rfl]; rw [pickV, if_pos (by omega), if_pos hr, Int.toNat_natCast])
        clear hr
        have hbv : byteV fk.bytes j = BitVec.ofNat 64 fk.bytes[j].toNat := by
          unfold byteV
          congr 2
          rw [List.getD_eq_getElem?_getD, List.getElem?_eq_getElem (by simpa using hj), Option.getD_some]
          rfl
        have Hbv := hid hbv
        clear hbv
        go_wp2_with fail
        go_quiet (fail)
        go_wp2_with fail
        go_region
        go_wp2_with fail
        (try simp only [Exit.inBlock, Exit.then])
        refine bodyPost_ret (by simp [results, Tryz.results49, go_sem, ge0, ge1, gq0, gq1]; try rfl) rfl ?_
        exact ⟨by rw [Hv.out, Hbv.out]; try rfl, by first | exact below_q HBG.out | exact HBG.out _ _ | (trace_state; done)⟩
      · have hn1' : decide ((1 : Int) < (n : Int)) = true := decide_eq_true (by rw [Hn.out]; have := List.length_pos_iff.2 hr; simp; omega)
        have Hv := hid (show getF s (fun x r => getT s d tn x r) 2 tn fk ((j : Int) :: r) = (0#64, 24) by unfold getF; rw [if_neg (show ¬ ((2 : Int) = 1) by decide), if_pos rfl]; rw [pickV, if_pos (by omega), if_neg hr])
        clear hr
        go_wp2_with fail
        go_quiet (fail)
        go_wp2_with fail
        (try simp only [Exit.inBlock, Exit.then])
        refine bodyPost_ret (by simp [results, Tryz.results49, go_sem, ge0, ge1, gq0, gq1]; try rfl) rfl ?_
        exact ⟨by rw [Hv.out]; try rfl, below_q HBG.out⟩
    · have hjd : decide (fk.bytes.size ≤ j) = true := decide_eq_true (by omega)
      have Hv := hid (show getF s (fun x r => getT s d tn x r) 2 tn fk ((j : Int) :: r) = (0#64, 12) by unfold getF; rw [if_neg (show ¬ ((2 : Int) = 1) by decide), if_pos rfl]; rw [pickV, if_neg (by omega)])
      go_wp2_with fail
      go_quiet (fail)
      go_wp2_with fail
      (try simp only [Exit.inBlock, Exit.then])
      refine bodyPost_ret (by simp [results, Tryz.results49, go_sem, ge0, ge1, gq0, gq1]; try rfl) rfl ?_
      exact ⟨by rw [Hv.out]; try rfl, below_q HBG.out⟩
end SRGK2

end Go.Proofs.YtogaclolodlnbaaGreatDoor

