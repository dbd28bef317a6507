/- BuildTells: messages are built as P7.1 says. -/
import Derived.Test.YtogaclolodlnbaaDoorTells7
import Derived.Test.YtogaclolodlnbaaDoorMadeB2
import Derived.Test.YtogaclolodlnbaaDoorSpoil7
set_option linter.unusedVariables false
set_option linter.unusedSimpArgs false
namespace Go.Proofs.YtogaclolodlnbaaDoor
section SLBTells
open Go.RowKit

theorem sch_none (W : World) (b o c : Nat) (hc : c ≤ maxLen) : Sch W (.slice (some ⟨b, o, none⟩) 0 c) [] :=
  ⟨[], ⟨by simp, by simp, some ⟨b, o, none⟩, c, rfl, Nat.zero_le _, hc, (fun h => by cases h), fun h => absurd h (Nat.lt_irrefl 0)⟩, fun i l h => by simp at h⟩

theorem set_same {α : Type} (l : List α) (j : Nat) (v : α) (h : l[j]? = some v) : l.set j v = l := by
  apply List.ext_getElem?
  intro i
  rw [List.getElem?_set]
  by_cases hj : j = i
  · subst hj
    have hlt := (List.getElem?_eq_some_iff.1 h).1
    rw [if_pos rfl, if_pos hlt, h]
  · rw [if_neg hj]
/-- A kid's number is changed. -/
theorem SpV.num {K : Type} {R : World → List Value → K → Prop} {w0 W W9 : World} {base g m c i : Nat} {xs : List Value} {ks : List K} (h : SpV R w0 W base g m c xs ks) (hi : i < m) {u y0 y1 y2 y3 : Value} {k : K} (hc : (xs.drop (i * 4)).take 4 = [y0, y1, y2, y3]) (h9 : W9.heap[g]? = (W.setCell ⟨g, i * 4, none⟩ u).heap[g]?)
    (hb : Below w0.heap.size w0 W9) (hk : R W9 [u, y1, y2, y3] k) : Kids R W9 (.slice (some ⟨g, 0, none⟩) m c) (ks.set i k) := by
  have hl := h.len
  have e : ∀ j, j < 4 → xs[i * 4 + j]? = [y0, y1, y2, y3][j]? := fun j hj => by rw [← hc, List.getElem?_take, if_pos hj, List.getElem?_drop]
  have e1 : xs[i * 4 + 1]? = some y1 := e 1 (by omega)
  have e2 : xs[i * 4 + 2]? = some y2 := e 2 (by omega)
  have e3 : xs[i * 4 + 3]? = some y3 := e 3 (by omega)
  have he : set4 xs (i * 4) u y1 y2 y3 = xs.set (i * 4) u := by
    rw [set4, set_same _ (i * 4 + 1) y1 (by rw [List.getElem?_set, if_neg (by omega)]; exact e1), set_same _ (i * 4 + 2) y2 (by rw [List.getElem?_set, if_neg (by omega)]; exact e2), set_same _ (i * 4 + 3) y3 (by rw [List.getElem?_set, if_neg (by omega)]; exact e3)]
  have ho := own_keep (own_setN h.own (i * 4) u) (w' := W9) (fun q e => by
    obtain rfl : g = q := by simpa [Value.ownBlock] using e
    exact h9)
  rw [← he] at ho
  refine ⟨set4 xs (i * 4) u y1 y2 y3, by rw [List.length_set, h.kl]; exact Row.of_owns ho, fun j q hq => ?_⟩
  by_cases hj : j = i
  · subst hj
    rw [List.getElem?_set, if_pos rfl, if_pos (by rw [h.kl]; exact hi)] at hq
    obtain rfl := Option.some.inj hq
    rw [set4_at _ _ _ _ _ _ (by omega)]
    exact hk
  · rw [List.getElem?_set, if_neg (fun e => hj e.symm)] at hq
    rw [set4_ne _ _ _ _ _ _ _ hj]
    exact h.rd j q hq W9 hb

theorem typeL_pos {s : Schema} (hr : rightB s = true) {t : Nat} (ht : t < s.length) : 0 < (typeL s (t : Int)).length := by
  rw [rightB, Bool.and_eq_true, List.all_eq_true] at hr
  unfold typeL
  rw [if_pos ⟨by omega, by omega⟩]
  obtain ⟨l, hl⟩ := get_lt ht
  rw [List.getD_eq_getElem?_getD, show ((t : Int)).toNat = t by omega, hl]
  have := hr.2 l (List.mem_of_getElem? hl)
  rw [lOk, Bool.and_eq_true, decide_eq_true_eq] at this
  have h1 := this.1.1
  simp only [Option.getD_some]; omega

set_option maxRecDepth 100000 in
set_option maxHeartbeats 8000000 in
theorem btells_walk (u v : Value) (T t2 more : Int) (tl vl : List Int) (w : World) (hl : LaidE w) (hu : Row w 1 u tl.length (tl.map (Value.int .i64))) (hv : Row w 1 v vl.length (vl.map (Value.int .i64)))
    (hub : ∀ z ∈ tl, -9223372036854775808 ≤ z ∧ z ≤ 9223372036854775807) (hvb : ∀ z ∈ vl, -9223372036854775808 ≤ z ∧ z ≤ 9223372036854775807) (hT : -9223372036854775808 ≤ T ∧ T ≤ 9223372036854775807) (hmo : -9223372036854775808 ≤ more ∧ more ≤ 9223372036854775807) :
    Calls Tryd.prog 6 #[.agg #[u, v, .int .i64 T], .int .i64 t2, .int .i64 more] w fun r w' => r = .returned (.bool true) ∧ Below w.heap.size w w' := by
  obtain ⟨iT, hiT, hzT, hsT, hbT⟩ := info_parts (show (Tryd.prog.info? 49).map (fun i => (i.zero, i.size, i.bytes)) = some (some (.agg #[.int .u64 0, .string ⟨#[]⟩, .slice none 0 0, .slice none 0 0]), 4, 72) by kernel_rfl)
  obtain ⟨au, cu, hue, -⟩ := hu.open
  obtain ⟨av, cv, hve, -⟩ := hv.open
  obtain ⟨w1, hw1, hb1, hlt1, hbox1⟩ := boxed w #[u, v, .int .i64 T] 46
  have q0 : w1.cell? ⟨w.heap.size, 0, none⟩ = some u := hbox1 0
  have q1 : w1.cell? ⟨w.heap.size, 1, none⟩ = some v := hbox1 1
  have q2 : w1.cell? ⟨w.heap.size, 2, none⟩ = some (.int .i64 T) := hbox1 2
  have hl1 := LaidE.below hl hb1 (LaidE.pos hl)
  have hspec := hid fun W (hW : Below w.heap.size w W) => spec7_any 5 6 (by omega) rfl u v T tl vl W (hu.below hW (Nat.le_refl _)) (hv.below hW (Nat.le_refl _)) hub hvb hT
  have HLaidW := hid fun W (hW : Below w.heap.size w W) => LaidE.below hl hW (LaidE.pos hl)
  subst hue hve
  clear hu hv hub hvb hbox1 hl
  go_enter Tryd.func6, Tryd.ntmps6
  go_wp2_with fail
  ((refine (awake07 _ hl1).mono ?_); rintro r2 w2 ⟨rfl, hb2⟩)
  replace q0 := (hb2.cell hlt1).trans q0
  replace q1 := (hb2.cell hlt1).trans q1
  replace q2 := (hb2.cell hlt1).trans q2
  have hb12 := via hb1 hb2
  clear hw1
  go_wp2_with fail
  ((refine (hspec.out _ hb12).mono ?_); rintro r3 w3 ⟨sv, s, t, x0, x1, x2, x3, X, rfl, hb3, hs, hr, ht, hs4, hrd, hfit⟩)
  obtain ⟨a2, p2, a, cap, hcs, hbs, hn, hk, hnm, hkm⟩ := RdN.open hrd
  simp only [List.cons.injEq] at hcs
  obtain ⟨rfl, rfl, rfl, rfl, -⟩ := hcs
  have hb13 := via hb12 hb3
  obtain ⟨sa, scap, hsv, -⟩ := hs.shape
  obtain ⟨sn, hsn⟩ : ∃ n, n = s.length := ⟨_, rfl⟩
  rw [← hsn] at hsv
  subst hsv
  clear hsn
  obtain ⟨f1, f2, f3, f4, f5⟩ := hfit
  have hN6 := typeL_len hr t
  rw [← f4] at hN6
  obtain ⟨xs, hxr, hxk⟩ := hk.ex
  obtain ⟨N, hN⟩ : ∃ N, N = (Node.kids X).length := ⟨_, rfl⟩
  obtain ⟨nl, hnl⟩ : ∃ b, b = (Node.nums X).length := ⟨_, rfl⟩
  have HN := hid hN
  have Hnl := hid hnl
  have Hxk := hid hxk
  have Hs := hid fun W (hW : Below w3.heap.size w3 W) => hs.below hW (Nat.le_refl _)
  have Hrd := hid fun W (hW : Below w3.heap.size w3 W) => hrd.below hW (Nat.le_refl _)
  have Hn := hid hn
  have Hbs := hid hbs
  have Hnm := hid hnm
  rw [← hN] at hN6 hkm hxr
  rw [← hnl]
  rw [← hN]
  obtain ⟨w4, hw4, hb4, hz4, hV⟩ := TB.make w3 (U (Node.num X)) (.string (Node.bytes X)) (.slice a2 nl p2) (.slice a N cap) 49
  obtain ⟨w5, hw5, hb5, hz5, hR⟩ := TB.make w4 (U (Node.num X)) (.string (Node.bytes X)) (.slice a2 nl p2) (.slice a N cap) 49
  have hb35 := via hb4 hb5
  have hlen := hxr.len
  have hV5 := hV.below hb5
  have hNp : (0 : Int) < (N : Int) := by have := typeL_pos hr ht; omega
  obtain ⟨kb, ko, cap', he, hcap1, hcap2, hkb, hkc⟩ := hxr.cons (by omega)
  simp only [Value.slice.injEq, true_and] at he
  obtain ⟨rfl, rfl⟩ := he
  have hone := hid (chunk_one (by rw [← HN.out]; exact hlen) Hxk.out)
  have hnews := hid fun (j : Nat) (u : Value) (e : xs[j]? = some u) => show (w5.alloc (.cells #[] 49)).cell? ((⟨kb, ko, none⟩ : Addr).add j) = some u from by
    have hj : j < N * 4 := by have := (List.getElem?_eq_some_iff.1 e).1; omega
    rw [Addr.add_lit, (hb35.alloc hb35.size _).cell (p := ⟨kb, ko + j, none⟩) hkb, hkc j hj]; exact e
  have hlenH := hid hlen
  have ⟨vlt, v0, v1, v2, v3, vf⟩ := hV5
  have ⟨rlt, r0, r1, r2, r3, rf⟩ := hR
  have g3 := rf 3
  have ⟨_, s0, s1, s2, s3, _⟩ := hV
  clear hkc hxr hlen hcap1 hcap2 hs hrd hn hk hxk hnl hN hspec q0 q1 q2 hb2 hl1 hb12 hb1 hlt1 hr hz4 hz5 f1 f2 f3 f4 f5
  go_wp2_with (at_builtin; refine wpList_append_lies (w := w5.alloc (.cells #[] 49)) rfl (.tmp 21) (.tmp 23) 47 rfl w5.heap.size 49 iT _ 4 72 Tryd.underlying47 hiT hzT hsT hbT rfl (by omega) (.slice (some ⟨w5.heap.size, 0, none⟩) 0 0) 0 [] rfl (World.ownsRow_made w5 #[] 0 (Nat.le_refl _) (by simp [maxLen]) rfl) ⟨kb, ko, none⟩ N cap xs rfl hlenH.out hnews.out hone.out (by omega) (by unfold maxLen; omega) (by omega) (by simp) (w5.heap.size + 1) (by simp) ?_; intro g c w6 h6 h7 h8 h9; rw [List.nil_append, Nat.zero_add] at h6; have hgw := sp_block h8; have hb56 := sp_below h7; have hV6 := hV5.below hb56; have hR6 := hR.below hb56; clear h7 h8 v0 v1 v2 v3 r0 r1 r2 r3 g3; have y3 := hR6.c3; have y4 := hR6.fz 3)
  clear hw4 hw5 y3 y4 s0 s1 s2 s3
  have hwg : w4.heap.size ≠ g := by have := rlt; omega
  have hvlt : w3.heap.size < w4.heap.size := hV.lt
  have hR7 := hR6.set3 (.slice (some ⟨g, 0, none⟩) N c)
  have hV7 := hV6.of_block (w' := w6.setCell ⟨w4.heap.size, 3, none⟩ (.slice (some ⟨g, 0, none⟩) N c)) (Below.heap_setCell _ _ _ _ (Nat.ne_of_lt hvlt)) (by simpa [World.setCell] using hV6.lt)
  have hb57 : Below w3.heap.size w3 (w6.setCell ⟨w4.heap.size, 3, none⟩ (.slice (some ⟨g, 0, none⟩) N c)) := (hb35.trans (hb56.mono hb35.size)).setCell (p := ⟨w4.heap.size, 3, none⟩) hb4.size (.slice (some ⟨g, 0, none⟩) N c)
  have hS7 : SpV (RdF 5) w3 (w6.setCell ⟨w4.heap.size, 3, none⟩ (.slice (some ⟨g, 0, none⟩) N c)) w5.heap.size g N c xs (Node.kids X) :=
    ⟨own_keep h6 (fun q e => Below.heap_setCell _ _ _ _ (by rintro rfl; exact hwg (by simpa [Value.ownBlock] using e.symm))), HN.out.symm, fun j k hj W' hW => RdF.below (d := 5) (Hxk.out j k hj) hW (Nat.le_refl _)⟩
  clear h6 hV6 hR6 hV5 hV hR hone hnews hb56
  generalize w6.setCell ⟨w4.heap.size, 3, none⟩ (.slice (some ⟨g, 0, none⟩) N c) = w7 at *
  have hnz : ((N : Int) == 0) = false := by rw [beq_eq_false_iff_ne]; omega
  have y3 := hR7.c3
  go_wp2_with fail
  obtain ⟨i, hi⟩ : ∃ i : Nat, more % 16 % (N : Int) = (i : Int) := ⟨(more % 16 % (N : Int)).toNat, by have := Int.emod_nonneg (more % 16) (show (N : Int) ≠ 0 by omega); omega⟩
  have hiN : i < N := by have := Int.emod_lt_of_pos (more % 16) hNp; omega
  rw [hi]
  have hil : i < (Node.kids X).length := by rw [← HN.out]; exact hiN
  obtain ⟨k, hk⟩ : ∃ k, (Node.kids X)[i]? = some k := ⟨_, List.getElem?_eq_getElem hil⟩
  have hkr := Hxk.out i k hk
  obtain ⟨ka2, kp2, ka3, kp3, hke, hkb, hkn, hkk, hkn2, hkk2⟩ := RdN.open hkr
  rw [hke] at hkr
  have ⟨c0, _, _, _, cf⟩ := hS7.cells hiN hke
  have hS8 := hS7.keep (W' := w7.drew) rfl
  have hV8 : TB w7.drew w3.heap.size (U (Node.num X)) (.string (Node.bytes X)) (.slice a2 nl p2) (.slice (some ⟨kb, ko, none⟩) N cap) := hV7.of_block rfl hV7.lt
  have hR8 : TB w7.drew w4.heap.size (U (Node.num X)) (.string (Node.bytes X)) (.slice a2 nl p2) (.slice (some ⟨g, 0, none⟩) N c) := hR7.of_block rfl hR7.lt
  have hb58 : Below w3.heap.size w3 w7.drew := hb57.trans (below_drewN _ _ 1)
  have d0 : w7.drew.cell? ⟨g, i * 4, none⟩ = some (U k.num) := c0
  have df : w7.drew.frozen? ⟨g, i * 4, none⟩ = false := cf _
  clear hil c0 cf hS7 hV7 hR7 hb57
  refine wp_region_held_drew (S := (fun W => W.cell? ⟨w4.heap.size, 3, none⟩ = some (.slice (some ⟨g, 0, none⟩) N c))) (by kernel_rfl) ?_ (fun hHeld => ?_)
  · exact y3
  refine wpAnyH_take (i := 0) (oi := { dst := some 32, op := Op.fieldAddr 49 (Operand.tmp 11) 3, type := 0, pos := "law.go:46", after := #[], guard := none }) (v := ?vg0) rfl (by kernel_rfl) (by kernel_rfl) (by kernel_rfl) (fun _ _ _ h => h) (Or.inl ⟨by rfl, ?hyg0⟩) (by assumption) ?restg0
  case hyg0 => first | (intro w hSw; (try dsimp only at hSw); go_simp; done) | (intro w hSw; (try dsimp only at hSw); go_simp; with_reducible rfl)
  try simp only [Act.put, List.setIfInBounds_toArray, List.set_cons_zero, List.set_cons_succ]
  refine wpAnyH_take (i := 1) (oi := { dst := some 33, op := Op.load 47 (Operand.tmp 32), type := 47, pos := "law.go:46", after := #[{ on := 0, ground := Ground.data }], guard := none }) (v := ?vg1) rfl (by kernel_rfl) (by kernel_rfl) (by kernel_rfl) (fun _ _ _ h => h) (Or.inl ⟨by rfl, ?hyg1⟩) (by assumption) ?restg1
  case hyg1 => first | (intro w hSw; (try dsimp only at hSw); go_simp; done) | (intro w hSw; (try dsimp only at hSw); go_simp; with_reducible rfl)
  try simp only [Act.put, List.setIfInBounds_toArray, List.set_cons_zero, List.set_cons_succ]
  refine wpAnyH_take (i := 2) (oi := { dst := some 34, op := Op.move (Operand.tmp 12), type := 3, pos := "law.go:46", after := #[], guard := none }) (v := ?vg2) rfl (by kernel_rfl) (by kernel_rfl) (by kernel_rfl) (fun _ _ _ h => h) (Or.inl ⟨by rfl, ?hyg2⟩) (by assumption) ?restg2
  case hyg2 => first | (intro w hSw; (try dsimp only at hSw); go_simp; done) | (intro w hSw; (try dsimp only at hSw); go_simp; with_reducible rfl)
  try simp only [Act.put, List.setIfInBounds_toArray, List.set_cons_zero, List.set_cons_succ]
  refine wpAnyH_take (i := 3) (oi := { dst := some 35, op := Op.fieldAddr 49 (Operand.tmp 11) 3, type := 0, pos := "law.go:46", after := #[], guard := none }) (v := ?vg3) rfl (by kernel_rfl) (by kernel_rfl) (by kernel_rfl) (fun _ _ _ h => h) (Or.inl ⟨by rfl, ?hyg3⟩) (by assumption) ?restg3
  case hyg3 => first | (intro w hSw; (try dsimp only at hSw); go_simp; done) | (intro w hSw; (try dsimp only at hSw); go_simp; with_reducible rfl)
  try simp only [Act.put, List.setIfInBounds_toArray, List.set_cons_zero, List.set_cons_succ]
  refine wpAnyH_take (i := 4) (oi := { dst := some 36, op := Op.load 47 (Operand.tmp 35), type := 47, pos := "law.go:46", after := #[{ on := 3, ground := Ground.data }], guard := none }) (v := ?vg4) rfl (by kernel_rfl) (by kernel_rfl) (by kernel_rfl) (fun _ _ _ h => h) (Or.inl ⟨by rfl, ?hyg4⟩) (by assumption) ?restg4
  case hyg4 => first | (intro w hSw; (try dsimp only at hSw); go_simp; done) | (intro w hSw; (try dsimp only at hSw); go_simp; with_reducible rfl)
  try simp only [Act.put, List.setIfInBounds_toArray, List.set_cons_zero, List.set_cons_succ]
  refine wpAnyH_take (i := 5) (oi := { dst := some 37, op := Op.move (Operand.tmp 12), type := 3, pos := "law.go:46", after := #[], guard := none }) (v := ?vg5) rfl (by kernel_rfl) (by kernel_rfl) (by kernel_rfl) (fun _ _ _ h => h) (Or.inl ⟨by rfl, ?hyg5⟩) (by assumption) ?restg5
  case hyg5 => first | (intro w hSw; (try dsimp only at hSw); go_simp; done) | (intro w hSw; (try dsimp only at hSw); go_simp; with_reducible rfl)
  try simp only [Act.put, List.setIfInBounds_toArray, List.set_cons_zero, List.set_cons_succ]
  refine wpAnyH_take (i := 6) (oi := { dst := some 38, op := Op.indexAddr 47 (Operand.tmp 36) (Operand.tmp 37), type := 0, pos := "law.go:46", after := #[{ on := 4, ground := Ground.data }, { on := 5, ground := Ground.data }], guard := none }) (v := ?vg6) rfl (by kernel_rfl) (by kernel_rfl) (by kernel_rfl) (fun _ _ _ h => h) (Or.inl ⟨by rfl, ?hyg6⟩) (by assumption) ?restg6
  case hyg6 => first | (intro w hSw; (try dsimp only at hSw); go_simp; done) | (intro w hSw; (try dsimp only at hSw); go_simp; with_reducible rfl)
  try simp only [Act.put, List.setIfInBounds_toArray, List.set_cons_zero, List.set_cons_succ]
  refine wpAnyH_take (i := 7) (oi := { dst := some 39, op := Op.fieldAddr 49 (Operand.tmp 38) 0, type := 0, pos := "law.go:46", after := #[{ on := 6, ground := Ground.data }], guard := none }) (v := ?vg7) rfl (by kernel_rfl) (by kernel_rfl) (by kernel_rfl) (fun _ _ _ h => h) (Or.inl ⟨by rfl, ?hyg7⟩) (by assumption) ?restg7
  case hyg7 => first | (intro w hSw; (try dsimp only at hSw); go_simp; done) | (intro w hSw; (try dsimp only at hSw); go_simp; with_reducible rfl)
  try simp only [Act.put, List.setIfInBounds_toArray, List.set_cons_zero, List.set_cons_succ]
  refine wpAnyH_take (i := 9) (oi := { dst := some 41, op := Op.move (Operand.tmp 2), type := 3, pos := "law.go:46", after := #[], guard := none }) (v := ?vg9) rfl (by kernel_rfl) (by kernel_rfl) (by kernel_rfl) (fun _ _ _ h => h) (Or.inl ⟨by rfl, ?hyg9⟩) (by assumption) ?restg9
  case hyg9 => first | (intro w hSw; (try dsimp only at hSw); go_simp; done) | (intro w hSw; (try dsimp only at hSw); go_simp; with_reducible rfl)
  try simp only [Act.put, List.setIfInBounds_toArray, List.set_cons_zero, List.set_cons_succ]
  refine wpAnyH_take (i := 10) (oi := { dst := some 42, op := Op.binOp BinOp.shr 3 (Operand.tmp 41) (Operand.const (Value.int IntKind.u64 4)) 52, type := 3, pos := "law.go:46", after := #[{ on := 9, ground := Ground.data }], guard := none }) (v := ?vg10) rfl (by kernel_rfl) (by kernel_rfl) (by kernel_rfl) (fun _ _ _ h => h) (Or.inl ⟨by rfl, ?hyg10⟩) (by assumption) ?restg10
  case hyg10 => first | (intro w hSw; (try dsimp only at hSw); go_simp; done) | (intro w hSw; (try dsimp only at hSw); go_simp; with_reducible rfl)
  try simp only [Act.put, List.setIfInBounds_toArray, List.set_cons_zero, List.set_cons_succ]
  refine wpAnyH_take (i := 11) (oi := { dst := some 43, op := Op.binOp BinOp.and 3 (Operand.tmp 42) (Operand.const (Value.int IntKind.i64 15)) 3, type := 3, pos := "law.go:46", after := #[{ on := 10, ground := Ground.data }], guard := none }) (v := ?vg11) rfl (by kernel_rfl) (by kernel_rfl) (by kernel_rfl) (fun _ _ _ h => h) (Or.inl ⟨by rfl, ?hyg11⟩) (by assumption) ?restg11
  case hyg11 => first | (intro w hSw; (try dsimp only at hSw); go_simp; done) | (intro w hSw; (try dsimp only at hSw); go_simp; with_reducible rfl)
  try simp only [Act.put, List.setIfInBounds_toArray, List.set_cons_zero, List.set_cons_succ]
  refine wpAnyH_take (i := 12) (oi := { dst := some 44, op := Op.convert 3 38 (Operand.tmp 43), type := 38, pos := "law.go:46", after := #[{ on := 11, ground := Ground.data }], guard := none }) (v := ?vg12) rfl (by kernel_rfl) (by kernel_rfl) (by kernel_rfl) (fun _ _ _ h => h) (Or.inl ⟨by rfl, ?hyg12⟩) (by assumption) ?restg12
  case hyg12 => first | (intro w hSw; (try dsimp only at hSw); go_simp; done) | (intro w hSw; (try dsimp only at hSw); go_simp; with_reducible rfl)
  try simp only [Act.put, List.setIfInBounds_toArray, List.set_cons_zero, List.set_cons_succ]
  refine wpAnyH_ready (rs := [8]) (by kernel_rfl) (by simp) ?_
  refine AllReadyH.cons (o := { dst := some 40, op := Op.load 38 (Operand.tmp 39), type := 38, pos := "law.go:46", after := #[{ on := 7, ground := Ground.data }], guard := none }) rfl (fun K hK => ?_) AllReadyH.nil
  go_simp
  refine hK.out _ _ ?_ (fun hHeld => ?_)
  · exact hHeld
  clear hK K
  try simp only [Act.put, List.setIfInBounds_toArray, List.set_cons_zero, List.set_cons_succ]
  refine wpAnyH_take (i := 13) (oi := { dst := some 45, op := Op.binOp BinOp.add 38 (Operand.tmp 40) (Operand.tmp 44) 38, type := 38, pos := "law.go:46", after := #[{ on := 8, ground := Ground.data }, { on := 12, ground := Ground.data }], guard := none }) (v := ?vg13) rfl (by kernel_rfl) (by kernel_rfl) (by kernel_rfl) (fun _ _ _ h => h) (Or.inl ⟨by rfl, ?hyg13⟩) (by assumption) ?restg13
  case hyg13 => first | (intro w hSw; (try dsimp only at hSw); go_simp; done) | (intro w hSw; (try dsimp only at hSw); go_simp; with_reducible rfl)
  try simp only [Act.put, List.setIfInBounds_toArray, List.set_cons_zero, List.set_cons_succ]
  refine wpAnyH_take (i := 14) (oi := { dst := some 46, op := Op.indexAddr 47 (Operand.tmp 33) (Operand.tmp 34), type := 0, pos := "law.go:46", after := #[{ on := 1, ground := Ground.data }, { on := 2, ground := Ground.data }, { on := 0, ground := Ground.phase }, { on := 1, ground := Ground.phase }, { on := 2, ground := Ground.phase }, { on := 3, ground := Ground.phase }, { on := 4, ground := Ground.phase }, { on := 5, ground := Ground.phase }, { on := 6, ground := Ground.phase }, { on := 7, ground := Ground.phase }, { on := 8, ground := Ground.phase }, { on := 9, ground := Ground.phase }, { on := 10, ground := Ground.phase }, { on := 11, ground := Ground.phase }, { on := 12, ground := Ground.phase }, { on := 13, ground := Ground.phase }], guard := none }) (v := ?vg14) rfl (by kernel_rfl) (by kernel_rfl) (by kernel_rfl) (fun _ _ _ h => h) (Or.inl ⟨by rfl, ?hyg14⟩) (by assumption) ?restg14
  case hyg14 => first | (intro w hSw; (try dsimp only at hSw); go_simp; done) | (intro w hSw; (try dsimp only at hSw); go_simp; with_reducible rfl)
  try simp only [Act.put, List.setIfInBounds_toArray, List.set_cons_zero, List.set_cons_succ]
  refine wpAnyH_take (i := 15) (oi := { dst := some 47, op := Op.fieldAddr 49 (Operand.tmp 46) 0, type := 0, pos := "law.go:46", after := #[{ on := 14, ground := Ground.data }, { on := 0, ground := Ground.phase }, { on := 1, ground := Ground.phase }, { on := 2, ground := Ground.phase }, { on := 3, ground := Ground.phase }, { on := 4, ground := Ground.phase }, { on := 5, ground := Ground.phase }, { on := 6, ground := Ground.phase }, { on := 7, ground := Ground.phase }, { on := 8, ground := Ground.phase }, { on := 9, ground := Ground.phase }, { on := 10, ground := Ground.phase }, { on := 11, ground := Ground.phase }, { on := 12, ground := Ground.phase }, { on := 13, ground := Ground.phase }], guard := none }) (v := ?vg15) rfl (by kernel_rfl) (by kernel_rfl) (by kernel_rfl) (fun _ _ _ h => h) (Or.inl ⟨by rfl, ?hyg15⟩) (by assumption) ?restg15
  case hyg15 => first | (intro w hSw; (try dsimp only at hSw); go_simp; done) | (intro w hSw; (try dsimp only at hSw); go_simp; with_reducible rfl)
  try simp only [Act.put, List.setIfInBounds_toArray, List.set_cons_zero, List.set_cons_succ]
  refine wpAnyH_ready (rs := [16]) (by kernel_rfl) (by simp) ?_
  refine AllReadyH.cons (o := { dst := none, op := Op.store 38 (Operand.tmp 47) (Operand.tmp 45), type := 0, pos := "law.go:46", after := #[{ on := 15, ground := Ground.data }, { on := 13, ground := Ground.data }, { on := 0, ground := Ground.phase }, { on := 1, ground := Ground.phase }, { on := 2, ground := Ground.phase }, { on := 3, ground := Ground.phase }, { on := 4, ground := Ground.phase }, { on := 5, ground := Ground.phase }, { on := 6, ground := Ground.phase }, { on := 7, ground := Ground.phase }, { on := 8, ground := Ground.phase }, { on := 9, ground := Ground.phase }, { on := 10, ground := Ground.phase }, { on := 11, ground := Ground.phase }, { on := 12, ground := Ground.phase }, { on := 13, ground := Ground.phase }], guard := none }) rfl (fun K hK => ?_) AllReadyH.nil
  go_simp
  refine hK.out _ _ ?_ (fun hHeld => ?_)
  · exact (World.cell?_setCell_other _ _ _ _ (by simp [hwg.symm])).trans hHeld
  clear hK K
  try simp only [Act.put, List.setIfInBounds_toArray, List.set_cons_zero, List.set_cons_succ]
  refine wpAnyH_done (by kernel_rfl) ?_ _
  obtain ⟨y, hy⟩ : ∃ y, y = k.num + BitVec.ofInt 64 (more / 16 % 16) := ⟨_, rfl⟩
  rw [← hy]
  have hgl := hS8.lt
  have hb59 : Below w3.heap.size w3 (w7.setCell ⟨g, i * 4, none⟩ (U y)).drew := (show Below w3.heap.size w3 (w7.drew.setCell ⟨g, i * 4, none⟩ (U y)) from hb58.setCell (p := ⟨g, i * 4, none⟩) (by show w3.heap.size ≤ g; omega) (U y))
  have hV9 : TB (w7.setCell ⟨g, i * 4, none⟩ (U y)).drew w3.heap.size (U (Node.num X)) (.string (Node.bytes X)) (.slice a2 nl p2) (.slice (some ⟨kb, ko, none⟩) N cap) := hV8.of_block (Below.heap_setCell w7.drew _ _ _ (by show w3.heap.size ≠ g; omega)) (by simpa [World.setCell] using hV8.lt)
  have hR9 : TB (w7.setCell ⟨g, i * 4, none⟩ (U y)).drew w4.heap.size (U (Node.num X)) (.string (Node.bytes X)) (.slice a2 nl p2) (.slice (some ⟨g, 0, none⟩) N c) := hR8.of_block (Below.heap_setCell w7.drew _ _ _ hwg) (by simpa [World.setCell] using hR8.lt)
  have hrdk := RdF.below (d := 5) hkr hb59 (Nat.le_refl _)
  have hkn0 := sp_k0 (d := 5) (k := k) ⟨rfl, rfl, rfl, rfl⟩ hrdk y
  have hKn := SpV.num hS8 hiN hke (W9 := (w7.setCell ⟨g, i * 4, none⟩ (U y)).drew) rfl hb59 hkn0
  obtain ⟨Y, hY⟩ : ∃ Y : St 6, Y = (⟨Node.num X, Node.bytes X, Node.nums X, (Node.kids X).set i ⟨y, k.bytes, k.nums, k.kids⟩⟩ : Node (Node (St 5))) := ⟨_, rfl⟩
  have hrY : RdS 6 (w7.setCell ⟨g, i * 4, none⟩ (U y)).drew [U (Node.num X), .string (Node.bytes X), .slice a2 nl p2, .slice (some ⟨g, 0, none⟩) N c] Y := by
    rw [hY]
    refine ⟨_, _, (hKn.ex).choose, rfl, ⟨Hbs.out, Hnm.out, by rw [List.length_set, ← HN.out]; exact hkm⟩, ?_, ?_, hKn.ex.choose_spec.2⟩
    · have h := Hn.out.below hb59 (Nat.le_refl _)
      rw [← Hnl.out] at h
      rw [← Hnl.out]; exact h
    · have h := hKn.ex.choose_spec.1
      exact h
  have hRX : ∀ W, Below w3.heap.size w3 W → RdS 6 W [U (Node.num X), .string (Node.bytes X), .slice a2 nl p2, .slice (some ⟨kb, ko, none⟩) N cap] X := by
    have h := Hrd.out
    rw [← HN.out, ← Hnl.out] at h
    exact h
  have hB9 := hid (hb13.trans (hb59.mono hb13.size))
  have Hb59 := hid hb59
  have HV9 := hid hV9
  have HR9 := hid hR9
  have HrY := hid hrY
  have HRX := hid hRX
  clear hgl hb59 hkn0 hKn hY hrdk hS8 hV8 hR8 hb58 hV9 hR9 hrY hRX y3 hHeld d0 df hkr hke hk hkn hkk hkn2 hkk2 hy hi
  generalize (w7.setCell ⟨g, i * 4, none⟩ (U y)).drew = w9 at *
  have HT := hid fun (tt : Int) W (hW : Below w9.heap.size w9 W) => tells7_any s (.slice sa sn scap) 5 tt X _ W (HLaidW.out W (hB9.out.trans (hW.mono hB9.out.size))) (Hs.out W (Hb59.out.trans (hW.mono Hb59.out.size))) (HRX.out W (Hb59.out.trans (hW.mono Hb59.out.size)))
  have HTY := hid fun (tt : Int) W (hW : Below w9.heap.size w9 W) => tells7_any s (.slice sa sn scap) 5 tt Y _ W (HLaidW.out W (hB9.out.trans (hW.mono hB9.out.size))) (Hs.out W (Hb59.out.trans (hW.mono Hb59.out.size))) (HrY.out.below hW (Nat.le_refl _))
  have HTN := hid fun (b : Nat) W (hW : Below w9.heap.size w9 W) => tells7_any [] (.slice (some ⟨b, 0, none⟩) 0 0) 5 0 X _ W (HLaidW.out W (hB9.out.trans (hW.mono hB9.out.size))) (sch_none W b 0 0 (Nat.zero_le _)) (HRX.out W (Hb59.out.trans (hW.mono Hb59.out.size)))
  have ⟨_, v0, v1, v2, v3, _⟩ := HV9.out
  go_wp2_with fail
  ((refine (HT.out _ _ (Below.refl _ _)).mono ?_); rintro r10 w10 ⟨rfl, hb10⟩)
  clear v0 v1 v2 v3
  have ⟨_, v0, v1, v2, v3, _⟩ := HV9.out.below hb10
  go_wp2_with fail
  ((refine (HT.out _ _ hb10).mono ?_); rintro r11 w11 ⟨rfl, hb11'⟩)
  have hb11 := via hb10 hb11'
  clear v0 v1 v2 v3 hb11' hb10
  have ⟨_, v0, v1, v2, v3, _⟩ := HR9.out.below hb11
  go_wp2_with fail
  ((refine (HTY.out _ _ hb11).mono ?_); rintro r12 w12 ⟨rfl, hb12'⟩)
  have hb12 := via hb11 hb12'
  clear v0 v1 v2 v3 hb12' hb11
  have hba := via hb12 (below_alloc w12 (.cells #[] 62))
  have ⟨_, v0, v1, v2, v3, _⟩ := HV9.out.below hba
  go_wp2_with fail
  ((refine (HTN.out _ _ hba).mono ?_); rintro r13 w13 ⟨rfl, hb13'⟩)
  have hb13a := via hba hb13'
  have hfin := hB9.out.trans (hb13a.mono hB9.out.size)
  clear v0 v1 v2 v3 hb13' hba
  go_wp2_with fail
  go_returns
  exact ⟨rfl, hfin⟩

theorem row_lenS {w : World} {v : Value} {n : Nat} {l : List Int} (h : Row w 1 v n (l.map (Value.int .i64))) : Row w 1 v l.length (l.map (Value.int .i64)) := by
  have : l.length = n := by have := h.len; simpa using this
  rw [this]; exact h
theorem law_BuildTells (u v : Value) (n m : Nat) (tl vl : List Int) (T t2 more : Int) (w : World) (hl : LaidE w) (hu : Row w 1 u n (tl.map (Value.int .i64))) (hv : Row w 1 v m (vl.map (Value.int .i64)))
    (hub : ∀ z ∈ tl, -9223372036854775808 ≤ z ∧ z ≤ 9223372036854775807) (hvb : ∀ z ∈ vl, -9223372036854775808 ≤ z ∧ z ≤ 9223372036854775807) (hT : -9223372036854775808 ≤ T ∧ T ≤ 9223372036854775807) (hmo : -9223372036854775808 ≤ more ∧ more ≤ 9223372036854775807) :
    Calls Tryd.prog 6 #[.agg #[u, v, .int .i64 T], .int .i64 t2, .int .i64 more] w fun r w' => r = .returned (.bool true) ∧ Below w.heap.size w w' :=
  btells_walk u v T t2 more tl vl w hl (row_lenS hu) (row_lenS hv) hub hvb hT hmo
end SLBTells

end Go.Proofs.YtogaclolodlnbaaDoor

