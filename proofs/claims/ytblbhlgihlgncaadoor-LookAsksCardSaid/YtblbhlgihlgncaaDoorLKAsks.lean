/- LookAsks: of a right message a walk asks for words of it alone, each once, as many as the path has numbers, at most; and it is told what Path tells. -/
import Derived.Test.YtblbhlgihlgncaaDoorKMade
import Derived.Test.YtblbhlgihlgncaaDoorLkAsks
import Derived.Test.YtblbhlgihlgncaaDoorGp
set_option linter.unusedVariables false
set_option linter.unusedSimpArgs false
namespace Go.Proofs.YtblbhlgihlgncaaDoor
section SLKAsks
open Go.RowKit

theorem buildL_len {s : Schema} {d t : Nat} {X : St (d + 1)} (hf : FitT s (d + 1) t X) : (buildL s d t X).length ≤ 200 := by
  have hcode := fit_code s (d + 1) (d + 1) t X hf (Nat.le_refl _)
  by_cases hE : buildE s d t X = 0
  · rw [buildL, if_pos hE, (build_lie hcode).1]
    unfold buildE at hE
    split at hE
    · split at hE
      · next h => exact h
      · cases hE
    · next h => exact absurd hE h
  · rw [buildL, if_neg hE]; simp
set_option maxRecDepth 100000 in
set_option maxHeartbeats 8000000 in
theorem lkasks_walk (u v : Value) (tl vl : List Int) (T at_ by_ : Int) (x : BitVec 64) (bit : Bool) (pv : Value) (pl : List Int) (w : World) (hl : LaidE w) (hu : Row w 1 u tl.length (tl.map (Value.int .i64))) (hv : Row w 1 v vl.length (vl.map (Value.int .i64)))
    (hub : ∀ z ∈ tl, -9223372036854775808 ≤ z ∧ z ≤ 9223372036854775807) (hvb : ∀ z ∈ vl, -9223372036854775808 ≤ z ∧ z ≤ 9223372036854775807) (hT : -9223372036854775808 ≤ T ∧ T ≤ 9223372036854775807) (hat : -9223372036854775808 ≤ at_ ∧ at_ ≤ 9223372036854775807) (hp : Ints w pv pl) :
    Calls Tryd.prog 4 #[.agg #[u, v, .int .i64 T, .int .i64 at_, .int .i64 by_, U x, .bool bit], pv] w fun r w' => r = .returned (.bool true) ∧ Below w.heap.size w w' := by
  obtain ⟨au, cu, hue, -⟩ := hu.open
  obtain ⟨av, cv, hve, -⟩ := hv.open
  obtain ⟨pa, pc, hpe, -⟩ := Row.open hp
  obtain ⟨w1, hw1, hb1, hlt1, hbox1⟩ := boxed w #[u, v, .int .i64 T, .int .i64 at_, .int .i64 by_, U x, .bool bit] 46
  have q0 : w1.cell? ⟨w.heap.size, 0, none⟩ = some u := hbox1 0
  have q1 : w1.cell? ⟨w.heap.size, 1, none⟩ = some v := hbox1 1
  have q2 : w1.cell? ⟨w.heap.size, 2, none⟩ = some (.int .i64 T) := hbox1 2
  have Hbox := hid hbox1
  have hspec := hid fun W (hW : Below w.heap.size w W) => spec9_any 3 4 (by omega) rfl u v T tl vl W (hu.below hW (Nat.le_refl _)) (hv.below hW (Nat.le_refl _)) hub hvb hT
  have Hp := hid fun W (hW : Below w.heap.size w W) => show Ints W pv pl from Row.below hp hW (Nat.le_refl _)
  obtain ⟨M, hM⟩ : ∃ M, M = pl.length := ⟨_, rfl⟩
  rw [← hM] at hpe
  subst hue hve hpe
  have HLaid := hid hl
  clear hu hv hub hvb hbox1 hl hp hM
  go_enter Tryd.func4, Tryd.ntmps4
  go_wp2_with fail
  ((refine (awake09 _).mono ?_); rintro r2 w2 ⟨rfl, hb2⟩)
  replace q0 := (hb2.cell hlt1).trans q0
  replace q1 := (hb2.cell hlt1).trans q1
  replace q2 := (hb2.cell hlt1).trans q2
  have hb12 := via hb1 hb2
  clear hw1
  go_wp2_with fail
  ((refine (hspec.out _ hb12).mono ?_); rintro r3 w3 ⟨sv, wv, x0, x1, x2, x3, s, t, X, rfl, hb3, hs, hr, ht, hrd, hft, hrow⟩)
  obtain ⟨y0, y1, a2, m2, p2, a3, m3, p3, hcs⟩ := form_S 4 _ _ _ hrd
  simp only [List.cons.injEq] at hcs
  obtain ⟨rfl, rfl, rfl, rfl, _⟩ := hcs
  have hb13 := via hb12 hb3
  clear hspec q0 q1 q2 hb12
  obtain ⟨w4, hw4, hb4, hz4, hV4⟩ := TB.make w3 (.int .u64 0) (.string ⟨#[]⟩) (.slice none 0 0) (.slice none 0 0) 32
  obtain ⟨V, hVe4⟩ : ∃ V, w3.heap.size = V := ⟨_, rfl⟩
  rw [hVe4] at hV4
  have ⟨_, v0, v1, v2, v3, vf⟩ := hV4
  have vf0 := vf 0
  have vf1 := vf 1
  have vf2 := vf 2
  have vf3 := vf 3
  obtain ⟨w5, hx4⟩ : ∃ w5, w5 = (((w4.setCell ⟨V, 0, none⟩ (U y0)).setCell ⟨V, 1, none⟩ (.string y1)).setCell ⟨V, 2, none⟩ (.slice a2 m2 p2)).setCell ⟨V, 3, none⟩ (.slice a3 m3 p3) := ⟨_, rfl⟩
  have hV4 : TB w5 V (U y0) (.string y1) (.slice a2 m2 p2) (.slice a3 m3 p3) := by rw [hx4]; exact (((hV4.set0 _).set1 _).set2 _).set3 _
  have hVl4 : w3.heap.size ≤ V := Nat.le_of_eq hVe4
  have hbb4 : Below w3.heap.size w3 w5 := by
    rw [hx4]
    exact (((hb4.setCell (p := ⟨V, 0, none⟩) hVl4 _).setCell (p := ⟨V, 1, none⟩) hVl4 _).setCell (p := ⟨V, 2, none⟩) hVl4 _).setCell (p := ⟨V, 3, none⟩) hVl4 _
  have hx4' := hx4.symm
  clear hx4 hb4 hz4 vf
  have hb15 := via hb13 hbb4
  have h200 := buildL_len hft
  have Hs := hid fun W (hW : Below w5.heap.size w5 W) => hs.below (hbb4.trans (hW.mono hbb4.size)) (Nat.le_refl _)
  have Hrow := hid fun W (hW : Below w5.heap.size w5 W) => hrow.below (hbb4.trans (hW.mono hbb4.size)) (Nat.le_refl _)
  have Hla := hid fun W (hW : Below w5.heap.size w5 W) => LaidE.below HLaid.out (via hb15 hW) (LaidE.pos HLaid.out)
  have Hp5 := hid fun W (hW : Below w5.heap.size w5 W) => Hp.out W (via hb15 hW)
  have Hcell := hid fun W (hW : Below w5.heap.size w5 W) (j : Nat) => show W.cell? ⟨w.heap.size, j, none⟩ = (#[.slice au tl.length cu, .slice av vl.length cv, .int .i64 T, .int .i64 at_, .int .i64 by_, U x, .bool bit] : Array Value)[j]? from
    (hW.cell (p := ⟨w.heap.size, j, none⟩) (Nat.lt_of_lt_of_le hlt1 (via hb2 (via hb3 hbb4)).size)).trans (((via hb2 (via hb3 hbb4)).cell (p := ⟨w.heap.size, j, none⟩) hlt1).trans (Hbox.out j))
  generalize buildL s 3 t X = ws at *
  obtain ⟨wa, wc, rfl, -⟩ := hrow.open
  obtain ⟨sa, scap, hsv, -⟩ := hs.shape
  obtain ⟨ns, hns⟩ : ∃ ns, ns = s.length := ⟨_, rfl⟩
  rw [← hns] at hsv
  subst hsv
  clear hrd hs hrow hft hr hns ht
  go_wp2_with fail
  clear v0 v1 v2 v3 vf0 vf1 vf2 vf3
  ((refine (lnear_any pl _ _ (Hp5.out _ (Below.refl _ _))).mono ?_); rintro r6 w6 ⟨p6, l6, rfl, hp6, hl6, hb6⟩)
  go_wp2_with fail
  ((refine (asks_any (Hla.out _ hb6) (Hs.out _ hb6) (Hrow.out _ hb6) hp6 hl6.1 hl6.2).mono ?_); rintro r7 w7 ⟨rfl, hb7⟩)
  have hb57 := via hb6 hb7
  have d3 := Hcell.out _ hb57 3
  have d4 := Hcell.out _ hb57 4
  have d5 := Hcell.out _ hb57 5
  have d6 := Hcell.out _ hb57 6
  simp only [List.getElem?_toArray, List.getElem?_cons_succ, List.getElem?_cons_zero] at d3 d4 d5 d6
  go_wp2_with fail
  ((refine (lspoil_any _ ws at_ by_ x bit w7 (Hrow.out _ hb57) (by omega) hat).mono ?_); rintro r8 w8 ⟨xv, xs, rfl, hxl, hxr, hb8⟩)
  have hb58 := via hb57 hb8
  clear d3 d4 d5 d6
  go_wp2_with fail
  ((refine (asks_any (Hla.out _ hb58) (Hs.out _ hb58) hxr (Row.below hp6 (via hb7 hb8) (Nat.le_refl _)) hl6.1 hl6.2).mono ?_); rintro r10 w10 ⟨rfl, hb10⟩)
  go_wp2_with fail
  go_returns
  exact ⟨rfl, via hb15 (via hb58 hb10)⟩

theorem row_lens9 {w : World} {v : Value} {n : Nat} {l : List Int} (h : Row w 1 v n (l.map (Value.int .i64))) : Row w 1 v l.length (l.map (Value.int .i64)) := by
  have : l.length = n := by have := h.len; simpa using this
  rw [this]; exact h
theorem law_LookAsks (u v : Value) (n m : Nat) (tl vl : List Int) (T at_ by_ : Int) (x : BitVec 64) (bit : Bool) (pv : Value) (k : Nat) (pl : List Int) (w : World) (hl : LaidE w) (hu : Row w 1 u n (tl.map (Value.int .i64))) (hv : Row w 1 v m (vl.map (Value.int .i64)))
  (hub : ∀ z ∈ tl, -9223372036854775808 ≤ z ∧ z ≤ 9223372036854775807) (hvb : ∀ z ∈ vl, -9223372036854775808 ≤ z ∧ z ≤ 9223372036854775807) (hT : -9223372036854775808 ≤ T ∧ T ≤ 9223372036854775807) (hat : -9223372036854775808 ≤ at_ ∧ at_ ≤ 9223372036854775807) (hp : Row w 1 pv k (pl.map (Value.int .i64))) :
  Calls Tryd.prog 4 #[.agg #[u, v, .int .i64 T, .int .i64 at_, .int .i64 by_, U x, .bool bit], pv] w fun r w' => r = .returned (.bool true) ∧ Below w.heap.size w w' :=
  lkasks_walk u v tl vl T at_ by_ x bit pv pl w hl (row_lens9 hu) (row_lens9 hv) hub hvb hT hat (row_lens9 hp)
end SLKAsks

end Go.Proofs.YtblbhlgihlgncaaDoor

