/- BuildApart: no two things lie in one word. -/
import Derived.Test.YtogaclolodlnbaaDoorCount
import Derived.Test.YtogaclolodlnbaaDoorMadeB2
set_option linter.unusedVariables false
set_option linter.unusedSimpArgs false
namespace Go.Proofs.YtogaclolodlnbaaDoor
section SLBApart
open Go.RowKit

theorem madeI (n : Nat) : (madeCells (Value.int .i64 0).cells (n * 1)).toList = cntL n (fun _ => 0) := by
  rw [show (Value.int IntKind.i64 0).cells = #[.int .i64 0] from rfl, toList_madeCells_one, Nat.mul_one]
  exact (List.eq_replicate_iff.2 ⟨cntL_len n _, fun b hb => by obtain ⟨q, -, rfl⟩ := List.mem_map.1 hb; rfl⟩).symm

theorem cnt_all (nk b z : Nat) (hz : z = 1 + nk + b) (q : Nat) (hq : q < z) : addV (1 + nk) b (addV 1 nk (addV 0 1 (fun _ => 0))) q = 1 := by
  have h1 : addV 1 nk (addV 0 1 (fun _ => 0)) = addV 0 (1 + nk) (fun _ => 0) := addV_app 0 1 nk (fun _ => 0)
  have h2 : addV (1 + nk) b (addV 0 (1 + nk) (fun _ => 0)) = addV 0 (1 + nk + b) (fun _ => 0) := by
    have := addV_app 0 (1 + nk) b (fun _ => 0)
    rwa [Nat.zero_add] at this
  rw [h1, h2]
  unfold addV
  rw [if_pos ⟨Nat.zero_le _, by omega⟩]
  show wrap64 (0 + 1) = 1
  unfold wrap64
  omega

set_option maxRecDepth 100000 in
set_option maxHeartbeats 8000000 in
theorem bapart_walk (u v : Value) (T : Int) (tl vl : List Int) (w : World) (hl : LaidE w) (hu : Row w 1 u tl.length (tl.map (Value.int .i64))) (hv : Row w 1 v vl.length (vl.map (Value.int .i64)))
    (hub : ∀ z ∈ tl, -9223372036854775808 ≤ z ∧ z ≤ 9223372036854775807) (hvb : ∀ z ∈ vl, -9223372036854775808 ≤ z ∧ z ≤ 9223372036854775807) (hT : -9223372036854775808 ≤ T ∧ T ≤ 9223372036854775807) :
    Calls Tryd.prog 10 #[.agg #[u, v, .int .i64 T]] w fun r w' => r = .returned (.bool true) ∧ Below w.heap.size w w' := by
  obtain ⟨iI, hiI, hzI, hsI, hbI⟩ := info_parts (show (Tryd.prog.info? 3).map (fun i => (i.zero, i.size, i.bytes)) = some (some (.int .i64 0), 1, 8) by kernel_rfl)
  obtain ⟨au, cu, hue, -⟩ := hu.open
  obtain ⟨av, cv, hve, -⟩ := hv.open
  obtain ⟨w1, hw1, hb1, hlt1, hbox1⟩ := boxed w #[u, v, .int .i64 T] 46
  have q0 : w1.cell? ⟨w.heap.size, 0, none⟩ = some u := hbox1 0
  have q1 : w1.cell? ⟨w.heap.size, 1, none⟩ = some v := hbox1 1
  have q2 : w1.cell? ⟨w.heap.size, 2, none⟩ = some (.int .i64 T) := hbox1 2
  have hl1 := LaidE.below hl hb1 (LaidE.pos hl)
  have hspec := hid fun W (hW : Below w.heap.size w W) => spec7_any 3 4 (by omega) rfl u v T tl vl W (hu.below hW (Nat.le_refl _)) (hv.below hW (Nat.le_refl _)) hub hvb hT
  subst hue hve
  have HLaid := hid hl
  clear hu hv hub hvb hbox1 hl
  go_enter Tryd.func10, Tryd.ntmps10
  go_wp2_with fail
  ((refine (awake07 _ hl1).mono ?_); rintro r2 w2 ⟨rfl, hb2⟩)
  replace q0 := (hb2.cell hlt1).trans q0
  replace q1 := (hb2.cell hlt1).trans q1
  replace q2 := (hb2.cell hlt1).trans q2
  have hb12 := via hb1 hb2
  clear hw1
  go_wp2_with fail
  ((refine (hspec.out _ hb12).mono ?_); rintro r3 w3 ⟨sv, s, t, x0, x1, x2, x3, X, rfl, hb3, hs, hr, ht, hs4, hrd, hfit⟩)
  obtain ⟨a2, p2, a, cap, hcs, -, -, -, -, -⟩ := RdN.open hrd
  simp only [List.cons.injEq] at hcs
  obtain ⟨rfl, rfl, rfl, rfl, -⟩ := hcs
  have hb13 := via hb12 hb3
  clear hspec q0 q1 q2 hb2 hb3 hl1 hb12 hb1
  have hcode := fit_code s 4 5 t X hfit (by omega)
  have hC0 : checkC s 4 t X = 0 := by rw [checkC, if_pos ⟨hr, by omega, by omega⟩]; exact hcode
  have hlie := build_lie hcode
  have hwb := words_below 4 X
  obtain ⟨z, hz⟩ : ∃ z, z = 1 + wordsT 4 X := ⟨_, rfl⟩
  rw [← hz] at hlie
  obtain ⟨sa, scap, hsv, -⟩ := hs.shape
  obtain ⟨sn, hsn⟩ : ∃ n, n = s.length := ⟨_, rfl⟩
  rw [← hsn] at hsv
  subst hsv
  obtain ⟨w4, hw4, hb4, hz4, hD⟩ := TB.make w3 (U (Node.num X)) (.string (Node.bytes X)) (.slice a2 (Node.nums X).length p2) (.slice a (Node.kids X).length cap) 49
  have hby := hid fun hE => build_yes (t := (t : Int)) (hs.below hb4 (Nat.le_refl _)) (hrd.below hb4 (Nat.le_refl _)) hE
  have hbn := hid fun x hE hx => build_no (t := (t : Int)) (hs.below hb4 (Nat.le_refl _)) (hrd.below hb4 (Nat.le_refl _)) (x := x) hE hx
  have k0 := hD.c0
  have k1 := hD.c1
  have k2 := hD.c2
  have k3 := hD.c3
  have HLaidW := hid fun W (hW : Below w.heap.size w W) => LaidE.below HLaid.out hW (LaidE.pos HLaid.out)
  have Hlie := hid hlie
  have Hz := hid hz
  have hz0 : 0 < z := by omega
  have HC0 := hid hC0
  have Hcode := hid hcode
  have Hwb := hid hwb
  have Hr := hid hr
  have Ht := hid ht
  have Hs := hid fun W (hW : Below w3.heap.size w3 W) => hs.below hW (Nat.le_refl _)
  clear hs hrd hD hlie hz hC0 hcode hfit hsn ht hs4 hz4 hwb hr
  by_cases hz2 : z ≤ 200
  · have hE : buildE s 3 t X = 0 := by rw [buildE, if_pos HC0.out, if_pos (by rw [← Hz.out]; exact hz2)]
    have hbuild := hid (hby.out hE)
    have htop := hid fun W (hW : Below w.heap.size w W) => top_err 0 W (HLaidW.out W hW)
    rw [show ErrV 0 = .nilIface from rfl] at htop
    have hznz : ((z : Int) == 0) = false := by rw [beq_eq_false_iff_ne]; omega
    clear hE hby hbn
    go_wp2_with fail
    ((refine hbuild.out.mono ?_); rintro r5 w5 ⟨wv, rfl, hrow, hb5⟩)
    have HL := hid Hlie.out.1.symm
    rw [Hlie.out.1] at hrow
    obtain ⟨wa, wc, rfl, -⟩ := hrow.open
    have hB5 := via hb4 hb5
    have hT5 := htop.out w5 (hb13.trans (hB5.mono hb13.size))
    clear k0 k1 k2 k3 hw4 hbuild
    go_wp2_with fail
    ((refine hT5.mono ?_); rintro r6 w6 ⟨rfl, hb6⟩)
    have hB6 := via hB5 hb6
    have hrow6 := hrow.below hb6 (Nat.le_refl _)
    have hs6 := Hs.out w6 hB6
    clear hT5 hrow
    go_wp2_with ((refine wpList_make_full _ rfl (.tmp 39) (.tmp 39) 22 rfl w6.heap.size 3 iI _ 1 Tryd.underlying22 hiI hzI hsI .i64 .i64 _ _ z rfl rfl (by omega) (by omega) (by rw [hbI]; omega) (by unfold maxLen; omega) (Nat.le_refl _) ?_); intro w7 ho7 hg7; have hb7 : Below w6.heap.size w6 w7 := (Below.refl _ w6).grown hg7 (Nat.le_refl _) (fun q e => by cases e); rw [madeI] at ho7; have hC7 := CntS.refl ho7; have hw7 := hC7.word (o := 0) hz0; have n1 := hw7.1; have n2 := hw7.2.1)
    have hW := hw7.2.2
    rw [show wrap64 ((fun _ : Nat => (0 : Int)) 0 + 1) = 1 by show wrap64 (0 + 1) = 1; unfold wrap64; omega] at hW
    have hb67 := hb7.trans (hW.below)
    have hcnt := cnt_any s Hr.out (.slice sa sn scap) (.slice wa z wc) (buildW s 3 t X) w6 4 5 t X 1 (1 + (Node.kids X).length) w6.heap.size w6.heap.size z z _ _ hs6 Ht.out Hcode.out hrow6 Hlie.out.2.2 (Nat.le_refl _) hb67 hb67.size hW.own HL.out hz2 (by omega) (Nat.le_refl _) (Nat.le_refl _) (by have h1 := Hz.out; have h2 := Hwb.out; have h3 : nkT 4 X = (Node.kids X).length := rfl; omega)
    have HA := hid (fun q hq => cnt_all (nkT 4 X) (belowT 4 X) z (by have h1 := Hz.out; have h2 := Hwb.out; omega) q hq)
    have hBW := hb13.trans ((hB6.trans (hb67.mono hB6.size)).mono hb13.size)
    clear n1 n2 hw7 hC7 ho7 hg7 hrow6 hs6
    generalize w7.setCell ⟨w6.heap.size, 0, none⟩ (.int .i64 1) = w8 at *
    ((refine hcnt.mono ?_); rintro r9 w9 ⟨rfl, hC9⟩)
    have hB9 := hBW.trans (hC9.below.mono (Nat.le_trans hb13.size hB6.size))
    have Hcell := hid (fun k (hk : k < z) => (show w9.cell? ⟨w6.heap.size, k, none⟩ = some (.int .i64 1) from by
      have h := (hC9.word hk).1
      rw [show 1 + (Node.kids X).length = 1 + nkT 4 X from rfl, HA.out k hk] at h
      exact h))
    clear hcnt hC9 hW
    go_wp2_with fail
    go_loopw [11, 10] (fun i u wr => ∃ k : Nat, k ≤ z ∧ i = .int .i64 k ∧ u = .bool true ∧ wr = w9) (fun i _ _ => z - (intOf i).toNat)
    case atStart => exact ⟨0, Nat.zero_le _, rfl, rfl, rfl⟩
    case round =>
      obtain ⟨k, hkN, rfl, rfl, rfl⟩ := hrel
      by_cases hlt : k < z
      · have hc := Hcell.out k hlt
        go_wp2_with fail
        go_roundw
        case rel => exact ⟨k + 1, by omega, by go_num, by first | rfl | trivial, by first | rfl | trivial⟩
        case measure => simp [intOf]; omega
      · obtain rfl : k = z := by omega
        clear hlt
        go_wp2_with fail
        go_returns
        exact ⟨rfl, hB9⟩
  · have hE : buildE s 3 t X = 21 := by rw [buildE, if_pos HC0.out, if_neg (by rw [← Hz.out]; exact hz2)]
    have hbuild := hid (hbn.out 21 hE (by decide))
    have htop := hid fun W (hW : Below w.heap.size w W) => top_err 21 W (HLaidW.out W hW)
    rw [errV_ne (show (21 : Int) ≠ 0 by decide)] at htop
    clear hE hby hbn hz2
    go_wp2_with fail
    ((refine hbuild.out.mono ?_); rintro r5 w5 ⟨wa, wc, rfl, hb5⟩)
    have hB5 := hb13.trans ((via hb4 hb5).mono hb13.size)
    have hT5 := htop.out w5 hB5
    clear k0 k1 k2 k3 hw4 hbuild
    go_wp2_with fail
    ((refine hT5.mono ?_); rintro r6 w6 ⟨rfl, hb6⟩)
    have hB6 := via hB5 hb6
    have hT6 := htop.out w6 hB6
    clear hT5
    go_wp2_with fail
    ((refine hT6.mono ?_); rintro r7 w7 ⟨rfl, hb7⟩)
    have hB7 := via hB6 hb7
    clear hT6
    go_wp2_with fail
    go_returns
    exact ⟨rfl, hB7⟩

theorem row_lenS {w : World} {v : Value} {n : Nat} {l : List Int} (h : Row w 1 v n (l.map (Value.int .i64))) : Row w 1 v l.length (l.map (Value.int .i64)) := by
  have : l.length = n := by have := h.len; simpa using this
  rw [this]; exact h
theorem law_BuildApart (u v : Value) (n m : Nat) (tl vl : List Int) (T : Int) (w : World) (hl : LaidE w) (hu : Row w 1 u n (tl.map (Value.int .i64))) (hv : Row w 1 v m (vl.map (Value.int .i64)))
    (hub : ∀ z ∈ tl, -9223372036854775808 ≤ z ∧ z ≤ 9223372036854775807) (hvb : ∀ z ∈ vl, -9223372036854775808 ≤ z ∧ z ≤ 9223372036854775807) (hT : -9223372036854775808 ≤ T ∧ T ≤ 9223372036854775807) :
    Calls Tryd.prog 10 #[.agg #[u, v, .int .i64 T]] w fun r w' => r = .returned (.bool true) ∧ Below w.heap.size w w' :=
  bapart_walk u v T tl vl w hl (row_lenS hu) (row_lenS hv) hub hvb hT
end SLBApart

end Go.Proofs.YtogaclolodlnbaaDoor

