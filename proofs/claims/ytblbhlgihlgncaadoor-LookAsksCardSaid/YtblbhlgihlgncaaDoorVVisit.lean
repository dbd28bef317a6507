/- valid's look: a struct is visited. -/
import Derived.Test.YtblbhlgihlgncaaDoorVRefer
import Derived.Test.YtblbhlgihlgncaaDoorGj
import Derived.Test.YtblbhlgihlgncaaDoorGf
set_option linter.unusedVariables false
set_option linter.unusedSimpArgs false
namespace Go.Proofs.YtblbhlgihlgncaaDoor
section SVVisit
open Go.RowKit

theorem vmost_any (kd : Int) (h1 : 1 ≤ kd) (h5 : kd ≤ 5) (w : World) : Calls Tryd.prog 94 #[.int .i64 kd] w fun r w' => r = .returned (.tuple #[.int .i64 (if kd = 1 then 0 else mostN kd : Nat), .bool (decide (kd ≠ 1))]) ∧ w' = w := by
  rcases (show kd = 1 ∨ kd = 2 ∨ kd = 3 ∨ kd = 4 ∨ kd = 5 by omega) with rfl | rfl | rfl | rfl | rfl
  all_goals
    go_enter Tryd.func94, Tryd.ntmps94
    go_wp2
    go_returns
    exact ⟨rfl, rfl⟩

section
variable {s : Schema} {ws : List (BitVec 64)} {sv : Value} {a : Option Addr} {cap g : Nat} {w0 : World}
theorem vrefer_step (hx : Lx s ws sv a cap g w0) (k : Nat) (hsub : ∀ k', k = k' + 1 → VisC s ws sv a cap g w0 k') : RefC s ws sv a cap g w0 k := by
  intro kd ty p to n c deep w hb hl hc h2 h5 hn0 hn ht hd
  have h40 := mostN_bd kd
  by_cases e2 : kd = 2
  · subst e2
    exact refer_bytes hx ty p to n c deep k w hb hl hc hn0 (by omega) ht
  by_cases e3 : kd = 3
  · subst e3
    exact refer_nums hx ty p to n c deep k w hl hc (by omega) ht
  by_cases hk : k = 0
  · subst hk
    exact refer_deep hx kd ty (by omega) p to n c deep w hl (by omega)
  obtain ⟨k', rfl⟩ : ∃ k', k = k' + 1 := ⟨k - 1, by omega⟩
  refine refer_kids hx kd ty (by omega) p to n c deep k' w (hsub k' rfl) hb hl hc hn0 ?_ ht hd
  unfold mostN at hn
  rw [if_neg e2] at hn
  split at hn <;> omega

set_option maxRecDepth 100000 in
set_option maxHeartbeats 8000000 in
theorem vvisit_step (hx : Lx s ws sv a cap g w0) (k : Nat) (href : RefC s ws sv a cap g w0 k) : VisC s ws sv a cap g w0 k := by
  intro t at' c deep w hb hl hc hat hd
  have hgl := hl.lt
  have hnf := nfields_any s sv t w (hx.hs.below hb hx.hg)
  obtain ⟨N, hN⟩ : ∃ N, N = (typeL s t).length := ⟨_, rfl⟩
  rw [← hN] at hnf hat
  have HN := hid hN
  have hN6 : N ≤ 6 := by rw [hN]; exact typeL_six hx.hr t
  obtain ⟨F, hF⟩ : ∃ F : Nat → Nat → LS, F = fun (i c : Nat) => oneN s ws (subN s ws k) (fieldP s t i) (at' + i) c := ⟨_, rfl⟩
  have Hgoal := hid (show visN s ws k t at' c = runN F N c by rw [hF, hN]; rfl)
  have HF := hid fun (i c : Nat) => show F i c = oneN s ws (subN s ws k) (fieldP s t i) (at' + i) c by rw [hF]
  have Hbd := hid (show ∀ i, Bd ws.length (runN F i c) from fun i => by rw [hF]; exact runN_bd (fun (i : Nat) c hc => oneN_bd hx.hr (subN_bd hx.hr k) _ _ c hc) i c hc)
  have c0 := hl.c0
  have Hb := hid hb
  have Hx := hid hx
  have Href := hid href
  have hL := hx.hL
  obtain ⟨L, hLe⟩ : ∃ L, L = ws.length := ⟨_, rfl⟩
  have hLb : 0 < N → ∃ bw offw, a = some ⟨bw, offw, none⟩ ∧ bw < g ∧ ∀ j, j < ws.length → w0.cell? ⟨bw, offw + j, none⟩ = (ws.map U)[j]? := fun h0 => by
    obtain ⟨bw, offw, cap', he, hcap1, hcap2, hbw0, hcw0⟩ := hx.hw.cons (by omega)
    simp only [Value.slice.injEq, true_and] at he
    exact ⟨bw, offw, he.1, Nat.lt_of_lt_of_le hbw0 hx.hg, fun j hj => hcw0 j (by omega)⟩
  rw [← hLe] at hc hat hL hl hLb
  have HL := hid hLe
  unfold RetL
  rw [← hLe]
  have HLb := hid hLb
  have Hright := hid fun (i : Nat) (hi : i < N) => show 1 ≤ (fieldP s t i).1 ∧ (fieldP s t i).1 ≤ 5 from by
    rw [hN] at hi
    have ht : 0 ≤ t ∧ t < s.length := by
      by_cases h : 0 ≤ t ∧ t < s.length
      · exact h
      · rw [typeL_out h] at hi; simp at hi
    obtain ⟨tn, rfl⟩ : ∃ n : Nat, t = n := ⟨t.toNat, by omega⟩
    obtain ⟨l, hl⟩ := get_lt (l := s) (i := tn) (by omega)
    rw [typeL_at hl] at hi
    obtain ⟨p, hp⟩ := get_lt hi
    obtain ⟨h1, h2, _⟩ := right_at hx.hr hl hp
    rw [show fieldP s tn i = p from fieldP_at (by rw [typeL_at hl]; exact hp)]
    exact ⟨h1, h2⟩
  clear hN hF hb href hx hLe hLb
  go_enter Tryd.func93, Tryd.ntmps93
  go_wp2_with fail
  ((refine hnf.mono ?_); rintro r wn ⟨rfl, rfl⟩)
  clear hnf c0
  go_wp2_with fail
  go_loopw [20] (fun iv wr => ∃ (i ci : Nat), i ≤ N ∧ iv = .int .i64 i ∧ runN F i c = (ci, none) ∧ LkB wr g sv (.slice a L cap) ci ∧ wn.grownBy wr (some g)) (fun iv _ => N - (intOf iv).toNat)
  case atStart => exact ⟨0, c, Nat.zero_le _, rfl, rfl, hl, grown_refl _ _⟩
  case round =>
    clear hl
    obtain ⟨i, ci, hiM, rfl, hR, k1, k2⟩ := hrel
    have HR := hid hR
    clear hR
    by_cases hlt : i < N
    · have hci := (Hbd.out i).ok (by rw [HR.out])
      rw [HR.out, ← HL.out] at hci
      simp only at hci
      obtain ⟨hkd1, hkd5⟩ := Hright.out i hlt
      have hkind := hid fun W (hW : Sch W sv s) => kind_any s sv t i W hW
      have htype := hid fun W (hW : Sch W sv s) => type_any s sv t i W hW
      have Hnext := hid (show runN F (i + 1) c = oneN s ws (subN s ws k) ((fieldP s t i).1, (fieldP s t i).2) (at' + i) ci by rw [runN_ok HR.out, HF.out])
      obtain ⟨bw, offw, rfl, hbw, hcw⟩ := HLb.out (by omega)
      obtain ⟨x, hxe⟩ : ∃ x, ws[at' + i]? = some x := get_lt (by rw [← HL.out]; omega)
      have hxc0 := hcw (at' + i) (by omega)
      rw [List.getElem?_map, hxe, Option.map_some] at hxc0
      have Hgd := hid (show ws.getD (at' + i) 0#64 = x by rw [List.getD_eq_getElem?_getD, hxe]; rfl)
      generalize (fieldP s t i).1 = kd at *
      generalize (fieldP s t i).2 = ty at *
      have hmost := vmost_any kd hkd1 hkd5
      have hati : IntKind.i64.wrap ((at' : Int) + (i : Int)) = ((at' + i : Nat) : Int) := by rw [← Int.natCast_add]; exact IntWalk.i64_in _ (by omega)
      obtain ⟨p, hpe⟩ : ∃ p, p = at' + i := ⟨_, rfl⟩
      have hpL : (p : Int) < (L : Int) := by omega
      rw [← hpe] at hati hxc0 Hnext Hgd
      have Hp := hid hpe
      have Hb0 := hid fun W (hW : Below wr.heap.size wr W) => show Below g w0 W from (below_grown Hb.out k2 (Nat.le_of_lt hgl)).trans (hW.mono (Nat.le_trans (Nat.le_of_lt hgl) k2.size))
      have Hlk := hid fun W (hW : Below wr.heap.size wr W) => k1.below hW
      have Hgr := hid fun W (hW : Below wr.heap.size wr W) => grown_below k2 hW
      have Hsch := hid fun W (hW : Below wr.heap.size wr W) => Hx.out.hs.below (Hb0.out W hW) Hx.out.hg
      have c0 := k1.c0
      have hend := vend_any 10 (p : Int)
      have Hend := hid fun (c2 : Nat) (e : Int × Nat) (h : runN F (i + 1) c = (c2, some e)) => show runN F N c = (c2, some e) by
        have h := runN_bad h (N - (i + 1))
        rwa [show i + 1 + (N - (i + 1)) = N by omega] at h
      clear hxe hcw k1 k2 hpe
      by_cases hk1 : kd = 1
      · subst hk1
        have hnext := hid (show runN F (i + 1) c = (ci, none) by rw [Hnext.out]; unfold oneN; rw [if_pos (.inl rfl)])
        go_wp2_with fail
        ((refine (hkind.out _ (Hsch.out _ (Below.refl _ _))).mono ?_); rintro r w1 ⟨rfl, hb1⟩)
        go_wp2_with fail
        ((refine (hmost _).mono ?_); rintro r w1' ⟨rfl, rfl⟩)
        go_wp2_with fail
        go_roundw
        case rel => exact ⟨i + 1, ci, by omega, by go_num, hnext.out, Hlk.out _ hb1, Hgr.out _ hb1⟩
        case measure => simp [intOf]; omega
      rw [if_neg hk1, decide_eq_true (show kd ≠ 1 from hk1)] at hmost
      by_cases hx0 : x = 0#64
      · have hnext := hid (show runN F (i + 1) c = (ci, none) by rw [Hnext.out]; unfold oneN; rw [Hgd.out, if_pos (.inr hx0)])
        subst hx0
        go_wp2_with fail
        ((refine (hkind.out _ (Hsch.out _ (Below.refl _ _))).mono ?_); rintro r w1 ⟨rfl, hb1⟩)
        go_wp2_with fail
        ((refine (hmost _).mono ?_); rintro r w1' ⟨rfl, rfl⟩)
        have c1 := (Hlk.out _ hb1).c1
        have xc := ((Hb0.out _ hb1).cell (p := ⟨bw, offw + p, none⟩) hbw).trans hxc0
        go_wp2_with fail
        go_roundw
        case rel => exact ⟨i + 1, ci, by omega, by go_num, hnext.out, Hlk.out _ hb1, Hgr.out _ hb1⟩
        case measure => simp [intOf]; omega
      have nx0 : (x == 0#64) = false := by rw [beq_eq_false_iff_ne]; exact hx0
      have hpart := part_any x
      rw [show loV x = ((loN x : Nat) : Int) from rfl, show hiV x = ((hiN x : Nat) : Int) from rfl] at hpart
      have Hcond := hid (show runN F (i + 1) c = if loN x = 0 ∨ hiN x = 0 ∨ mostN kd < hiN x then (ci, some (10, p)) else refN s ws (subN s ws k) kd ty p (p + loN x) (hiN x) ci by
        rw [Hnext.out]
        unfold oneN
        rw [Hgd.out, if_neg (fun h => h.elim hk1 hx0)])
      have hlo2 : loN x < 4294967296 := by unfold loN; omega
      have hhi2 : hiN x < 4294967296 := by unfold hiN; have := x.isLt; omega
      have hm40 := mostN_bd kd
      generalize loN x = off at *
      generalize hiN x = num at *
      have Hrefer := hid fun (W : World) (hW : Below wr.heap.size wr W) (h0 : 0 < num) (hm : num ≤ mostN kd) => Href.out kd ty p (p + off) num ci deep W (Hb0.out W hW) (by rw [← HL.out]; exact Hlk.out W hW) (by rw [← HL.out]; exact hci) (by omega) hkd5 h0 hm (by omega) hd
      generalize mostN kd = mst at *
      clear Hnext Hgd
      by_cases hbad : off = 0 ∨ num = 0 ∨ mst < num
      · have Hfin := hid (Hend.out _ _ (Hcond.out.trans (if_pos hbad)))
        clear Hrefer
        have c1 := (Hlk.out _ (Below.refl _ _)).c1
        by_cases ho : off = 0
        · subst ho
          clear hbad
          go_wp2_with fail
          ((refine (hkind.out _ (Hsch.out _ (Below.refl _ _))).mono ?_); rintro r w1 ⟨rfl, hb1⟩)
          go_wp2_with fail
          ((refine (hmost _).mono ?_); rintro r w1' ⟨rfl, rfl⟩)
          have c1 := (Hlk.out _ hb1).c1
          have xc := ((Hb0.out _ hb1).cell (p := ⟨bw, offw + p, none⟩) hbw).trans hxc0
          go_wp2_with fail
          ((refine (hpart _).mono ?_); rintro r w1' ⟨rfl, rfl⟩)
          go_wp2_with fail
          ((refine (hend _).mono ?_); rintro r w3 ⟨rfl, rfl⟩)
          go_wp2_with fail
          exact ⟨rfl, by rw [Hgoal.out, Hfin.out]; rfl, by rw [Hgoal.out, Hfin.out]; exact Hlk.out _ hb1, Hgr.out _ hb1⟩
        · have hoff0 : ((off : Int) == 0) = false := by rw [beq_eq_false_iff_ne]; omega
          by_cases hn : num = 0
          · subst hn
            clear hbad ho
            go_wp2_with fail
            ((refine (hkind.out _ (Hsch.out _ (Below.refl _ _))).mono ?_); rintro r w1 ⟨rfl, hb1⟩)
            go_wp2_with fail
            ((refine (hmost _).mono ?_); rintro r w1' ⟨rfl, rfl⟩)
            have c1 := (Hlk.out _ hb1).c1
            have xc := ((Hb0.out _ hb1).cell (p := ⟨bw, offw + p, none⟩) hbw).trans hxc0
            go_wp2_with fail
            ((refine (hpart _).mono ?_); rintro r w1' ⟨rfl, rfl⟩)
            go_wp2_with fail
            ((refine (hend _).mono ?_); rintro r w3 ⟨rfl, rfl⟩)
            go_wp2_with fail
            exact ⟨rfl, by rw [Hgoal.out, Hfin.out]; rfl, by rw [Hgoal.out, Hfin.out]; exact Hlk.out _ hb1, Hgr.out _ hb1⟩
          · have hnum0 : ((num : Int) == 0) = false := by rw [beq_eq_false_iff_ne]; omega
            have hgt : (mst : Int) < (num : Int) := by omega
            clear hbad ho hn
            go_wp2_with fail
            ((refine (hkind.out _ (Hsch.out _ (Below.refl _ _))).mono ?_); rintro r w1 ⟨rfl, hb1⟩)
            go_wp2_with fail
            ((refine (hmost _).mono ?_); rintro r w1' ⟨rfl, rfl⟩)
            have c1 := (Hlk.out _ hb1).c1
            have xc := ((Hb0.out _ hb1).cell (p := ⟨bw, offw + p, none⟩) hbw).trans hxc0
            go_wp2_with fail
            ((refine (hpart _).mono ?_); rintro r w1' ⟨rfl, rfl⟩)
            go_wp2_with fail
            ((refine (hend _).mono ?_); rintro r w3 ⟨rfl, rfl⟩)
            go_wp2_with fail
            exact ⟨rfl, by rw [Hgoal.out, Hfin.out]; rfl, by rw [Hgoal.out, Hfin.out]; exact Hlk.out _ hb1, Hgr.out _ hb1⟩
      · have hgood := Hcond.out.trans (if_neg hbad)
        have hoff0 : ((off : Int) == 0) = false := by rw [beq_eq_false_iff_ne]; omega
        have hnum0 : ((num : Int) == 0) = false := by rw [beq_eq_false_iff_ne]; omega
        have hle : (num : Int) ≤ (mst : Int) := by omega
        have hrf := hid fun W hW => Hrefer.out W hW (by omega) (by omega)
        unfold RetL at hrf
        rw [← hgood, ← HL.out] at hrf
        have hpo : IntKind.i64.wrap ((p : Int) + (off : Int)) = ((p + off : Nat) : Int) := by rw [← Int.natCast_add]; exact IntWalk.i64_in _ (by omega)
        obtain ⟨⟨c2, e2⟩, hC⟩ : ∃ r, runN F (i + 1) c = r := ⟨_, rfl⟩
        rw [hC] at hrf
        have HC := hid hC
        clear Hrefer hgood hbad Hcond hC
        go_wp2_with fail
        ((refine (hkind.out _ (Hsch.out _ (Below.refl _ _))).mono ?_); rintro r w1 ⟨rfl, hb1⟩)
        go_wp2_with fail
        ((refine (hmost _).mono ?_); rintro r w1' ⟨rfl, rfl⟩)
        have c1 := (Hlk.out _ hb1).c1
        have xc := ((Hb0.out _ hb1).cell (p := ⟨bw, offw + p, none⟩) hbw).trans hxc0
        go_wp2_with fail
        ((refine (hpart _).mono ?_); rintro r w1' ⟨rfl, rfl⟩)
        go_wp2_with fail
        clear c1 xc hkd1
        have hbs := via hb1 (below_drewN _ _ 1)
        cases e2 with
        | none =>
          simp only [EndV] at hrf
          refine wp_region_held_drew (S := (fun W => W.cell? ⟨g, 0, none⟩ = some sv)) (by kernel_rfl) ?_ (fun hHeld => ?_)
          · exact (Hlk.out _ hbs).c0
          refine wpAnyH_take (i := 0) (oi := { dst := some 73, op := Op.move (Operand.tmp 0), type := 157, pos := "valid.go:66", after := #[], guard := none }) (v := ?vn0) rfl (by kernel_rfl) (by kernel_rfl) (by kernel_rfl) (fun _ _ _ h => h) (Or.inl ⟨by rfl, ?hyn0⟩) (by assumption) ?restn0
          case hyn0 => first | (intro w hSw; (try dsimp only at hSw); go_simp; done) | (intro w hSw; (try dsimp only at hSw); go_simp; with_reducible rfl)
          try simp only [Act.put, List.setIfInBounds_toArray, List.set_cons_zero, List.set_cons_succ]
          refine wpAnyH_take (i := 1) (oi := { dst := some 74, op := Op.move (Operand.tmp 0), type := 157, pos := "valid.go:66", after := #[], guard := none }) (v := ?vn1) rfl (by kernel_rfl) (by kernel_rfl) (by kernel_rfl) (fun _ _ _ h => h) (Or.inl ⟨by rfl, ?hyn1⟩) (by assumption) ?restn1
          case hyn1 => first | (intro w hSw; (try dsimp only at hSw); go_simp; done) | (intro w hSw; (try dsimp only at hSw); go_simp; with_reducible rfl)
          try simp only [Act.put, List.setIfInBounds_toArray, List.set_cons_zero, List.set_cons_succ]
          refine wpAnyH_take (i := 2) (oi := { dst := some 75, op := Op.nilCheck (Operand.tmp 74), type := 0, pos := "valid.go:66", after := #[{ on := 1, ground := Ground.data }], guard := none }) (v := ?vn2) rfl (by kernel_rfl) (by kernel_rfl) (by kernel_rfl) (fun _ _ _ h => h) (Or.inl ⟨by rfl, ?hyn2⟩) (by assumption) ?restn2
          case hyn2 => first | (intro w hSw; (try dsimp only at hSw); go_simp; done) | (intro w hSw; (try dsimp only at hSw); go_simp; with_reducible rfl)
          try simp only [Act.put, List.setIfInBounds_toArray, List.set_cons_zero, List.set_cons_succ]
          refine wpAnyH_take (i := 3) (oi := { dst := some 76, op := Op.fieldAddr 159 (Operand.tmp 75) 0, type := 0, pos := "valid.go:66", after := #[{ on := 2, ground := Ground.data }], guard := none }) (v := ?vn3) rfl (by kernel_rfl) (by kernel_rfl) (by kernel_rfl) (fun _ _ _ h => h) (Or.inl ⟨by rfl, ?hyn3⟩) (by assumption) ?restn3
          case hyn3 => first | (intro w hSw; (try dsimp only at hSw); go_simp; done) | (intro w hSw; (try dsimp only at hSw); go_simp; with_reducible rfl)
          try simp only [Act.put, List.setIfInBounds_toArray, List.set_cons_zero, List.set_cons_succ]
          refine wpAnyH_take (i := 4) (oi := { dst := some 77, op := Op.load 27 (Operand.tmp 76), type := 27, pos := "valid.go:66", after := #[{ on := 3, ground := Ground.data }], guard := none }) (v := ?vn4) rfl (by kernel_rfl) (by kernel_rfl) (by kernel_rfl) (fun _ _ _ h => h) (Or.inl ⟨by rfl, ?hyn4⟩) (by assumption) ?restn4
          case hyn4 => first | (intro w hSw; (try dsimp only at hSw); go_simp; done) | (intro w hSw; (try dsimp only at hSw); go_simp; with_reducible rfl)
          try simp only [Act.put, List.setIfInBounds_toArray, List.set_cons_zero, List.set_cons_succ]
          refine wpAnyH_take (i := 5) (oi := { dst := some 78, op := Op.move (Operand.tmp 1), type := 3, pos := "valid.go:66", after := #[], guard := none }) (v := ?vn5) rfl (by kernel_rfl) (by kernel_rfl) (by kernel_rfl) (fun _ _ _ h => h) (Or.inl ⟨by rfl, ?hyn5⟩) (by assumption) ?restn5
          case hyn5 => first | (intro w hSw; (try dsimp only at hSw); go_simp; done) | (intro w hSw; (try dsimp only at hSw); go_simp; with_reducible rfl)
          try simp only [Act.put, List.setIfInBounds_toArray, List.set_cons_zero, List.set_cons_succ]
          refine wpAnyH_take (i := 6) (oi := { dst := some 79, op := Op.move (Operand.tmp 8), type := 3, pos := "valid.go:66", after := #[], guard := none }) (v := ?vn6) rfl (by kernel_rfl) (by kernel_rfl) (by kernel_rfl) (fun _ _ _ h => h) (Or.inl ⟨by rfl, ?hyn6⟩) (by assumption) ?restn6
          case hyn6 => first | (intro w hSw; (try dsimp only at hSw); go_simp; done) | (intro w hSw; (try dsimp only at hSw); go_simp; with_reducible rfl)
          try simp only [Act.put, List.setIfInBounds_toArray, List.set_cons_zero, List.set_cons_succ]
          refine wpAnyH_take (i := 8) (oi := { dst := some 81, op := Op.move (Operand.tmp 0), type := 157, pos := "valid.go:66", after := #[], guard := none }) (v := ?vn8) rfl (by kernel_rfl) (by kernel_rfl) (by kernel_rfl) (fun _ _ _ h => h) (Or.inl ⟨by rfl, ?hyn8⟩) (by assumption) ?restn8
          case hyn8 => first | (intro w hSw; (try dsimp only at hSw); go_simp; done) | (intro w hSw; (try dsimp only at hSw); go_simp; with_reducible rfl)
          try simp only [Act.put, List.setIfInBounds_toArray, List.set_cons_zero, List.set_cons_succ]
          refine wpAnyH_take (i := 9) (oi := { dst := some 82, op := Op.nilCheck (Operand.tmp 81), type := 0, pos := "valid.go:66", after := #[{ on := 8, ground := Ground.data }], guard := none }) (v := ?vn9) rfl (by kernel_rfl) (by kernel_rfl) (by kernel_rfl) (fun _ _ _ h => h) (Or.inl ⟨by rfl, ?hyn9⟩) (by assumption) ?restn9
          case hyn9 => first | (intro w hSw; (try dsimp only at hSw); go_simp; done) | (intro w hSw; (try dsimp only at hSw); go_simp; with_reducible rfl)
          try simp only [Act.put, List.setIfInBounds_toArray, List.set_cons_zero, List.set_cons_succ]
          refine wpAnyH_take (i := 10) (oi := { dst := some 83, op := Op.fieldAddr 159 (Operand.tmp 82) 0, type := 0, pos := "valid.go:66", after := #[{ on := 9, ground := Ground.data }], guard := none }) (v := ?vn10) rfl (by kernel_rfl) (by kernel_rfl) (by kernel_rfl) (fun _ _ _ h => h) (Or.inl ⟨by rfl, ?hyn10⟩) (by assumption) ?restn10
          case hyn10 => first | (intro w hSw; (try dsimp only at hSw); go_simp; done) | (intro w hSw; (try dsimp only at hSw); go_simp; with_reducible rfl)
          try simp only [Act.put, List.setIfInBounds_toArray, List.set_cons_zero, List.set_cons_succ]
          refine wpAnyH_take (i := 11) (oi := { dst := some 84, op := Op.load 27 (Operand.tmp 83), type := 27, pos := "valid.go:66", after := #[{ on := 10, ground := Ground.data }], guard := none }) (v := ?vn11) rfl (by kernel_rfl) (by kernel_rfl) (by kernel_rfl) (fun _ _ _ h => h) (Or.inl ⟨by rfl, ?hyn11⟩) (by assumption) ?restn11
          case hyn11 => first | (intro w hSw; (try dsimp only at hSw); go_simp; done) | (intro w hSw; (try dsimp only at hSw); go_simp; with_reducible rfl)
          try simp only [Act.put, List.setIfInBounds_toArray, List.set_cons_zero, List.set_cons_succ]
          refine wpAnyH_take (i := 12) (oi := { dst := some 85, op := Op.move (Operand.tmp 1), type := 3, pos := "valid.go:66", after := #[], guard := none }) (v := ?vn12) rfl (by kernel_rfl) (by kernel_rfl) (by kernel_rfl) (fun _ _ _ h => h) (Or.inl ⟨by rfl, ?hyn12⟩) (by assumption) ?restn12
          case hyn12 => first | (intro w hSw; (try dsimp only at hSw); go_simp; done) | (intro w hSw; (try dsimp only at hSw); go_simp; with_reducible rfl)
          try simp only [Act.put, List.setIfInBounds_toArray, List.set_cons_zero, List.set_cons_succ]
          refine wpAnyH_take (i := 13) (oi := { dst := some 86, op := Op.move (Operand.tmp 8), type := 3, pos := "valid.go:66", after := #[], guard := none }) (v := ?vn13) rfl (by kernel_rfl) (by kernel_rfl) (by kernel_rfl) (fun _ _ _ h => h) (Or.inl ⟨by rfl, ?hyn13⟩) (by assumption) ?restn13
          case hyn13 => first | (intro w hSw; (try dsimp only at hSw); go_simp; done) | (intro w hSw; (try dsimp only at hSw); go_simp; with_reducible rfl)
          try simp only [Act.put, List.setIfInBounds_toArray, List.set_cons_zero, List.set_cons_succ]
          refine wpAnyH_take (i := 15) (oi := { dst := some 88, op := Op.move (Operand.tmp 9), type := 3, pos := "valid.go:66", after := #[], guard := none }) (v := ?vn15) rfl (by kernel_rfl) (by kernel_rfl) (by kernel_rfl) (fun _ _ _ h => h) (Or.inl ⟨by rfl, ?hyn15⟩) (by assumption) ?restn15
          case hyn15 => first | (intro w hSw; (try dsimp only at hSw); go_simp; done) | (intro w hSw; (try dsimp only at hSw); go_simp; with_reducible rfl)
          try simp only [Act.put, List.setIfInBounds_toArray, List.set_cons_zero, List.set_cons_succ]
          refine wpAnyH_take (i := 16) (oi := { dst := some 89, op := Op.move (Operand.tmp 9), type := 3, pos := "valid.go:66", after := #[], guard := none }) (v := ?vn16) rfl (by kernel_rfl) (by kernel_rfl) (by kernel_rfl) (fun _ _ _ h => h) (Or.inl ⟨by rfl, ?hyn16⟩) (by assumption) ?restn16
          case hyn16 => first | (intro w hSw; (try dsimp only at hSw); go_simp; done) | (intro w hSw; (try dsimp only at hSw); go_simp; with_reducible rfl)
          try simp only [Act.put, List.setIfInBounds_toArray, List.set_cons_zero, List.set_cons_succ]
          refine wpAnyH_take (i := 17) (oi := { dst := some 90, op := Op.move (Operand.tmp 12), type := 3, pos := "valid.go:66", after := #[], guard := none }) (v := ?vn17) rfl (by kernel_rfl) (by kernel_rfl) (by kernel_rfl) (fun _ _ _ h => h) (Or.inl ⟨by rfl, ?hyn17⟩) (by assumption) ?restn17
          case hyn17 => first | (intro w hSw; (try dsimp only at hSw); go_simp; done) | (intro w hSw; (try dsimp only at hSw); go_simp; with_reducible rfl)
          try simp only [Act.put, List.setIfInBounds_toArray, List.set_cons_zero, List.set_cons_succ]
          refine wpAnyH_take (i := 18) (oi := { dst := some 91, op := Op.binOp BinOp.add 3 (Operand.tmp 89) (Operand.tmp 90) 3, type := 3, pos := "valid.go:66", after := #[{ on := 16, ground := Ground.data }, { on := 17, ground := Ground.data }], guard := none }) (v := ?vn18) rfl (by kernel_rfl) (by kernel_rfl) (by kernel_rfl) (fun _ _ _ h => h) (Or.inl ⟨by rfl, ?hyn18⟩) (by assumption) ?restn18
          case hyn18 => first | (intro w hSw; (try dsimp only at hSw); go_simp; done) | (intro w hSw; (try dsimp only at hSw); go_simp; with_reducible rfl)
          try simp only [Act.put, List.setIfInBounds_toArray, List.set_cons_zero, List.set_cons_succ]
          refine wpAnyH_take (i := 19) (oi := { dst := some 92, op := Op.move (Operand.tmp 13), type := 3, pos := "valid.go:66", after := #[], guard := none }) (v := ?vn19) rfl (by kernel_rfl) (by kernel_rfl) (by kernel_rfl) (fun _ _ _ h => h) (Or.inl ⟨by rfl, ?hyn19⟩) (by assumption) ?restn19
          case hyn19 => first | (intro w hSw; (try dsimp only at hSw); go_simp; done) | (intro w hSw; (try dsimp only at hSw); go_simp; with_reducible rfl)
          try simp only [Act.put, List.setIfInBounds_toArray, List.set_cons_zero, List.set_cons_succ]
          refine wpAnyH_take (i := 20) (oi := { dst := some 93, op := Op.move (Operand.tmp 3), type := 3, pos := "valid.go:66", after := #[], guard := none }) (v := ?vn20) rfl (by kernel_rfl) (by kernel_rfl) (by kernel_rfl) (fun _ _ _ h => h) (Or.inl ⟨by rfl, ?hyn20⟩) (by assumption) ?restn20
          case hyn20 => first | (intro w hSw; (try dsimp only at hSw); go_simp; done) | (intro w hSw; (try dsimp only at hSw); go_simp; with_reducible rfl)
          try simp only [Act.put, List.setIfInBounds_toArray, List.set_cons_zero, List.set_cons_succ]
          refine wpAnyH_ready (rs := [7]) (by kernel_rfl) (by simp) ?_
          refine AllReadyH.cons (o := { dst := some 80, op := Op.call { callee := Callee.value (Operand.func 34), args := #[Operand.tmp 77, Operand.tmp 78, Operand.tmp 79], argTypes := #[27, 3, 3] }, type := 3, pos := "valid.go:66", after := #[{ on := 4, ground := Ground.data }, { on := 5, ground := Ground.data }, { on := 6, ground := Ground.data }], guard := none }) rfl (fun K hK => ?_) AllReadyH.nil
          go_simp
          ((refine (hkind.out _ (Hsch.out _ hbs)).mono ?_); rintro rr5 wr5 ⟨rfl, hbr5⟩)
          have har5 := via hbs hbr5
          refine hK.out _ _ ?_ (fun hHeld => ?_)
          · exact (Hlk.out _ har5).c0
          clear hK K
          try simp only [Act.put, List.setIfInBounds_toArray, List.set_cons_zero, List.set_cons_succ]
          refine wpAnyH_ready (rs := [14]) (by kernel_rfl) (by simp) ?_
          refine AllReadyH.cons (o := { dst := some 87, op := Op.call { callee := Callee.value (Operand.func 35), args := #[Operand.tmp 84, Operand.tmp 85, Operand.tmp 86], argTypes := #[27, 3, 3] }, type := 3, pos := "valid.go:66", after := #[{ on := 11, ground := Ground.data }, { on := 12, ground := Ground.data }, { on := 13, ground := Ground.data }, { on := 7, ground := Ground.chain }], guard := none }) rfl (fun K hK => ?_) AllReadyH.nil
          go_simp
          ((refine (htype.out _ (Hsch.out _ har5)).mono ?_); rintro rr6 wr6 ⟨rfl, hbr6⟩)
          have har6 := via har5 hbr6
          refine hK.out _ _ ?_ (fun hHeld => ?_)
          · exact (Hlk.out _ har6).c0
          clear hK K
          try simp only [Act.put, List.setIfInBounds_toArray, List.set_cons_zero, List.set_cons_succ]
          refine wpAnyH_ready (rs := [21]) (by kernel_rfl) (by simp) ?_
          refine AllReadyH.cons (o := { dst := some 94, op := Op.call { callee := Callee.value (Operand.func 95), args := #[Operand.tmp 73, Operand.tmp 80, Operand.tmp 87, Operand.tmp 88, Operand.tmp 91, Operand.tmp 92, Operand.tmp 93], argTypes := #[157, 3, 3, 3, 3, 3, 3] }, type := 0, pos := "valid.go:66", after := #[{ on := 0, ground := Ground.data }, { on := 7, ground := Ground.data }, { on := 14, ground := Ground.data }, { on := 15, ground := Ground.data }, { on := 18, ground := Ground.data }, { on := 19, ground := Ground.data }, { on := 20, ground := Ground.data }, { on := 14, ground := Ground.chain }], guard := none }) rfl (fun K hK => ?_) AllReadyH.nil
          go_simp
          ((refine (hrf.out _ har6).mono ?_); rintro rr7 wr7 ⟨rfl, k3, k4⟩)
          refine hK.out _ _ ?_ (fun hHeld => ?_)
          · exact k3.c0
          clear hK K
          try simp only [Act.put, List.setIfInBounds_toArray, List.set_cons_zero, List.set_cons_succ]
          refine wpAnyH_done (by kernel_rfl) ?_ _
          have hfin := hid (show LkB wr7 g sv (.slice (some ⟨bw, offw, none⟩) L cap) c2 ∧ wn.grownBy wr7 (some g) from ⟨k3, grown_trans (Hgr.out _ har6) k4⟩)
          clear k3 k4 har6 har5 hbr5 hbr6 hHeld hbs hb1
          go_wp2_with fail
          go_roundw
          case rel => exact ⟨i + 1, c2, by omega, by go_num, HC.out, hfin.out⟩
          case measure => simp [intOf]; omega
        | some e =>
          obtain ⟨e, q⟩ := e
          have Hfin := hid (Hend.out _ _ HC.out)
          simp only [EndV] at hrf
          refine wp_region_held_drew (S := (fun W => W.cell? ⟨g, 0, none⟩ = some sv)) (by kernel_rfl) ?_ (fun hHeld => ?_)
          · exact (Hlk.out _ hbs).c0
          refine wpAnyH_take (i := 0) (oi := { dst := some 73, op := Op.move (Operand.tmp 0), type := 157, pos := "valid.go:66", after := #[], guard := none }) (v := ?vs0) rfl (by kernel_rfl) (by kernel_rfl) (by kernel_rfl) (fun _ _ _ h => h) (Or.inl ⟨by rfl, ?hys0⟩) (by assumption) ?rests0
          case hys0 => first | (intro w hSw; (try dsimp only at hSw); go_simp; done) | (intro w hSw; (try dsimp only at hSw); go_simp; with_reducible rfl)
          try simp only [Act.put, List.setIfInBounds_toArray, List.set_cons_zero, List.set_cons_succ]
          refine wpAnyH_take (i := 1) (oi := { dst := some 74, op := Op.move (Operand.tmp 0), type := 157, pos := "valid.go:66", after := #[], guard := none }) (v := ?vs1) rfl (by kernel_rfl) (by kernel_rfl) (by kernel_rfl) (fun _ _ _ h => h) (Or.inl ⟨by rfl, ?hys1⟩) (by assumption) ?rests1
          case hys1 => first | (intro w hSw; (try dsimp only at hSw); go_simp; done) | (intro w hSw; (try dsimp only at hSw); go_simp; with_reducible rfl)
          try simp only [Act.put, List.setIfInBounds_toArray, List.set_cons_zero, List.set_cons_succ]
          refine wpAnyH_take (i := 2) (oi := { dst := some 75, op := Op.nilCheck (Operand.tmp 74), type := 0, pos := "valid.go:66", after := #[{ on := 1, ground := Ground.data }], guard := none }) (v := ?vs2) rfl (by kernel_rfl) (by kernel_rfl) (by kernel_rfl) (fun _ _ _ h => h) (Or.inl ⟨by rfl, ?hys2⟩) (by assumption) ?rests2
          case hys2 => first | (intro w hSw; (try dsimp only at hSw); go_simp; done) | (intro w hSw; (try dsimp only at hSw); go_simp; with_reducible rfl)
          try simp only [Act.put, List.setIfInBounds_toArray, List.set_cons_zero, List.set_cons_succ]
          refine wpAnyH_take (i := 3) (oi := { dst := some 76, op := Op.fieldAddr 159 (Operand.tmp 75) 0, type := 0, pos := "valid.go:66", after := #[{ on := 2, ground := Ground.data }], guard := none }) (v := ?vs3) rfl (by kernel_rfl) (by kernel_rfl) (by kernel_rfl) (fun _ _ _ h => h) (Or.inl ⟨by rfl, ?hys3⟩) (by assumption) ?rests3
          case hys3 => first | (intro w hSw; (try dsimp only at hSw); go_simp; done) | (intro w hSw; (try dsimp only at hSw); go_simp; with_reducible rfl)
          try simp only [Act.put, List.setIfInBounds_toArray, List.set_cons_zero, List.set_cons_succ]
          refine wpAnyH_take (i := 4) (oi := { dst := some 77, op := Op.load 27 (Operand.tmp 76), type := 27, pos := "valid.go:66", after := #[{ on := 3, ground := Ground.data }], guard := none }) (v := ?vs4) rfl (by kernel_rfl) (by kernel_rfl) (by kernel_rfl) (fun _ _ _ h => h) (Or.inl ⟨by rfl, ?hys4⟩) (by assumption) ?rests4
          case hys4 => first | (intro w hSw; (try dsimp only at hSw); go_simp; done) | (intro w hSw; (try dsimp only at hSw); go_simp; with_reducible rfl)
          try simp only [Act.put, List.setIfInBounds_toArray, List.set_cons_zero, List.set_cons_succ]
          refine wpAnyH_take (i := 5) (oi := { dst := some 78, op := Op.move (Operand.tmp 1), type := 3, pos := "valid.go:66", after := #[], guard := none }) (v := ?vs5) rfl (by kernel_rfl) (by kernel_rfl) (by kernel_rfl) (fun _ _ _ h => h) (Or.inl ⟨by rfl, ?hys5⟩) (by assumption) ?rests5
          case hys5 => first | (intro w hSw; (try dsimp only at hSw); go_simp; done) | (intro w hSw; (try dsimp only at hSw); go_simp; with_reducible rfl)
          try simp only [Act.put, List.setIfInBounds_toArray, List.set_cons_zero, List.set_cons_succ]
          refine wpAnyH_take (i := 6) (oi := { dst := some 79, op := Op.move (Operand.tmp 8), type := 3, pos := "valid.go:66", after := #[], guard := none }) (v := ?vs6) rfl (by kernel_rfl) (by kernel_rfl) (by kernel_rfl) (fun _ _ _ h => h) (Or.inl ⟨by rfl, ?hys6⟩) (by assumption) ?rests6
          case hys6 => first | (intro w hSw; (try dsimp only at hSw); go_simp; done) | (intro w hSw; (try dsimp only at hSw); go_simp; with_reducible rfl)
          try simp only [Act.put, List.setIfInBounds_toArray, List.set_cons_zero, List.set_cons_succ]
          refine wpAnyH_take (i := 8) (oi := { dst := some 81, op := Op.move (Operand.tmp 0), type := 157, pos := "valid.go:66", after := #[], guard := none }) (v := ?vs8) rfl (by kernel_rfl) (by kernel_rfl) (by kernel_rfl) (fun _ _ _ h => h) (Or.inl ⟨by rfl, ?hys8⟩) (by assumption) ?rests8
          case hys8 => first | (intro w hSw; (try dsimp only at hSw); go_simp; done) | (intro w hSw; (try dsimp only at hSw); go_simp; with_reducible rfl)
          try simp only [Act.put, List.setIfInBounds_toArray, List.set_cons_zero, List.set_cons_succ]
          refine wpAnyH_take (i := 9) (oi := { dst := some 82, op := Op.nilCheck (Operand.tmp 81), type := 0, pos := "valid.go:66", after := #[{ on := 8, ground := Ground.data }], guard := none }) (v := ?vs9) rfl (by kernel_rfl) (by kernel_rfl) (by kernel_rfl) (fun _ _ _ h => h) (Or.inl ⟨by rfl, ?hys9⟩) (by assumption) ?rests9
          case hys9 => first | (intro w hSw; (try dsimp only at hSw); go_simp; done) | (intro w hSw; (try dsimp only at hSw); go_simp; with_reducible rfl)
          try simp only [Act.put, List.setIfInBounds_toArray, List.set_cons_zero, List.set_cons_succ]
          refine wpAnyH_take (i := 10) (oi := { dst := some 83, op := Op.fieldAddr 159 (Operand.tmp 82) 0, type := 0, pos := "valid.go:66", after := #[{ on := 9, ground := Ground.data }], guard := none }) (v := ?vs10) rfl (by kernel_rfl) (by kernel_rfl) (by kernel_rfl) (fun _ _ _ h => h) (Or.inl ⟨by rfl, ?hys10⟩) (by assumption) ?rests10
          case hys10 => first | (intro w hSw; (try dsimp only at hSw); go_simp; done) | (intro w hSw; (try dsimp only at hSw); go_simp; with_reducible rfl)
          try simp only [Act.put, List.setIfInBounds_toArray, List.set_cons_zero, List.set_cons_succ]
          refine wpAnyH_take (i := 11) (oi := { dst := some 84, op := Op.load 27 (Operand.tmp 83), type := 27, pos := "valid.go:66", after := #[{ on := 10, ground := Ground.data }], guard := none }) (v := ?vs11) rfl (by kernel_rfl) (by kernel_rfl) (by kernel_rfl) (fun _ _ _ h => h) (Or.inl ⟨by rfl, ?hys11⟩) (by assumption) ?rests11
          case hys11 => first | (intro w hSw; (try dsimp only at hSw); go_simp; done) | (intro w hSw; (try dsimp only at hSw); go_simp; with_reducible rfl)
          try simp only [Act.put, List.setIfInBounds_toArray, List.set_cons_zero, List.set_cons_succ]
          refine wpAnyH_take (i := 12) (oi := { dst := some 85, op := Op.move (Operand.tmp 1), type := 3, pos := "valid.go:66", after := #[], guard := none }) (v := ?vs12) rfl (by kernel_rfl) (by kernel_rfl) (by kernel_rfl) (fun _ _ _ h => h) (Or.inl ⟨by rfl, ?hys12⟩) (by assumption) ?rests12
          case hys12 => first | (intro w hSw; (try dsimp only at hSw); go_simp; done) | (intro w hSw; (try dsimp only at hSw); go_simp; with_reducible rfl)
          try simp only [Act.put, List.setIfInBounds_toArray, List.set_cons_zero, List.set_cons_succ]
          refine wpAnyH_take (i := 13) (oi := { dst := some 86, op := Op.move (Operand.tmp 8), type := 3, pos := "valid.go:66", after := #[], guard := none }) (v := ?vs13) rfl (by kernel_rfl) (by kernel_rfl) (by kernel_rfl) (fun _ _ _ h => h) (Or.inl ⟨by rfl, ?hys13⟩) (by assumption) ?rests13
          case hys13 => first | (intro w hSw; (try dsimp only at hSw); go_simp; done) | (intro w hSw; (try dsimp only at hSw); go_simp; with_reducible rfl)
          try simp only [Act.put, List.setIfInBounds_toArray, List.set_cons_zero, List.set_cons_succ]
          refine wpAnyH_take (i := 15) (oi := { dst := some 88, op := Op.move (Operand.tmp 9), type := 3, pos := "valid.go:66", after := #[], guard := none }) (v := ?vs15) rfl (by kernel_rfl) (by kernel_rfl) (by kernel_rfl) (fun _ _ _ h => h) (Or.inl ⟨by rfl, ?hys15⟩) (by assumption) ?rests15
          case hys15 => first | (intro w hSw; (try dsimp only at hSw); go_simp; done) | (intro w hSw; (try dsimp only at hSw); go_simp; with_reducible rfl)
          try simp only [Act.put, List.setIfInBounds_toArray, List.set_cons_zero, List.set_cons_succ]
          refine wpAnyH_take (i := 16) (oi := { dst := some 89, op := Op.move (Operand.tmp 9), type := 3, pos := "valid.go:66", after := #[], guard := none }) (v := ?vs16) rfl (by kernel_rfl) (by kernel_rfl) (by kernel_rfl) (fun _ _ _ h => h) (Or.inl ⟨by rfl, ?hys16⟩) (by assumption) ?rests16
          case hys16 => first | (intro w hSw; (try dsimp only at hSw); go_simp; done) | (intro w hSw; (try dsimp only at hSw); go_simp; with_reducible rfl)
          try simp only [Act.put, List.setIfInBounds_toArray, List.set_cons_zero, List.set_cons_succ]
          refine wpAnyH_take (i := 17) (oi := { dst := some 90, op := Op.move (Operand.tmp 12), type := 3, pos := "valid.go:66", after := #[], guard := none }) (v := ?vs17) rfl (by kernel_rfl) (by kernel_rfl) (by kernel_rfl) (fun _ _ _ h => h) (Or.inl ⟨by rfl, ?hys17⟩) (by assumption) ?rests17
          case hys17 => first | (intro w hSw; (try dsimp only at hSw); go_simp; done) | (intro w hSw; (try dsimp only at hSw); go_simp; with_reducible rfl)
          try simp only [Act.put, List.setIfInBounds_toArray, List.set_cons_zero, List.set_cons_succ]
          refine wpAnyH_take (i := 18) (oi := { dst := some 91, op := Op.binOp BinOp.add 3 (Operand.tmp 89) (Operand.tmp 90) 3, type := 3, pos := "valid.go:66", after := #[{ on := 16, ground := Ground.data }, { on := 17, ground := Ground.data }], guard := none }) (v := ?vs18) rfl (by kernel_rfl) (by kernel_rfl) (by kernel_rfl) (fun _ _ _ h => h) (Or.inl ⟨by rfl, ?hys18⟩) (by assumption) ?rests18
          case hys18 => first | (intro w hSw; (try dsimp only at hSw); go_simp; done) | (intro w hSw; (try dsimp only at hSw); go_simp; with_reducible rfl)
          try simp only [Act.put, List.setIfInBounds_toArray, List.set_cons_zero, List.set_cons_succ]
          refine wpAnyH_take (i := 19) (oi := { dst := some 92, op := Op.move (Operand.tmp 13), type := 3, pos := "valid.go:66", after := #[], guard := none }) (v := ?vs19) rfl (by kernel_rfl) (by kernel_rfl) (by kernel_rfl) (fun _ _ _ h => h) (Or.inl ⟨by rfl, ?hys19⟩) (by assumption) ?rests19
          case hys19 => first | (intro w hSw; (try dsimp only at hSw); go_simp; done) | (intro w hSw; (try dsimp only at hSw); go_simp; with_reducible rfl)
          try simp only [Act.put, List.setIfInBounds_toArray, List.set_cons_zero, List.set_cons_succ]
          refine wpAnyH_take (i := 20) (oi := { dst := some 93, op := Op.move (Operand.tmp 3), type := 3, pos := "valid.go:66", after := #[], guard := none }) (v := ?vs20) rfl (by kernel_rfl) (by kernel_rfl) (by kernel_rfl) (fun _ _ _ h => h) (Or.inl ⟨by rfl, ?hys20⟩) (by assumption) ?rests20
          case hys20 => first | (intro w hSw; (try dsimp only at hSw); go_simp; done) | (intro w hSw; (try dsimp only at hSw); go_simp; with_reducible rfl)
          try simp only [Act.put, List.setIfInBounds_toArray, List.set_cons_zero, List.set_cons_succ]
          refine wpAnyH_ready (rs := [7]) (by kernel_rfl) (by simp) ?_
          refine AllReadyH.cons (o := { dst := some 80, op := Op.call { callee := Callee.value (Operand.func 34), args := #[Operand.tmp 77, Operand.tmp 78, Operand.tmp 79], argTypes := #[27, 3, 3] }, type := 3, pos := "valid.go:66", after := #[{ on := 4, ground := Ground.data }, { on := 5, ground := Ground.data }, { on := 6, ground := Ground.data }], guard := none }) rfl (fun K hK => ?_) AllReadyH.nil
          go_simp
          ((refine (hkind.out _ (Hsch.out _ hbs)).mono ?_); rintro rr5 wr5 ⟨rfl, hbr5⟩)
          have har5 := via hbs hbr5
          refine hK.out _ _ ?_ (fun hHeld => ?_)
          · exact (Hlk.out _ har5).c0
          clear hK K
          try simp only [Act.put, List.setIfInBounds_toArray, List.set_cons_zero, List.set_cons_succ]
          refine wpAnyH_ready (rs := [14]) (by kernel_rfl) (by simp) ?_
          refine AllReadyH.cons (o := { dst := some 87, op := Op.call { callee := Callee.value (Operand.func 35), args := #[Operand.tmp 84, Operand.tmp 85, Operand.tmp 86], argTypes := #[27, 3, 3] }, type := 3, pos := "valid.go:66", after := #[{ on := 11, ground := Ground.data }, { on := 12, ground := Ground.data }, { on := 13, ground := Ground.data }, { on := 7, ground := Ground.chain }], guard := none }) rfl (fun K hK => ?_) AllReadyH.nil
          go_simp
          ((refine (htype.out _ (Hsch.out _ har5)).mono ?_); rintro rr6 wr6 ⟨rfl, hbr6⟩)
          have har6 := via har5 hbr6
          refine hK.out _ _ ?_ (fun hHeld => ?_)
          · exact (Hlk.out _ har6).c0
          clear hK K
          try simp only [Act.put, List.setIfInBounds_toArray, List.set_cons_zero, List.set_cons_succ]
          refine wpAnyH_ready (rs := [21]) (by kernel_rfl) (by simp) ?_
          refine AllReadyH.cons (o := { dst := some 94, op := Op.call { callee := Callee.value (Operand.func 95), args := #[Operand.tmp 73, Operand.tmp 80, Operand.tmp 87, Operand.tmp 88, Operand.tmp 91, Operand.tmp 92, Operand.tmp 93], argTypes := #[157, 3, 3, 3, 3, 3, 3] }, type := 0, pos := "valid.go:66", after := #[{ on := 0, ground := Ground.data }, { on := 7, ground := Ground.data }, { on := 14, ground := Ground.data }, { on := 15, ground := Ground.data }, { on := 18, ground := Ground.data }, { on := 19, ground := Ground.data }, { on := 20, ground := Ground.data }, { on := 14, ground := Ground.chain }], guard := none }) rfl (fun K hK => ?_) AllReadyH.nil
          go_simp
          ((refine (hrf.out _ har6).mono ?_); rintro rr7 wr7 ⟨rfl, k3, k4⟩)
          exact ⟨rfl, by rw [Hgoal.out, Hfin.out]; rfl, by rw [Hgoal.out, Hfin.out]; exact k3, grown_trans (Hgr.out _ har6) k4⟩
    · obtain rfl : i = N := by omega
      go_wp2_with fail
      go_returns
      exact ⟨by rw [Hgoal.out, HR.out]; rfl, by rw [Hgoal.out, HR.out]; exact k1, k2⟩
/-- A struct, as deep as it may be. -/
theorem vvisit_any (hx : Lx s ws sv a cap g w0) : ∀ k, VisC s ws sv a cap g w0 k
  | 0 => vvisit_step hx 0 (vrefer_step hx 0 fun k' h => absurd h (by omega))
  | k + 1 => vvisit_step hx (k + 1) (vrefer_step hx (k + 1) fun k' h => (show k = k' by omega) ▸ vvisit_any hx k)
end
end SVVisit

end Go.Proofs.YtblbhlgihlgncaaDoor

