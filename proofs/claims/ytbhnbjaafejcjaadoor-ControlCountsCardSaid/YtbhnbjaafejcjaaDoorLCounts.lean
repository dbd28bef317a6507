/- intagliolaw13.ControlCounts: the walk. -/
import Derived.Test.YtbhnbjaafejcjaaDoorPlCtl2
import Derived.Test.YtbhnbjaafejcjaaDoorRefCtl2
import Derived.Deep.LoopGhost
set_option linter.unusedVariables false
namespace Go.Proofs.YtbhnbjaafejcjaaDoor
open Go.RowKit

theorem getD_map_int (l : List Int) (k : Nat) (h : k < l.length) : (l.map (Value.int .i64))[k]? = some (.int .i64 (l.getD k 0)) := by
  rw [List.getElem?_map, List.getD_eq_getElem?_getD, List.getElem?_eq_getElem h]; rfl

def Ans (f : FuncId) (xs : Array Value) (u : Value) : Prop := ∀ W, Calls Tryd.prog f xs W fun r w' => r = .returned u ∧ Below W.heap.size W w'

/-- What the law's calls answer, the words by name alone. -/
structure CntC (e : Int) (F G : Nat → Int → BitVec 64) (q0 z1 z2 : BitVec 64) : Prop where
  pack : Ans 31 #[.agg #[.int .i64 e, .int .i64 0, .int .i64 0, .bool false, .bool false]] (.tuple #[U q0, .nilIface])
  born : Ans 28 #[U q0] (U (F 0 0))
  pubN : ∀ k blk db, ∃ pv pe, Ans 27 #[U (F k blk), .int .i64 db] (.tuple #[U pv, pe])
  pubY : ∀ k blk db, k < 40 → 0 ≤ blk → blk ≤ 65535 → 1 ≤ db → db ≤ 65535 → Ans 27 #[U (F k blk), .int .i64 db] (.tuple #[U (F (k + 1) db), .nilIface])
  busy : ∀ k blk, k < 40 → 0 ≤ blk → blk ≤ 65535 → Ans 25 #[U (F k blk)] (U (G k blk))
  wri : ∀ k blk, k < 40 → 0 ≤ blk → blk ≤ 65535 → Ans 26 #[U (G k blk)] (.tuple #[U (F (k + 1) blk), .nilIface])
  unp : ∀ k blk, k ≤ 40 → 0 ≤ blk → blk ≤ 65535 → Ans 30 #[U (F k blk)] (.agg #[.int .i64 e, .int .i64 k, .int .i64 blk, .bool true, .bool false])
  gone : ∀ k blk, k ≤ 40 → 0 ≤ blk → blk ≤ 65535 → Ans 29 #[U (F k blk)] (U z1)
  unz1 : Ans 30 #[U z1] (.agg #[.int .i64 ((e + 1) % 32768), .int .i64 0, .int .i64 0, .bool false, .bool false])
  bornz : Ans 28 #[U z1] (U z2)
  unz2 : Ans 30 #[U z2] (.agg #[.int .i64 ((e + 1) % 32768), .int .i64 0, .int .i64 0, .bool true, .bool false])

def CntW (F : Nat → Int → BitVec 64) (a bl i : Value) (n : Nat) (w wr : World) : Prop :=
  ∃ (k : Nat) (blk : Int), k ≤ 40 ∧ k ≤ n ∧ 0 ≤ blk ∧ blk ≤ 65535 ∧ i = .int .i64 k ∧ bl = .int .i64 blk ∧ a = U (F k blk) ∧ Below w.heap.size w wr

set_option maxRecDepth 100000 in
set_option maxHeartbeats 8000000 in
theorem counts_core (e0 : Int) (F G : Nat → Int → BitVec 64) (q0 z1 z2 : BitVec 64) (hC : CntC (e0 % 32768) F G q0 z1 z2) (v : Value) (n : Nat) (l : List Int) (w : World) (hl : LaidE w) (hr : Row w 1 v n (l.map (Value.int .i64))) :
    Calls Tryd.prog 8 #[.int .i64 e0, v] w fun r w' => r = .returned (.bool true) ∧ Below w.heap.size w w' := by
  obtain ⟨a, cap, rfl, hnc, hcm, hcell⟩ := hr.open
  have hll : l.length = n := by have := hr.len; simpa using this
  have e1 : 0 ≤ e0 % 32768 := by omega
  have e2 : e0 % 32768 ≤ 32767 := by omega
  have HC := hid hC
  have hpack := hC.pack
  have hborn := hC.born
  have Hll := hid hll
  have Hr := hid hr
  have Hcell := hid hcell
  clear hll hC hr hcell hl
  go_enter Tryd.func8, Tryd.ntmps8
  go_wp2_with fail
  ((refine (awake13 _).mono ?_); rintro r1 w1 ⟨rfl, hbl⟩)
  go_wp2_with fail
  ((refine (hpack _).mono ?_); rintro r1 w2 ⟨rfl, hb⟩)
  replace hbl := via hbl hb
  clear hb hpack
  go_wp2_with fail
  ((refine (top_nil _).mono ?_); rintro r1 w3 ⟨rfl, hb⟩)
  replace hbl := via hbl hb
  clear hb
  go_wp2_with fail
  ((refine (hborn _).mono ?_); rintro r1 w4 ⟨rfl, hb⟩)
  replace hbl := via hbl hb
  clear hb hborn
  generalize hE : e0 % 32768 = e at *
  clear hE
  go_wp2_with fail
  go_loopw [7, 9, 10] (fun a bl i wr => CntW F a bl i n w wr) (fun _ _ i _ => 40 - (intOf i).toNat)
  case atStart => exact ⟨0, 0, by omega, by omega, by omega, by omega, rfl, rfl, rfl, hbl⟩
  case round =>
    clear hbl
    obtain ⟨k, blk, hk40, hkn, hb1, hb2, rfl, rfl, rfl, hbl⟩ := hrel
    by_cases hlt : k < n
    · by_cases hlt40 : k < 40
      · have hrw := Hr.out.below hbl (Nat.le_refl _)
        obtain ⟨b, off, rfl, hbb, hc1⟩ := Hcell.out (by omega)
        obtain ⟨hbw, hcw⟩ := hrw.cells (by omega)
        have hck := hcw k (by omega)
        rw [getD_map_int l k (by rw [Hll.out]; exact hlt)] at hck
        generalize l.getD k 0 = d at *
        clear hc1 hcw hrw
        obtain ⟨db, hdb⟩ : ∃ db, d % 65536 = db := ⟨_, rfl⟩
        have hdb1 : 0 ≤ db ∧ db ≤ 65535 := by omega
        by_cases hd : d < 1 ∨ db = 0
        · obtain ⟨pv, pe, hP⟩ := HC.out.pubN k blk db
          have hB := HC.out.busy k blk hlt40 hb1 hb2
          have hW := HC.out.wri k blk hlt40 hb1 hb2
          have hU := HC.out.unp (k + 1) blk (by omega) hb1 hb2
          have hrel2 := hid (fun wx (hx : Below w.heap.size w wx) => show CntW F (U (F (k + 1) blk)) (.int .i64 blk) (.int .i64 ((k : Int) + 1)) n w wx from ⟨k + 1, blk, by omega, by omega, hb1, hb2, rfl, rfl, rfl, hx⟩)
          rw [show ((k + 1 : Nat) : Int) = (k : Int) + 1 from rfl] at hU
          unfold Ans at hP hB hW hU
          generalize F k blk = q1 at *
          generalize F (k + 1) blk = q2 at *
          generalize G k blk = q3 at *
          have hki : (k : Int) < (n : Int) := by omega
          have hki40 : (k : Int) < 40 := by omega
          have Hk := hid (And.intro hk40 (And.intro hkn (And.intro hb1 hb2)))
          clear hk40 hkn hb1 hb2 hnc hcm e1 e2 Hcell HC Hll Hr hlt hlt40
          go_wp2_with fail
          ((refine (hP _).mono ?_); rintro r1 w5 ⟨rfl, hb⟩)
          replace hck := (hb.cell hbw).trans hck
          replace hbl := via hbl hb
          clear hb hP hbw hbb hdb
          rcases Decidable.em (d < 1) with hd1 | hd1
          · have e9 : decide (d < 1) = true := decide_eq_true hd1
            clear hd hd1 hdb1
            go_wp2_with fail
            ((refine (hB _).mono ?_); rintro r1 w6 ⟨rfl, hb⟩)
            replace hbl := via hbl hb
            clear hb hB hck
            go_wp2_with fail
            ((refine (hW _).mono ?_); rintro r1 w7 ⟨rfl, hb⟩)
            replace hbl := via hbl hb
            clear hb hW
            go_wp2_with fail
            ((refine (top_nil _).mono ?_); rintro r1 w8 ⟨rfl, hb⟩)
            replace hbl := via hbl hb
            clear hb
            go_wp2_with fail
            have ⟨dl, c0, c1, c2, c3, c4⟩ := Box.mk' w8 e ((k : Int) + 1) blk true false 57
            have hbz : Below w.heap.size w (w8.alloc (.cells #[.int .i64 e, .int .i64 ((k : Int) + 1), .int .i64 blk, .bool true, .bool false] 57)) := hbl.alloc hbl.size _
            generalize w8.alloc (.cells #[.int .i64 e, .int .i64 ((k : Int) + 1), .int .i64 blk, .bool true, .bool false] 57) = w9 at *
            generalize w8.heap.size = D at *
            clear hbl
            go_region_held3 (fun W => W.cell? ⟨D, 0, none⟩ = some (.int .i64 e) ∧ W.cell? ⟨D, 1, none⟩ = some (.int .i64 ((k : Int) + 1)) ∧ W.cell? ⟨D, 2, none⟩ = some (.int .i64 blk) ∧ W.cell? ⟨D, 3, none⟩ = some (.bool true) ∧ W.cell? ⟨D, 4, none⟩ = some (.bool false) ∧ D < W.heap.size ∧ Below w.heap.size w W)
              (first | exact ⟨c0, c1, c2, c3, c4, dl, hbz.trans (below_drewN _ _ 1)⟩ | exact held5 (by assumption) hb3)
              (first
              | (go_at_call 30; (with_reducible refine (hU _).mono ?_); rintro e1 w11 ⟨rfl, hb3⟩))
            all_goals
              clear hU c0 c1 c2 c3 c4 dl hbz
              have hbl := held5_end (w := w) (by assumption)
              have hki2 : ((k : Int) + 1) ≤ 40 := by omega
              go_wp2_with fail
              go_roundw
              case rel => exact hrel2.out _ hbl
              case measure => simp [intOf] <;> omega
          · have e9 : decide (d < 1) = false := decide_eq_false hd1
            obtain rfl : db = 0 := by omega
            clear hd hd1 hdb1
            go_wp2_with fail
            ((refine (hB _).mono ?_); rintro r1 w6 ⟨rfl, hb⟩)
            replace hbl := via hbl hb
            clear hb hB hck
            go_wp2_with fail
            ((refine (hW _).mono ?_); rintro r1 w7 ⟨rfl, hb⟩)
            replace hbl := via hbl hb
            clear hb hW
            go_wp2_with fail
            ((refine (top_nil _).mono ?_); rintro r1 w8 ⟨rfl, hb⟩)
            replace hbl := via hbl hb
            clear hb
            go_wp2_with fail
            have ⟨dl, c0, c1, c2, c3, c4⟩ := Box.mk' w8 e ((k : Int) + 1) blk true false 57
            have hbz : Below w.heap.size w (w8.alloc (.cells #[.int .i64 e, .int .i64 ((k : Int) + 1), .int .i64 blk, .bool true, .bool false] 57)) := hbl.alloc hbl.size _
            generalize w8.alloc (.cells #[.int .i64 e, .int .i64 ((k : Int) + 1), .int .i64 blk, .bool true, .bool false] 57) = w9 at *
            generalize w8.heap.size = D at *
            clear hbl
            go_region_held3 (fun W => W.cell? ⟨D, 0, none⟩ = some (.int .i64 e) ∧ W.cell? ⟨D, 1, none⟩ = some (.int .i64 ((k : Int) + 1)) ∧ W.cell? ⟨D, 2, none⟩ = some (.int .i64 blk) ∧ W.cell? ⟨D, 3, none⟩ = some (.bool true) ∧ W.cell? ⟨D, 4, none⟩ = some (.bool false) ∧ D < W.heap.size ∧ Below w.heap.size w W)
              (first | exact ⟨c0, c1, c2, c3, c4, dl, hbz.trans (below_drewN _ _ 1)⟩ | exact held5 (by assumption) hb3)
              (first
              | (go_at_call 30; (with_reducible refine (hU _).mono ?_); rintro e1 w11 ⟨rfl, hb3⟩))
            all_goals
              clear hU c0 c1 c2 c3 c4 dl hbz
              have hbl := held5_end (w := w) (by assumption)
              have hki2 : ((k : Int) + 1) ≤ 40 := by omega
              go_wp2_with fail
              go_roundw
              case rel => exact hrel2.out _ hbl
              case measure => simp [intOf] <;> omega
        · have hP := HC.out.pubY k blk db hlt40 hb1 hb2 (by omega) (by omega)
          have hU := HC.out.unp (k + 1) db (by omega) (by omega) (by omega)
          have hrel2 := hid (fun wx (hx : Below w.heap.size w wx) => show CntW F (U (F (k + 1) db)) (.int .i64 db) (.int .i64 ((k : Int) + 1)) n w wx from ⟨k + 1, db, by omega, by omega, by omega, by omega, rfl, rfl, rfl, hx⟩)
          rw [show ((k + 1 : Nat) : Int) = (k : Int) + 1 from rfl] at hU
          unfold Ans at hP hU
          generalize F k blk = q1 at *
          generalize F (k + 1) db = q2 at *
          have hki : (k : Int) < (n : Int) := by omega
          have hki40 : (k : Int) < 40 := by omega
          have e9 : decide (d < 1) = false := decide_eq_false (by omega)
          have e10 : ¬ db = 0 := by omega
          have e11 : decide (db = 0) = false := decide_eq_false e10
          clear hk40 hkn hb1 hb2 hnc hcm e1 e2 Hcell HC Hll Hr hlt hlt40 hd hdb1
          go_wp2_with fail
          ((refine (hP _).mono ?_); rintro r1 w5 ⟨rfl, hb⟩)
          replace hck := (hb.cell hbw).trans hck
          replace hbl := via hbl hb
          clear hb hP hbw hbb hdb
          go_wp2_with fail
          ((refine (top_nil _).mono ?_); rintro r1 w8 ⟨rfl, hb⟩)
          replace hbl := via hbl hb
          clear hb
          go_wp2_with fail
          have ⟨dl, c0, c1, c2, c3, c4⟩ := Box.mk' w8 e ((k : Int) + 1) db true false 57
          have hbz : Below w.heap.size w (w8.alloc (.cells #[.int .i64 e, .int .i64 ((k : Int) + 1), .int .i64 db, .bool true, .bool false] 57)) := hbl.alloc hbl.size _
          generalize w8.alloc (.cells #[.int .i64 e, .int .i64 ((k : Int) + 1), .int .i64 db, .bool true, .bool false] 57) = w9 at *
          generalize w8.heap.size = D at *
          clear hbl
          go_region_held3 (fun W => W.cell? ⟨D, 0, none⟩ = some (.int .i64 e) ∧ W.cell? ⟨D, 1, none⟩ = some (.int .i64 ((k : Int) + 1)) ∧ W.cell? ⟨D, 2, none⟩ = some (.int .i64 db) ∧ W.cell? ⟨D, 3, none⟩ = some (.bool true) ∧ W.cell? ⟨D, 4, none⟩ = some (.bool false) ∧ D < W.heap.size ∧ Below w.heap.size w W)
            (first | exact ⟨c0, c1, c2, c3, c4, dl, hbz.trans (below_drewN _ _ 1)⟩ | exact held5 (by assumption) hb3)
            (first
            | (go_at_call 30; (with_reducible refine (hU _).mono ?_); rintro e1 w11 ⟨rfl, hb3⟩))
          all_goals
            clear hU c0 c1 c2 c3 c4 dl hbz
            have hbl := held5_end (w := w) (by assumption)
            have hki2 : ((k : Int) + 1) ≤ 40 := by omega
            go_wp2_with fail
            go_roundw
            case rel => exact hrel2.out _ hbl
            case measure => simp [intOf] <;> omega
      · have hki40 : ¬ ((k : Int) < 40) := by omega
        have hki : (k : Int) < (n : Int) := by omega
        clear hlt hlt40
        have hG := HC.out.gone k blk hk40 hb1 hb2
        have hZ1 := HC.out.unz1
        have hBZ := HC.out.bornz
        have hZ2 := HC.out.unz2
        unfold Ans at hG hZ1 hBZ hZ2
        generalize F k blk = q1 at *
        clear hb1 hb2 hnc hcm Hcell HC Hll Hr
        go_wp2_with fail
        ((refine (hG _).mono ?_); rintro r1 w5 ⟨rfl, hb⟩)
        replace hbl := via hbl hb
        clear hb
        go_wp2_with fail
        ((refine (hZ1 _).mono ?_); rintro r1 w6 ⟨rfl, hb⟩)
        replace hbl := via hbl hb
        clear hb hZ1
        go_wp2_with fail
        have bx := Box.mk' w6 ((e + 1) % 32768) 0 0 false false 57
        have hbz : Below w.heap.size w (w6.alloc (.cells #[.int .i64 ((e + 1) % 32768), .int .i64 0, .int .i64 0, .bool false, .bool false] 57)) := hbl.alloc hbl.size _
        generalize w6.alloc (.cells #[.int .i64 ((e + 1) % 32768), .int .i64 0, .int .i64 0, .bool false, .bool false] 57) = w7 at *
        generalize w6.heap.size = D at *
        clear hbl
        ((refine (hG _).mono ?_); rintro r1 w8 ⟨rfl, hb⟩)
        replace hbz := via hbz hb
        replace bx := bx.below hb
        clear hb hG
        go_wp2_with fail
        ((refine (hBZ _).mono ?_); rintro r1 w9 ⟨rfl, hb⟩)
        replace hbz := via hbz hb
        replace bx := bx.below hb
        clear hb hBZ
        go_wp2_with fail
        ((refine (hZ2 _).mono ?_); rintro r1 wA ⟨rfl, hb⟩)
        replace hbz := via hbz hb
        replace bx := bx.below hb
        clear hb hZ2
        have hbA := (Below.refl wA.heap.size wA).alloc (Nat.le_refl _) (.cells #[.int .i64 ((e + 1) % 32768), .int .i64 0, .int .i64 0, .bool true, .bool false] 57)
        have ⟨_, c0, c1, c2, c3, c4⟩ := bx.below hbA
        have ⟨_, d0, d1, d2, d3, d4⟩ := Box.mk' wA ((e + 1) % 32768) 0 0 true false 57
        have hfin : Below w.heap.size w (wA.alloc (.cells #[.int .i64 ((e + 1) % 32768), .int .i64 0, .int .i64 0, .bool true, .bool false] 57)) := via hbz hbA
        go_wp2_with fail
        go_ret
        exact ⟨rfl, hfin⟩
    · have hki : ¬ ((k : Int) < (n : Int)) := by omega
      clear hlt
      have hG := HC.out.gone k blk hk40 hb1 hb2
      have hZ1 := HC.out.unz1
      have hBZ := HC.out.bornz
      have hZ2 := HC.out.unz2
      unfold Ans at hG hZ1 hBZ hZ2
      generalize F k blk = q1 at *
      clear hb1 hb2 hnc hcm Hcell HC Hll Hr
      go_wp2_with fail
      ((refine (hG _).mono ?_); rintro r1 w5 ⟨rfl, hb⟩)
      replace hbl := via hbl hb
      clear hb
      go_wp2_with fail
      ((refine (hZ1 _).mono ?_); rintro r1 w6 ⟨rfl, hb⟩)
      replace hbl := via hbl hb
      clear hb hZ1
      go_wp2_with fail
      have bx := Box.mk' w6 ((e + 1) % 32768) 0 0 false false 57
      have hbz : Below w.heap.size w (w6.alloc (.cells #[.int .i64 ((e + 1) % 32768), .int .i64 0, .int .i64 0, .bool false, .bool false] 57)) := hbl.alloc hbl.size _
      generalize w6.alloc (.cells #[.int .i64 ((e + 1) % 32768), .int .i64 0, .int .i64 0, .bool false, .bool false] 57) = w7 at *
      generalize w6.heap.size = D at *
      clear hbl
      ((refine (hG _).mono ?_); rintro r1 w8 ⟨rfl, hb⟩)
      replace hbz := via hbz hb
      replace bx := bx.below hb
      clear hb hG
      go_wp2_with fail
      ((refine (hBZ _).mono ?_); rintro r1 w9 ⟨rfl, hb⟩)
      replace hbz := via hbz hb
      replace bx := bx.below hb
      clear hb hBZ
      go_wp2_with fail
      ((refine (hZ2 _).mono ?_); rintro r1 wA ⟨rfl, hb⟩)
      replace hbz := via hbz hb
      replace bx := bx.below hb
      clear hb hZ2
      have hbA := (Below.refl wA.heap.size wA).alloc (Nat.le_refl _) (.cells #[.int .i64 ((e + 1) % 32768), .int .i64 0, .int .i64 0, .bool true, .bool false] 57)
      have ⟨_, c0, c1, c2, c3, c4⟩ := bx.below hbA
      have ⟨_, d0, d1, d2, d3, d4⟩ := Box.mk' wA ((e + 1) % 32768) 0 0 true false 57
      have hfin : Below w.heap.size w (wA.alloc (.cells #[.int .i64 ((e + 1) % 32768), .int .i64 0, .int .i64 0, .bool true, .bool false] 57)) := via hbz hbA
      go_wp2_with fail
      go_ret
      exact ⟨rfl, hfin⟩

def wF (e : Int) (k : Nat) (blk : Int) : BitVec 64 := ctlW e (k : Int) blk true false
def wG (e : Int) (k : Nat) (blk : Int) : BitVec 64 := ctlW e (k : Int) blk true true
theorem wF_zero (e : Int) : wF e 0 0 = ctlW e 0 0 true false := by unfold wF; rw [show ((0 : Nat) : Int) = 0 from rfl]
theorem wF_succ (e : Int) (k : Nat) (blk : Int) : wF e (k + 1) blk = ctlW e ((k : Int) + 1) blk true false := by unfold wF; rw [Int.natCast_succ]
theorem cnt_words (e : Int) (e1 : 0 ≤ e) (e2 : e ≤ 32767) : CntC e (wF e) (wG e) (ctlW e 0 0 false false) (ctlW ((e + 1) % 32768) 0 0 false false) (ctlW ((e + 1) % 32768) 0 0 true false) where
  pack := fun W => pack_yes e 0 0 false false (fits_mk (by omega)) W
  born := fun W => by
    have h := born_any (ctlW e 0 0 false false) W
    rw [born_W (fits_mk (by omega))] at h
    rw [wF_zero]; exact h
  pubN := fun k blk db => ⟨pubV (wF e k blk) db, ErrV (pubC (wF e k blk) db), fun W => published_any _ _ W⟩
  pubY := fun k blk db h1 h2 h3 h4 h5 W => by
    have h := published_any (wF e k blk) db W
    unfold wF at h
    obtain ⟨p1, p2⟩ := pub_W (e := e) (g := (k : Int)) (b := blk) (p := db) (fits_mk (by omega)) (by omega) ⟨h4, h5⟩
    rw [p1, p2, show ErrV 0 = .nilIface from rfl] at h
    rw [wF_succ]; unfold wF; exact h
  busy := fun k blk h1 h2 h3 W => by
    have h := busy_any (wF e k blk) W
    unfold wF at h
    rw [busy_W (fits_mk (by omega))] at h
    unfold wF wG; exact h
  wri := fun k blk h1 h2 h3 W => by
    have h := written_any (wG e k blk) W
    unfold wG at h
    obtain ⟨p1, p2⟩ := written_W (e := e) (g := (k : Int)) (b := blk) (fits_mk (by omega)) (by omega)
    rw [p1, p2, show ErrV 0 = .nilIface from rfl] at h
    rw [wF_succ]; unfold wG; exact h
  unp := fun k blk h1 h2 h3 W => by unfold wF; exact unpack_of e k blk true false (fits_mk (by omega)) W
  gone := fun k blk h1 h2 h3 W => by
    have h := gone_any (wF e k blk) W
    unfold wF at h
    rw [gone_W (fits_mk (by omega))] at h
    unfold wF; exact h
  unz1 := fun W => unpack_of _ 0 0 false false (fits_mk (by omega)) W
  bornz := fun W => by
    have h := born_any (ctlW ((e + 1) % 32768) 0 0 false false) W
    rw [born_W (fits_mk (by omega))] at h
    exact h
  unz2 := fun W => unpack_of _ 0 0 true false (fits_mk (by omega)) W

theorem law_ControlCounts (e0 : Int) (v : Value) (n : Nat) (l : List Int) (w : World) (hl : LaidE w) (hr : Row w 1 v n (l.map (Value.int .i64))) :
    Calls Tryd.prog 8 #[.int .i64 e0, v] w fun r w' => r = .returned (.bool true) ∧ Below w.heap.size w w' :=
  counts_core e0 _ _ _ _ _ (cnt_words _ (by omega) (by omega)) v n l w hl hr
end Go.Proofs.YtbhnbjaafejcjaaDoor

