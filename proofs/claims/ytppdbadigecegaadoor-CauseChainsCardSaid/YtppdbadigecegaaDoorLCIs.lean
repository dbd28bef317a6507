/- CauseIs: each of a trouble's codes is found in it by errors.Is, and no other one; the topmost one by errors.As. -/
import Derived.Test.YtppdbadigecegaaDoorCAw
import Derived.Test.YtppdbadigecegaaDoorCTop
import Derived.Test.YtppdbadigecegaaDoorCRoot
import Derived.Test.YtppdbadigecegaaDoorCBuilt
set_option linter.unusedVariables false
set_option linter.unusedSimpArgs false
namespace Go.Proofs.YtppdbadigecegaaDoor
section SLCIs
open Go.RowKit

theorem TC.codes {w : World} : ∀ {L : List (Bool × Int)} {v : Value}, TC w v L → L ≠ [] → 0 < (codesL L).length
  | [], v, h, hL => absurd rfl hL
  | (b, x) :: rest, v, h, _ => by
    rcases h with ⟨rfl, _, _⟩ | ⟨rfl, hne, A, u, _, _, _, _, hT⟩ | ⟨rfl, _, _⟩
    · rw [codesL_cons, if_neg (by decide)]; simp
    · rw [codesL_cons, if_pos rfl]; exact TC.codes hT hne
    · rw [codesL_cons, if_neg (by decide)]; simp
/-- Among the first k. -/
def anyK (cs : List Int) (e : Int) (k : Nat) : Bool := (cs.take k).any (· == e)
theorem anyK_succ (cs : List Int) (e : Int) (k : Nat) (hk : k < cs.length) : anyK cs e (k + 1) = (anyK cs e k || cs.getD k 0 == e) := by
  unfold anyK
  rw [List.take_add_one, List.getElem?_eq_getElem hk, List.any_append, List.getD_eq_getElem?_getD, List.getElem?_eq_getElem hk]
  simp
theorem anyK_all (L : List (Bool × Int)) (e : Int) : anyK (codesL L) e (codesL L).length = hasL L e := by
  unfold anyK hasL
  rw [List.take_length]
theorem hasL_at (L : List (Bool × Int)) (k : Nat) (hk : k < (codesL L).length) : hasL L ((codesL L).getD k 0) = true := by
  unfold hasL
  rw [List.any_eq_true, List.getD_eq_getElem?_getD, List.getElem?_eq_getElem hk]
  exact ⟨_, List.getElem_mem hk, by simp⟩

def IsLR (w5 : World) (cs : List Int) (code : Int) (n : Nat) (mv iv : Value) (wr : World) : Prop := ∃ k : Nat, k ≤ n ∧ iv = .int .i64 k ∧ mv = .bool (anyK cs code k) ∧ Below w5.heap.size w5 wr

set_option maxRecDepth 100000 in
set_option maxHeartbeats 8000000 in
theorem causeis_walk (l : List (Int × Bool × Bool)) (sv : Value) (code : Int) (w : World) (hl : LaidE w) (hrow : Row w 3 sv l.length (opsC l)) :
    Calls Tryd.prog 3 #[sv, .int .i64 code] w fun r w' => r = .returned (.bool true) ∧ Below w.heap.size w w' := by
  have hbuilt := hid fun W (hW : Below w.heap.size w W) => built_any l sv W (hrow.below hW (Nat.le_refl _))
  unfold BuiltP at hbuilt
  obtain ⟨sa, scap, rfl, -⟩ := hrow.open
  have Hl := hid fun W (hW : Below w.heap.size w W) => LaidE.below hl hW (LaidE.pos hl)
  obtain ⟨sn, hsn⟩ : ∃ sn, sn = l.length := ⟨_, rfl⟩
  rw [← hsn] at hbuilt ⊢
  clear hrow hl hsn
  go_enter Tryd.func3, Tryd.ntmps3
  go_wp2_with fail
  ((refine (awake01 _).mono ?_); rintro r1 w1 ⟨rfl, hb1⟩)
  go_wp2_with fail
  ((refine (hbuilt.out _ hb1).mono ?_); rintro r2 w2 ⟨av, bv, L, rfl, hT, hL20, hG, hb2⟩)
  have hb12 := via hb1 hb2
  clear hbuilt
  have hcodes := hid (ccodes_any L av w2 hT (by omega))
  unfold CodesP at hcodes
  rcases hT.shape with ⟨rfl, rfl⟩ | ⟨hL, T9, x9, rfl⟩
  · go_wp2_with fail
    ((refine hcodes.out.mono ?_); rintro r3 w3 ⟨rv, rfl, hrow3, hb3⟩)
    obtain ⟨ra, rc, rfl, -⟩ := hrow3.open
    rw [show (codesL ([] : List (Bool × Int))).length = 0 from rfl]
    have hb13 := via hb12 hb3
    have his := hid fun W => eis_any code [] .nilIface W rfl
    rw [show hasL [] code = false from rfl] at his
    clear hcodes hrow3
    go_wp2_with (go_at_call 10; refine (as_nil _ _).mono ?_; rintro r4 w4 ⟨rfl, rfl⟩)
    refine wp_loop_rounds 1 ?_
    rw [rounds_succ]
    go_wp2_with fail
    go_region
    go_wp2_with (go_at_call 11; refine (his.out _).mono ?_; rintro r5 w5 ⟨rfl, hb5⟩)
    go_ret
    exact ⟨rfl, via (via hb13 (below_alloc w3 _)) ((below_drewN _ _ 1).trans hb5)⟩
  · have hpos := hT.codes hL
    obtain ⟨cs, hcs⟩ : ∃ cs, cs = codesL L := ⟨_, rfl⟩
    have HL1 := hid fun k (hk : k < cs.length) => show hasL L (cs.getD k 0) = true from by rw [hcs]; exact hasL_at L k (by rw [← hcs]; exact hk)
    have HL2 := hid (show anyK cs code cs.length = hasL L code by rw [hcs]; exact anyK_all L code)
    have HL3 := hid (show topL L = cs.getD 0 0 by rw [hcs]; unfold topL; cases codesL L <;> rfl)
    have hcl : cs.length ≤ 20 := by rw [hcs]; exact Nat.le_trans (codesL_le L) hL20
    rw [← hcs] at hcodes hpos
    obtain ⟨n, hn⟩ : ∃ n, n = cs.length := ⟨_, rfl⟩
    have HT := hid fun W (hW : Below w2.heap.size w2 W) => hT.below hW
    clear hT hcs hG
    go_wp2_with fail
    ((refine hcodes.out.mono ?_); rintro r3 w3 ⟨rv, rfl, hrow3, hb3⟩)
    obtain ⟨ra, rc, rfl, -⟩ := hrow3.open
    rw [← hn] at hpos hcl
    obtain ⟨wF, hwF, hbF, hlF, hbox⟩ := boxedC w3 #[.int .i64 0] 32
    have k0 : wF.cell? ⟨w3.heap.size, 0, none⟩ = some (.int .i64 0) := hbox 0
    have kf : wF.frozen? ⟨w3.heap.size, 0, none⟩ = false := by rw [← hwF]; simp
    have hb13 := via hb12 hb3
    have hb1F := via hb13 hbF
    have has := hid (eas_some L (.iface T9 x9) ⟨w3.heap.size, 0, none⟩ _ wF hL (HT.out wF (via hb3 hbF)) (Hl.out wF hb1F) k0 kf)
    unfold AsP at has
    have Hrow := hid fun W (hW : Below w3.heap.size w3 W) (k : Nat) (hk : k < n) => codes_at (hrow3.below hW (Nat.le_refl _)) k (by omega)
    obtain ⟨F, hF⟩ : ∃ F, F = w3.heap.size := ⟨_, rfl⟩
    rw [← hn]
    have Hn := hid hn
    clear hcodes hrow3 hbox k0 kf hn
    go_wp2_with fail
    ((refine has.out.mono ?_); rintro r4 w4 ⟨rfl, hc4, hg4⟩)
    have hb34 : Below w3.heap.size w3 w4 := hbF.grown hg4 hbF.size (fun b e => by obtain rfl := Option.some.inj e; exact Nat.le_refl _)
    have hb14 := via hb13 hb34
    have hlF4 := cell_lt hc4
    clear has hwF
    have hrel0 := hid (show IsLR w4 cs code n (.bool false) (.int .i64 0) w4 from ⟨0, Nat.zero_le _, rfl, rfl, Below.refl _ _⟩)
    go_wp2_with fail
    go_loopw [11, 12] (fun mv iv wr => IsLR w4 cs code n mv iv wr) (fun _ iv _ => n - (intOf iv).toNat)
    case atStart => exact hrel0.out
    case round =>
      clear hrel0
      obtain ⟨k, hk, rfl, rfl, hb4r⟩ := hrel
      have hb3r := via hb34 hb4r
      by_cases hlt : k < n
      · have hlt2 : (k : Int) < (n : Int) := by omega
        obtain ⟨b, off, rfl, hbl, hc⟩ := Hrow.out wr hb3r k hlt
        have his := hid fun W (hW : Below wr.heap.size wr W) => eis_any (cs.getD k 0) L (.iface T9 x9) W (HT.out W (via (via hb3 hb3r) hW))
        rw [HL1.out k (by have := Hn.out; omega)] at his
        have hrel2 := hid fun W (hW : Below wr.heap.size wr W) => show IsLR w4 cs code n (.bool (anyK cs code k || cs.getD k 0 == code)) (.int .i64 (k + 1 : Nat)) W from ⟨k + 1, by omega, rfl, by rw [anyK_succ _ _ _ (by have := Hn.out; omega)], via hb4r hW⟩
        have Hc := hid fun W (hW : Below wr.heap.size wr W) => (hW.cell (p := ⟨b, off + k, none⟩) hbl).trans hc
        generalize hy : cs.getD k 0 = y at *
        clear hy
        cases hak : anyK cs code k with
        | true =>
          rw [hak, Bool.true_or] at hrel2
          go_wp2_with (go_at_call 11; refine (his.out _ (Below.refl _ _)).mono ?_; rintro r5 w5 ⟨rfl, hb5⟩)
          go_roundw
          case rel => exact hrel2.out _ hb5
          case measure => simp [intOf] <;> omega
        | false =>
          rw [hak, Bool.false_or] at hrel2
          go_wp2_with (go_at_call 11; refine (his.out _ (Below.refl _ _)).mono ?_; rintro r5 w5 ⟨rfl, hb5⟩; have hc5 := Hc.out _ hb5)
          go_roundw
          case rel => exact hrel2.out _ hb5
          case measure => simp [intOf] <;> omega
      · obtain rfl : k = n := by omega
        have hlt2 : ¬ (k : Int) < (k : Int) := by omega
        have hkp : (0 : Int) < (k : Int) := by omega
        obtain ⟨b, off, rfl, hbl, hc⟩ := Hrow.out wr hb3r 0 hpos
        rw [Nat.add_zero, ← HL3.out] at hc
        have hcF := (hb4r.cell (p := ⟨w3.heap.size, 0, none⟩) hlF4).trans hc4
        have his := hid fun W (hW : Below wr.heap.size wr W) => eis_any code L (.iface T9 x9) W (HT.out W (via (via hb3 hb3r) hW))
        rw [show hasL L code = anyK cs code k by rw [← HL2.out, ← Hn.out]] at his
        have hb1r := via hb13 hb3r
        generalize anyK cs code k = ak at *
        generalize topL L = tl at *
        go_wp2_with fail
        go_region
        go_wp2_with (go_at_call 11; refine (his.out _ (below_drewN _ _ 1)).mono ?_; rintro r5 w5 ⟨rfl, hb5⟩)
        go_ret
        exact ⟨rfl, via hb1r ((below_drewN _ wr 1).trans hb5)⟩
theorem law_CauseIs (sv : Value) (l : List (Int × Bool × Bool)) (code : Int) (w : World) (hl : LaidE w) (hrow : Row w 3 sv l.length (opsC l)) :
    Calls Tryd.prog 3 #[sv, .int .i64 code] w fun r w' => r = .returned (.bool true) ∧ Below w.heap.size w w' := causeis_walk l sv code w hl hrow
end SLCIs

end Go.Proofs.YtppdbadigecegaaDoor

