/- look.Decode. -/
import Derived.Test.YtblbhlgihlgncaaDoorDecode
import Derived.Test.YtblbhlgihlgncaaDoorVCheck
import Derived.Test.YtblbhlgihlgncaaDoorGn
import Derived.Laws.EntriesVeiled
import Derived.Handy
set_option linter.unusedVariables false
set_option linter.unusedSimpArgs false
namespace Go.Proofs.YtblbhlgihlgncaaDoor
section SLkDec
open Go.RowKit

/-- What words are decoded to: a type, and a struct; of words that are not right, none. -/
def decT (s : Schema) (ws : List (BitVec 64)) : Int := if (allW s ws).1 = 0 then ((hiN (ws.getD 0 0#64) : Nat) : Int) else 0
def decV (s : Schema) (ws : List (BitVec 64)) : St 5 := if (allW s ws).1 = 0 then decS s ws 4 (hiN (ws.getD 0 0#64) : Nat) 1 else (⟨0#64, ⟨#[]⟩, [], []⟩ : Node (Node (St 4)))
def DecodeP (s : Schema) (ws : List (BitVec 64)) (w : World) (e : Ending) (w' : World) : Prop :=
  ∃ x0 x1 x2 x3 u, e = .returned (.tuple #[.int .i64 (decT s ws), .agg #[x0, x1, x2, x3], u]) ∧ ErrW w' u (allW s ws).1 (allW s ws).2.1 ∧ Below w.heap.size w w' ∧ KW (fun b => b < w.heap.size) w' (fun W => RdS 5 W [x0, x1, x2, x3] (decV s ws))

theorem allW_zero {s : Schema} {ws : List (BitVec 64)} (h0 : (allW s ws).1 = 0) : (allW s ws).2.1 = none := by
  unfold allW at h0 ⊢
  split
  · rfl
  next hr =>
  rw [if_neg hr] at h0
  split
  · rfl
  next hl =>
  rw [if_neg hl] at h0
  split
  · rfl
  · next c e p e2 =>
    exfalso
    rw [e2] at h0
    have hb := runW_bd (by simpa using hr) (ws := ws) (by omega)
    rw [e2] at hb
    have := hb.code e p rfl
    simp only at h0
    omega
theorem errW_zero {w : World} {u : Value} {s : Schema} {ws : List (BitVec 64)} (h : ErrW w u (allW s ws).1 (allW s ws).2.1) (h0 : (allW s ws).1 = 0) : u = .nilIface := by
  rw [allW_zero h0, h0] at h
  exact h
theorem errW_iface {w : World} {u : Value} {e : Int} {p : Option Nat} (h : ErrW w u e p) (h0 : e ≠ 0) : ∃ T v, u = .iface T v := by
  cases p with
  | none => exact ⟨_, _, by rw [show u = ErrV e from h, ErrV, if_neg h0]⟩
  | some p => obtain ⟨A, h1, _⟩ := h; exact ⟨_, _, h1⟩

set_option maxRecDepth 100000 in
set_option maxHeartbeats 8000000 in
theorem ldecode_any (s : Schema) (ws : List (BitVec 64)) (sv wv : Value) (w : World) (hs : Sch w sv s) (hw : Row w 1 wv ws.length (ws.map U)) :
    Calls Tryd.prog 57 #[sv, wv] w (DecodeP s ws w) := by
  obtain ⟨sa, scap, hsv, -, -, -⟩ := hs.shape
  obtain ⟨ns, hns⟩ : ∃ ns, ns = s.length := ⟨_, rfl⟩
  rw [← hns] at hsv
  subst hsv
  clear hns
  obtain ⟨w1, hw1, hb1, hlt1, hbox1⟩ := boxed w #[.slice sa ns scap] 27
  obtain ⟨w2, hw2, hb2, hlt2, hbox2⟩ := boxed w1 #[wv] 29
  obtain ⟨w3, hw3, hb3, hz3, hR⟩ := TB.make w2 (.int .u64 0) (.string ⟨#[]⟩) (.slice none 0 0) (.slice none 0 0) 32
  have s1 : w1.cell? ⟨w.heap.size, 0, none⟩ = some (.slice sa ns scap) := hbox1 0
  have s2 : w2.cell? ⟨w1.heap.size, 0, none⟩ = some wv := hbox2 0
  have hb23 := via hb2 hb3
  have hb13 := via hb1 hb23
  have s13 := (hb23.cell hlt1).trans s1
  have s23 := (hb3.cell hlt2).trans s2
  have hchk := vcheck_any s ws (.slice sa ns scap) wv w3 (hs.below hb13 (Nat.le_refl _)) (hw.below hb13 (Nat.le_refl _))
  have Hs := hid fun W (hW : Below w3.heap.size w3 W) => hs.below (hb13.trans (hW.mono hb13.size)) (Nat.le_refl _)
  have Hw := hid fun W (hW : Below w3.heap.size w3 W) => hw.below (hb13.trans (hW.mono hb13.size)) (Nat.le_refl _)
  have hlt13 := Nat.lt_of_lt_of_le hlt1 hb23.size
  have hlt23 := Nat.lt_of_lt_of_le hlt2 hb3.size
  obtain ⟨R, hRe⟩ : ∃ R, w2.heap.size = R := ⟨_, rfl⟩
  rw [hRe] at hR
  have hRw : w.heap.size ≤ R := by have := hb1.size; have := hb2.size; omega
  obtain ⟨B1, hB1⟩ : ∃ B1, w1.heap.size = B1 := ⟨_, rfl⟩
  rw [hB1] at s23 hlt23
  have hR13 : R ≠ w.heap.size ∧ R ≠ B1 := by constructor <;> omega
  have Hb13 := hid hb13
  clear s1 s2 hbox1 hbox2 hs hw hb1 hb2 hb3 hb23 hb13
  by_cases h0 : (allW s ws).1 = 0
  · obtain ⟨hr, hL0, hL200, hlo, hhi, hv⟩ := all_vis h0
    have HT := hid (show decT s ws = ((hiN (ws.getD 0 0#64) : Nat) : Int) from if_pos h0)
    have HV := hid (show decV s ws = decS s ws 4 (hiN (ws.getD 0 0#64) : Nat) 1 from if_pos h0)
    obtain ⟨x, hx⟩ : ∃ x, x = ws.getD 0 0#64 := ⟨_, rfl⟩
    rw [← hx] at hv HT HV hlo hhi
    have hpart := part_any x
    obtain ⟨tn, htn⟩ : ∃ tn, tn = hiN x := ⟨_, rfl⟩
    rw [show loV x = ((loN x : Nat) : Int) from rfl, show hiV x = ((hiN x : Nat) : Int) from rfl, ← htn] at hpart
    rw [← htn] at hv HT HV
    have Hat := hid fun (W : World) (Ba : Nat) (hW : Below w3.heap.size w3 W) (h : CapB W w.heap.size B1 Ba (.slice sa ns scap) wv) => at_any s hr ws hL0 hL200 (.slice sa ns scap) wv 4 tn 1 W w.heap.size B1 Ba h (Hs.out W hW) (Hw.out W hW) hv
    have Hcell := hid fun (W : World) (hW : Below w3.heap.size w3 W) => (Hw.out W hW).cons hL0
    have Hz := hid fun (W : World) (u : Value) (h : ErrW W u (allW s ws).1 (allW s ws).2.1) => errW_zero h h0
    have Hx := hid hx
    obtain ⟨bw, offw, cap, hwv, hcap1, hcap2, -, -⟩ := Hcell.out w3 (Below.refl _ _)
    subst hwv
    have Hx0 := hid fun (W : World) (hW : Below w3.heap.size w3 W) => show W.cell? ⟨bw, offw, none⟩ = some (U x) from by
      have h := ((Hw.out W hW).cells hL0).2 0 (by omega)
      rw [Nat.add_zero] at h
      rw [h, Hx.out, List.getElem?_map, List.getElem?_eq_getElem hL0, List.getD_eq_getElem?_getD, List.getElem?_eq_getElem hL0]
      rfl
    obtain ⟨L, hL⟩ : ∃ L, L = ws.length := ⟨_, rfl⟩
    have hLp : (0 : Int) < (L : Int) := by omega
    rw [← hL] at hw2 s23 hchk Hat hL200 ⊢
    clear hv hx htn hlo hhi hL hcap1 Hcell Hw Hs hL0
    go_enter Tryd.func57, Tryd.ntmps57
    go_wp2_with fail
    ((refine hchk.mono ?_); rintro r4 w4 ⟨u, rfl, hE, hb4⟩)
    obtain rfl := Hz.out _ _ hE
    replace s13 := (hb4.cell hlt13).trans s13
    replace s23 := (hb4.cell hlt23).trans s23
    have x0c := Hx0.out w4 hb4
    have hFn : ∃ w5, w4.alloc (.cells #[.func (.func 77) #[] #[.pointer (some ⟨w.heap.size, 0, none⟩), .pointer (some ⟨B1, 0, none⟩), .pointer (some ⟨w4.heap.size, 0, none⟩)]] 149) = w5 := ⟨_, rfl⟩
    obtain ⟨w5, hw5⟩ := hFn
    have hb5 : Below w4.heap.size w4 w5 := by rw [← hw5]; exact below_alloc _ _
    have hC : CapB w5 w.heap.size B1 w4.heap.size (.slice sa ns scap) (.slice (some ⟨bw, offw, none⟩) L cap) := by
      refine ⟨(hb5.cell (p := ⟨w.heap.size, 0, none⟩) (Nat.lt_of_lt_of_le hlt13 hb4.size)).trans s13, (hb5.cell (p := ⟨B1, 0, none⟩) (Nat.lt_of_lt_of_le hlt23 hb4.size)).trans s23, ?_, ?_, ?_, ?_⟩
      · rw [← hw5]; simp [go_sem]
      · exact Nat.lt_of_lt_of_le (Nat.lt_of_lt_of_le hlt13 hb4.size) hb5.size
      · exact Nat.lt_of_lt_of_le (Nat.lt_of_lt_of_le hlt23 hb4.size) hb5.size
      · rw [← hw5]; simp
    have hcall := hid (Hat.out w5 _ (via hb4 hb5) hC)
    have hb35 := via hb4 hb5
    have f5 := hC.f
    clear hC hE
    go_wp2_with fail
    ((refine (hpart _).mono ?_); rintro r4 w4 ⟨rfl, rfl⟩)
    go_wp2_with fail
    ((refine hcall.out.mono ?_); rintro r6 w6 ⟨cs, rfl, hb6, hrd⟩)
    clear f5
    obtain ⟨y0, y1, a2, m2, p2, a3, m3, p3, rfl⟩ := form_S 5 _ _ _ hrd.now
    have hb36 := via hb35 hb6
    have hR6 := hR.below hb36
    have hR9 := (((hR6.set0 (U y0)).set1 (.string y1)).set2 (.slice a2 m2 p2)).set3 (.slice a3 m3 p3)
    obtain ⟨w9, hw9⟩ : ∃ w9, w9 = (((w6.setCell ⟨R, 0, none⟩ (U y0)).setCell ⟨R, 1, none⟩ (.string y1)).setCell ⟨R, 2, none⟩ (.slice a2 m2 p2)).setCell ⟨R, 3, none⟩ (.slice a3 m3 p3) := ⟨_, rfl⟩
    have hk9 : ∀ b, b ≠ R → w9.heap[b]? = w6.heap[b]? := fun b hb => by
      rw [hw9, Below.heap_setCell _ _ _ _ hb, Below.heap_setCell _ _ _ _ hb, Below.heap_setCell _ _ _ _ hb, Below.heap_setCell _ _ _ _ hb]
    have hs9 : w9.heap.size = w6.heap.size := by rw [hw9]; simp [World.setCell]
    have hbl9 : Below w.heap.size w w9 := by
      rw [hw9]
      exact ((((Hb13.out.trans (hb36.mono Hb13.out.size)).setCell (p := ⟨R, 0, none⟩) hRw (U y0)).setCell (p := ⟨R, 1, none⟩) hRw (.string y1)).setCell (p := ⟨R, 2, none⟩) hRw (.slice a2 m2 p2)).setCell (p := ⟨R, 3, none⟩) hRw (.slice a3 m3 p3)
    have hR5 : R < w5.heap.size := Nat.lt_of_lt_of_le hR.lt hb35.size
    have hw5' : w.heap.size ≤ w5.heap.size := (Hb13.out.trans (hb35.mono Hb13.out.size)).size
    have Hfin := hid (show KW (fun b => b < w.heap.size) w9 (fun W => RdS 5 W [(U y0), (.string y1), (.slice a2 m2 p2), (.slice a3 m3 p3)] (decV s ws)) from by
      rw [HV.out]
      exact hrd.step (by omega) fun b hb hg => ⟨fun e => hg (show b < w5.heap.size from Nat.lt_of_lt_of_le e hw5'), hk9 b fun e => hg (show b < w5.heap.size from e ▸ hR5)⟩)
    have Hbl9 := hid hbl9
    have ⟨_, r0, r1, r2, r3, rf⟩ := hR6
    have f0 := rf 0
    have f1 := rf 1
    have f2 := rf 2
    have f3 := rf 3
    have hw9' := hw9.symm
    rw [← hw9] at hR9
    clear hbl9 hk9 hs9 hw9 hcall rf hrd hw5 hR6
    go_wp2_with fail
    clear r0 r1 r2 r3 f0 f1 f2 f3
    have ⟨_, g0, g1, g2, g3, _⟩ := hR9
    (try simp only [Exit.inBlock, Exit.then])
    refine bodyPost_ret (by simp [results, Tryd.results57, go_sem, g0, g1, g2, g3]; try rfl) rfl ?_
    exact ⟨(U y0), (.string y1), (.slice a2 m2 p2), (.slice a3 m3 p3), .nilIface, by rw [HT.out], by rw [h0, allW_zero h0]; rfl, Hbl9.out, Hfin.out⟩
  · have HT := hid (show decT s ws = 0 from if_neg h0)
    have HV := hid (show decV s ws = (⟨0#64, ⟨#[]⟩, [], []⟩ : Node (Node (St 4))) from if_neg h0)
    have Hz := hid fun (W : World) (u : Value) (h : ErrW W u (allW s ws).1 (allW s ws).2.1) => errW_iface h h0
    obtain ⟨a, cap, hwv, -⟩ := (Hw.out w3 (Below.refl _ _)).open
    subst hwv
    obtain ⟨L, hL⟩ : ∃ L, L = ws.length := ⟨_, rfl⟩
    rw [← hL] at hw2 s23 hchk ⊢
    clear hL Hw Hs
    go_enter Tryd.func57, Tryd.ntmps57
    go_wp2_with fail
    ((refine hchk.mono ?_); rintro r4 w4 ⟨u, rfl, hE, hb4⟩)
    obtain ⟨T, v, rfl⟩ := Hz.out _ _ hE
    have hR6 := hR.below hb4
    have hR9 := (((hR6.set0 (.int .u64 0)).set1 (.string ⟨#[]⟩)).set2 (.slice none 0 0)).set3 (.slice none 0 0)
    obtain ⟨w9, hw9⟩ : ∃ w9, w9 = (((w4.setCell ⟨R, 0, none⟩ (.int .u64 0)).setCell ⟨R, 1, none⟩ (.string ⟨#[]⟩)).setCell ⟨R, 2, none⟩ (.slice none 0 0)).setCell ⟨R, 3, none⟩ (.slice none 0 0) := ⟨_, rfl⟩
    have hbl9 : Below w.heap.size w w9 := by
      rw [hw9]
      exact ((((Hb13.out.trans (hb4.mono Hb13.out.size)).setCell (p := ⟨R, 0, none⟩) hRw _).setCell (p := ⟨R, 1, none⟩) hRw _).setCell (p := ⟨R, 2, none⟩) hRw _).setCell (p := ⟨R, 3, none⟩) hRw _
    have HE := hid (show ErrW w9 (.iface T v) (allW s ws).1 (allW s ws).2.1 from by
      generalize (allW s ws).2.1 = p at hE ⊢
      cases p with
      | none => exact hE
      | some p =>
        obtain ⟨A, h1, h2⟩ := hE
        refine ⟨A, h1, ?_⟩
        have hne : A ≠ R := fun e => by
          subst e
          have h3 := hR6.c0
          unfold AtB at h2
          simp [World.cell?, h2] at h3
        unfold AtB at h2 ⊢
        rw [hw9, Below.heap_setCell _ _ _ _ hne, Below.heap_setCell _ _ _ _ hne, Below.heap_setCell _ _ _ _ hne, Below.heap_setCell _ _ _ _ hne]
        exact h2)
    have Hbl9 := hid hbl9
    have ⟨_, r0, r1, r2, r3, rf⟩ := hR6
    have f0 := rf 0
    have f1 := rf 1
    have f2 := rf 2
    have f3 := rf 3
    have hw9' := hw9.symm
    rw [← hw9] at hR9
    clear hbl9 hw9 rf hR6 hE Hz
    go_wp2_with fail
    clear r0 r1 r2 r3 f0 f1 f2 f3
    have ⟨_, g0, g1, g2, g3, _⟩ := hR9
    (try simp only [Exit.inBlock, Exit.then])
    refine bodyPost_ret (by simp [results, Tryd.results57, go_sem, g0, g1, g2, g3]; try rfl) rfl ?_
    exact ⟨_, _, _, _, _, by rw [HT.out], HE.out, Hbl9.out, fun W hW => by
      rw [HV.out]
      exact RdN.mk' (t := (⟨0#64, ⟨#[]⟩, [], []⟩ : Node (Node (St 4)))) ⟨by show (⟨#[]⟩ : ByteArray).size ≤ 1000; decide, by simp, by simp⟩ (Row.nil W 1) (Kids.nil _ W)⟩
end SLkDec

end Go.Proofs.YtblbhlgihlgncaaDoor

