/- valid's look: all words. -/
import Derived.Test.YtblbhlgihlgncaaDoorVRun
import Derived.Test.YtblbhlgihlgncaaDoorValV
set_option linter.unusedVariables false
set_option linter.unusedSimpArgs false
namespace Go.Proofs.YtblbhlgihlgncaaDoor
section SVAll
open Go.RowKit

/-- What is wrong, as an error. -/
def ErrL (w : World) (u : Value) : Option (Int × Nat) → Prop
  | none => u = .nilIface
  | some (e, p) => ∃ A, u = .iface 165 (.pointer (some ⟨A, 0, none⟩)) ∧ AtB w A e (p : Int)
def RunR (w : World) (g : Nat) (sv wv : Value) (x : LS) (r : Ending) (w' : World) : Prop := (∃ u, r = .returned u ∧ ErrL w' u x.2) ∧ LkB w' g sv wv x.1 ∧ w.grownBy w' (some g)
theorem RunR.bad {w w3 w' : World} {g c A : Nat} {sv wv : Value} {e : Int} {p : Nat} (k1 : LkB w3 g sv wv c) (k2 : (w.alloc (.cells #[.nilIface] 34)).grownBy w3 (some g)) (hA : AtB w' A e (p : Int)) (hg : w3.grownBy w' (some w.heap.size)) (hgl : g < w.heap.size) :
    RunR w g sv wv (c, some (e, p)) (.returned (.iface 165 (.pointer (some ⟨A, 0, none⟩)))) w' :=
  ⟨⟨_, rfl, A, rfl, hA⟩, k1.keep (hg.block g k1.lt (fun h => by have := Option.some.inj h; omega)),
    grown_more (grown_more (grown_of (below_alloc w _) _) k2 (fun _ e => .inr e)) hg (fun k e => .inl (by have := Option.some.inj e; omega))⟩
theorem err_kept {w w3 : World} {g : Nat} (k2 : (w.alloc (.cells #[.nilIface] 34)).grownBy w3 (some g)) (hgl : g < w.heap.size) : w3.cell? ⟨w.heap.size, 0, none⟩ = some .nilIface ∧ w3.frozen? ⟨w.heap.size, 0, none⟩ = false := by
  have hb := k2.block w.heap.size (by simp) (fun h => by have := Option.some.inj h; omega)
  refine ⟨(World.cell?_of_block (a := ⟨w.heap.size, 0, none⟩) hb).trans (by simp), (World.frozen?_of_block (a := ⟨w.heap.size, 0, none⟩) hb).trans (by simp)⟩

theorem RunR.good {w w3 w' : World} {g c : Nat} {sv wv : Value} (k1 : LkB w3 g sv wv c) (k2 : (w.alloc (.cells #[.nilIface] 34)).grownBy w3 (some g)) (hb : Below (w3.setCell ⟨w.heap.size, 0, none⟩ .nilIface).heap.size (w3.setCell ⟨w.heap.size, 0, none⟩ .nilIface) w') (hgl : g < w.heap.size) :
    RunR w g sv wv (c, none) (.returned .nilIface) w' := by
  have h1 := grown_set (grown_refl w3 (some w.heap.size)) (p := ⟨w.heap.size, 0, none⟩) (.inr rfl) .nilIface
  have h2 := grown_below h1 hb
  exact ⟨⟨_, rfl, rfl⟩, k1.keep (h2.block g k1.lt (fun h => by have := Option.some.inj h; omega)),
    grown_more (grown_more (grown_of (below_alloc w _) _) k2 (fun _ e => .inr e)) h2 (fun k e => .inl (by have := Option.some.inj e; omega))⟩
theorem RunR.cell {w w3 w' : World} {g : Nat} (k2 : (w.alloc (.cells #[.nilIface] 34)).grownBy w3 (some g)) (hb : Below (w3.setCell ⟨w.heap.size, 0, none⟩ .nilIface).heap.size (w3.setCell ⟨w.heap.size, 0, none⟩ .nilIface) w') (hgl : g < w.heap.size) :
    w'.cell? ⟨w.heap.size, 0, none⟩ = some .nilIface := by
  have h := World.cell?_setCell_same w3 ⟨w.heap.size, 0, none⟩ .nilIface (err_kept k2 hgl).1
  have hs := k2.size
  exact (hb.cell (p := ⟨w.heap.size, 0, none⟩) (show w.heap.size < _ by simp [World.setCell]; simp at hs; omega)).trans h

set_option maxRecDepth 100000 in
set_option maxHeartbeats 8000000 in
theorem vrun_any {s : Schema} {ws : List (BitVec 64)} {sv : Value} {a : Option Addr} {cap g : Nat} {w0 : World} (hx : Lx s ws sv a cap g w0) (w : World) (hb : Below g w0 w) (hl : LkB w g sv (.slice a ws.length cap) 0) (h0 : 0 < ws.length) :
    Calls Tryd.prog 88 #[.pointer (some ⟨g, 0, none⟩)] w (RunR w g sv (.slice a ws.length cap) (runW s ws)) := by
  have hmf : ∀ (fn : Fn) (first cap : Array Value) (w : World), (Instr.makeFunc fn first cap).run Tryd.prog w = .ok (.func fn first cap) w := fun _ _ _ _ => rfl
  have hgl := hl.lt
  have hrr := hx.hr
  have hba := below_alloc w (.cells #[.nilIface] 34)
  have hb1 := hb.trans (hba.mono (Nat.le_of_lt hgl))
  have hl1 := hl.below hba
  have c1 := hl1.c1
  have c0 := hl1.c0
  obtain ⟨bw, offw, cap', he, hcap1, hcap2, hbw0, hcw0⟩ := hx.hw.cons h0
  simp only [Value.slice.injEq, true_and] at he
  obtain ⟨rfl, rfl⟩ := he
  obtain ⟨x, hxe⟩ : ∃ x, ws[0]? = some x := get_lt h0
  have hxc := (hb1.cell (p := ⟨bw, offw + 0, none⟩) (Nat.lt_of_lt_of_le hbw0 hx.hg)).trans (hcw0 0 (by omega))
  rw [List.getElem?_map, hxe, Option.map_some, Nat.add_zero] at hxc
  have hgd : ws.getD 0 0#64 = x := by rw [List.getD_eq_getElem?_getD, hxe]; rfl
  have hpart := part_any x
  rw [show loV x = ((loN x : Nat) : Int) from rfl, show hiV x = ((hiN x : Nat) : Int) from rfl] at hpart
  have Hrun := hid (show runW s ws = if loN x ≠ ws.length ∨ s.length ≤ hiN x then (0, some (10, 0)) else match clV ws.length 0 1 (typeL s (hiN x : Nat)).length 0 with
    | (c', none) => visN s ws 4 (hiN x : Nat) 1 c'
    | (c', some e) => (c', some e) from by unfold runW; rw [hgd]; rfl)
  have hhi2 : hiN x < 4294967296 := by unfold hiN; have := x.isLt; omega
  generalize loN x = n at *
  generalize hiN x = t at *
  have hend := vend_any 10 0
  have hk1 := hid hl1
  have hgr := hid fun W (h : (w.alloc (.cells #[.nilIface] 34)).grownBy W (some g)) => err_kept h hgl
  obtain ⟨sa, scap, hsv, _, _, hsm⟩ := hx.hs.shape
  clear hl hcw0 hxe hgd hl1
  subst hsv
  obtain ⟨L, hL⟩ : ∃ L, L = ws.length := ⟨_, rfl⟩
  have HL := hid hL
  obtain ⟨ns, hns⟩ : ∃ m, m = s.length := ⟨_, rfl⟩
  have Hns := hid hns
  have hL2 := hx.hL
  have hvis := hid (vvisit_any hx 4)
  have hnf := hid fun W (hW : Below g w0 W) => nfields_any s _ (t : Int) W (hx.hs.below hW hx.hg)
  have hz6 := typeL_six hx.hr (t : Int)
  obtain ⟨z, hz⟩ : ∃ z, z = (typeL s (t : Int)).length := ⟨_, rfl⟩
  unfold VisC at hvis
  rw [← hL] at c1 h0 hcap1 hL2 hk1 Hrun hvis ⊢
  rw [← hns] at c0 hk1 Hrun hvis hnf hsm ⊢
  rw [← hz] at hnf hz6 Hrun
  unfold maxLen at hsm
  have Hz := hid hz
  clear hL hns hz hx hb
  by_cases hn : n = L
  · have hne : ((n : Int) != (L : Int)) = false := by rw [hn]; simp
    by_cases hts : ns ≤ t
    · have htc : (ns : Int) ≤ (t : Int) := by omega
      have Hr := hid (Hrun.out.trans (if_pos (.inr hts)))
      rw [Hr.out]
      clear hn hts
      go_enter_defers Tryd.func88, Tryd.ntmps88
      go_wp2_with fail
      ((refine (hpart _).mono ?_); rintro r w1' ⟨rfl, rfl⟩)
      go_wp2_with fail
      ((refine (hend _).mono ?_); rintro r w1' ⟨rfl, rfl⟩)
      go_wp2_with fail
      refine leaves_cons (f := 89) (args := #[.pointer (some ⟨w.heap.size, 0, none⟩)]) (by simp) (by simp [go_sem]) ?_
      refine (vcatch_panic w.heap.size 10 0 (by omega) .nilIface [] _ (hgr.out _ (grown_refl _ _)).1 (hgr.out _ (grown_refl _ _)).2).mono ?_
      rintro r u' w5 ⟨rfl, rfl, A, hA, hE, hg5⟩
      have hfin := RunR.bad (p := 0) hk1.out (grown_refl _ _) hA hg5 hgl
      simp [Leaves, settle, results, Tryd.results88, go_sem, hE]
      exact hfin
    · have htc : (t : Int) < (ns : Int) := by omega
      have Hr := Hrun.out.trans (if_neg (by omega))
      have hcl := vclaim_any g (.slice sa ns scap) (some ⟨bw, offw, none⟩) L cap 0 1 z 0 _ hk1.out (by omega) (by omega) (by omega) (by omega)
      obtain ⟨⟨c2, e2⟩, hC⟩ : ∃ r, clV L 0 1 z 0 = r := ⟨_, rfl⟩
      rw [hC] at hcl Hr
      cases e2 with
      | some e =>
        obtain ⟨e, q⟩ := e
        simp only at Hr
        simp only [EndV] at hcl
        have he : e ≠ 0 := by
          have := (clV_bd (L := L) (c := 0) (to := 1) (n := z) (p := 0) (by omega) h0).code e q (by rw [hC])
          omega
        have Hr2 := hid Hr
        rw [Hr2.out]
        clear hn hts hC Hr
        go_enter_defers Tryd.func88, Tryd.ntmps88
        go_wp2_with fail
        ((refine (hpart _).mono ?_); rintro r w1' ⟨rfl, rfl⟩)
        go_wp2_with fail
        ((refine (hnf.out _ hb1).mono ?_); rintro r w1' ⟨rfl, rfl⟩)
        go_wp2_with fail
        ((refine hcl.mono ?_); rintro r w3 ⟨rfl, k1, k2⟩)
        go_wp2_with fail
        refine leaves_cons (f := 89) (args := #[.pointer (some ⟨w.heap.size, 0, none⟩)]) (by simp) (by simp [go_sem]) ?_
        refine (vcatch_panic w.heap.size e q he .nilIface [] _ (hgr.out _ k2).1 (hgr.out _ k2).2).mono ?_
        rintro r u' w5 ⟨rfl, rfl, A, hA, hE, hg5⟩
        have hfin := RunR.bad (p := q) k1 k2 hA hg5 hgl
        simp [Leaves, settle, results, Tryd.results88, go_sem, hE]
        exact hfin
      | none =>
        simp only at Hr
        simp only [EndV] at hcl
        obtain ⟨hce, hto, hcl2⟩ := clV_none hC
        rw [← hce] at hcl2
        have hv := hid fun W (h1 : Below g w0 W) (h2 : LkB W g (.slice sa ns scap) (.slice (some ⟨bw, offw, none⟩) L cap) c2) => hvis.out (t : Int) 1 c2 1 W h1 h2 hcl2 (by rw [← Hz.out]; exact hto) (by omega)
        unfold RetL at hv
        rw [← Hr] at hv
        have hbd := runW_bd (s := s) (ws := ws)
        have hcode : ∀ e q, (runW s ws).2 = some (e, q) → e ≠ 0 := fun e q h => by
          have := (visN_bd hrr 4 (t : Int) 1 c2 (ws := ws) (by rw [← HL.out]; exact hcl2)).code e q (by rw [← Hr]; exact h)
          omega
        obtain ⟨⟨c3, e3⟩, hR⟩ : ∃ r, runW s ws = r := ⟨_, rfl⟩
        rw [hR] at hv hcode ⊢
        clear hn hts hC Hr hce hbd hR Hrun
        cases e3 with
        | some e =>
          obtain ⟨e, q⟩ := e
          have he : e ≠ 0 := hcode e q rfl
          simp only [EndV] at hv
          go_enter_defers Tryd.func88, Tryd.ntmps88
          go_wp2_with fail
          ((refine (hpart _).mono ?_); rintro r w1' ⟨rfl, rfl⟩)
          go_wp2_with fail
          ((refine (hnf.out _ hb1).mono ?_); rintro r w1' ⟨rfl, rfl⟩)
          go_wp2_with fail
          ((refine hcl.mono ?_); rintro r w3 ⟨rfl, k1, k2⟩)
          go_wp2_with fail
          ((refine (hv.out _ (below_grown hb1 k2 (by simp; omega)) k1).mono ?_); rintro r w4 ⟨rfl, k3, k4⟩)
          have k5 := grown_trans k2 k4
          go_wp2_with fail
          refine leaves_cons (f := 89) (args := #[.pointer (some ⟨w.heap.size, 0, none⟩)]) (by simp) (by simp [go_sem]) ?_
          refine (vcatch_panic w.heap.size e q he .nilIface [] _ (hgr.out _ k5).1 (hgr.out _ k5).2).mono ?_
          rintro r u' w5 ⟨rfl, rfl, A, hA, hE, hg5⟩
          have hfin := RunR.bad (p := q) k3 k5 hA hg5 hgl
          simp [Leaves, settle, results, Tryd.results88, go_sem, hE]
          exact hfin
        | none =>
          simp only [EndV] at hv
          go_enter_defers Tryd.func88, Tryd.ntmps88
          go_wp2_with fail
          ((refine (hpart _).mono ?_); rintro r w1' ⟨rfl, rfl⟩)
          go_wp2_with fail
          ((refine (hnf.out _ hb1).mono ?_); rintro r w1' ⟨rfl, rfl⟩)
          go_wp2_with fail
          ((refine hcl.mono ?_); rintro r w3 ⟨rfl, k1, k2⟩)
          go_wp2_with fail
          ((refine (hv.out _ (below_grown hb1 k2 (by simp; omega)) k1).mono ?_); rintro r w4 ⟨rfl, k3, k4⟩)
          have k5 := grown_trans k2 k4
          obtain ⟨y1, y2⟩ := hgr.out _ k5
          go_wp2_with fail
          refine leaves_cons (f := 89) (args := #[.pointer (some ⟨w.heap.size, 0, none⟩)]) (by simp) (by simp [go_sem]) ?_
          refine (vcatch_idle w.heap.size _).mono ?_
          rintro r u' w5 ⟨rfl, rfl, hb5⟩
          have hfin := RunR.good k3 k5 hb5 hgl
          have hE := RunR.cell k5 hb5 hgl
          simp [Leaves, settle, results, Tryd.results88, go_sem, hE]
          exact hfin
  · have hne : ((n : Int) != (L : Int)) = true := by rw [bne_iff_ne]; omega
    have Hr := hid (Hrun.out.trans (if_pos (.inl hn)))
    rw [Hr.out]
    go_enter_defers Tryd.func88, Tryd.ntmps88
    go_wp2_with fail
    ((refine (hpart _).mono ?_); rintro r w1' ⟨rfl, rfl⟩)
    go_wp2_with fail
    ((refine (hend _).mono ?_); rintro r w1' ⟨rfl, rfl⟩)
    go_wp2_with fail
    refine leaves_cons (f := 89) (args := #[.pointer (some ⟨w.heap.size, 0, none⟩)]) (by simp) (by simp [go_sem]) ?_
    refine (vcatch_panic w.heap.size 10 0 (by omega) .nilIface [] _ (hgr.out _ (grown_refl _ _)).1 (hgr.out _ (grown_refl _ _)).2).mono ?_
    rintro r u' w5 ⟨rfl, rfl, A, hA, hE, hg5⟩
    have hfin := RunR.bad (p := 0) hk1.out (grown_refl _ _) hA hg5 hgl
    simp [Leaves, settle, results, Tryd.results88, go_sem, hE]
    exact hfin
end SVAll

end Go.Proofs.YtblbhlgihlgncaaDoor

