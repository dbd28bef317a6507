/- look.Path: what a path of a message leads to. -/
import Derived.Test.YtogaclolodlnbaaDoorLkDec
import Derived.Test.YtogaclolodlnbaaDoorTrGetC
import Derived.Test.YtogaclolodlnbaaDoorRCheck
import Derived.Test.YtogaclolodlnbaaDoorGe
import Derived.Test.YtogaclolodlnbaaDoorAs2
set_option linter.unusedVariables false
set_option linter.unusedSimpArgs false
namespace Go.Proofs.YtogaclolodlnbaaDoor
section SLkPath
open Go.RowKit

/-- What a path of words leads to: a number; and the error. -/
def pathN (s : Schema) (ws : List (BitVec 64)) (l : List Int) : BitVec 64 := if (allW s ws).1 = 0 then (getC s 5 (decT s ws) (decV s ws) l).1 else 0#64
def PathP (s : Schema) (ws : List (BitVec 64)) (l : List Int) (w : World) (e : Ending) (w' : World) : Prop :=
  ∃ u, e = .returned (.tuple #[U (pathN s ws l), u]) ∧ Below w.heap.size w w' ∧ ((allW s ws).1 = 0 → u = ErrV (getC s 5 (decT s ws) (decV s ws) l).2) ∧ ((allW s ws).1 ≠ 0 → ErrW w' u (allW s ws).1 (allW s ws).2.1)

set_option maxRecDepth 100000 in
set_option maxHeartbeats 8000000 in
theorem lpath_any (s : Schema) (ws : List (BitVec 64)) (l : List Int) (sv wv pv : Value) (w : World) (hs : Sch w sv s) (hw : Row w 1 wv ws.length (ws.map U)) (hp : Ints w pv l) :
    Calls Tryd.prog 70 #[sv, wv, pv] w (PathP s ws l w) := by
  have hdec := hid (ldecode_any s ws sv wv w hs hw)
  unfold DecodeP at hdec
  have Hs := hid fun W (hW : Below w.heap.size w W) => hs.below hW (Nat.le_refl _)
  have Hp := hid fun W (hW : Below w.heap.size w W) => show Ints W pv l from Row.below hp hW (Nat.le_refl _)
  obtain ⟨wa, wc, rfl, -⟩ := hw.open
  obtain ⟨pa, pc, rfl, -⟩ := Row.open hp
  obtain ⟨sa, scap, hsv, -⟩ := hs.shape
  obtain ⟨ns, hns⟩ : ∃ ns, ns = s.length := ⟨_, rfl⟩
  rw [← hns] at hsv
  subst hsv
  obtain ⟨L, hL⟩ : ∃ L, L = ws.length := ⟨_, rfl⟩
  obtain ⟨M, hM⟩ : ∃ M, M = l.length := ⟨_, rfl⟩
  rw [← hL] at hdec ⊢
  rw [← hM] at Hp ⊢
  obtain ⟨tt, htt⟩ : ∃ tt, tt = decT s ws := ⟨_, rfl⟩
  obtain ⟨V, hV⟩ : ∃ V, V = decV s ws := ⟨_, rfl⟩
  rw [← htt, ← hV] at hdec
  have Hget := hid fun (cs : List Value) (W : World) (hW : Below w.heap.size w W) (h : RdS 5 W cs V) => tget_any s (.slice sa ns scap) 5 tt V cs l _ W (Hs.out W hW) h (Hp.out W hW)
  have Hn := hid (show pathN s ws l = if (allW s ws).1 = 0 then (getC s 5 tt V l).1 else 0#64 from by rw [htt, hV]; rfl)
  have Hu := hid (show ErrV (getC s 5 (decT s ws) (decV s ws) l).2 = ErrV (getC s 5 tt V l).2 from by rw [htt, hV])
  clear hs hw hp hns hL hM htt hV Hs Hp
  go_enter Tryd.func70, Tryd.ntmps70
  go_wp2_with fail
  ((refine hdec.out.mono ?_); rintro r6 w6 ⟨k0, k1, k2, k3, e, rfl, hE, hb6, hkw⟩)
  obtain ⟨y0, y1, a2, m2, p2, a3, m3, p3, hcs⟩ := form_S 5 _ _ _ hkw.now
  simp only [List.cons.injEq] at hcs
  obtain ⟨rfl, rfl, rfl, rfl, _⟩ := hcs
  obtain ⟨w7, hw7, hb7, hz7, hV7⟩ := TB.make w6 (.int .u64 0) (.string ⟨#[]⟩) (.slice none 0 0) (.slice none 0 0) 49
  obtain ⟨Vx, hVe7⟩ : ∃ Vx, w6.heap.size = Vx := ⟨_, rfl⟩
  rw [hVe7] at hV7
  have ⟨_, v0, v1, v2, v3, vf⟩ := hV7
  have vf0 := vf 0
  have vf1 := vf 1
  have vf2 := vf 2
  have vf3 := vf 3
  obtain ⟨w8, hx7⟩ : ∃ w8, w8 = (((w7.setCell ⟨Vx, 0, none⟩ (U y0)).setCell ⟨Vx, 1, none⟩ (.string y1)).setCell ⟨Vx, 2, none⟩ (.slice a2 m2 p2)).setCell ⟨Vx, 3, none⟩ (.slice a3 m3 p3) := ⟨_, rfl⟩
  have hV7 : TB w8 Vx (U y0) (.string y1) (.slice a2 m2 p2) (.slice a3 m3 p3) := by rw [hx7]; exact (((hV7.set0 _).set1 _).set2 _).set3 _
  have hVl7 : w6.heap.size ≤ Vx := Nat.le_of_eq hVe7
  have hbb7 : Below w6.heap.size w6 w8 := by
    rw [hx7]
    exact (((hb7.setCell (p := ⟨Vx, 0, none⟩) hVl7 _).setCell (p := ⟨Vx, 1, none⟩) hVl7 _).setCell (p := ⟨Vx, 2, none⟩) hVl7 _).setCell (p := ⟨Vx, 3, none⟩) hVl7 _
  have hx7' := hx7.symm
  clear hx7 hb7 hz7 vf
  have hb8 := via hb6 hbb7
  have hrx : RdS 5 w8 [(U y0), (.string y1), (.slice a2 m2 p2), (.slice a3 m3 p3)] V := (hkw.below hbb7).now
  have hget := hid (Hget.out _ w8 hb8 hrx)
  clear hdec Hget hkw hrx
  have ⟨_, c0, c1, c2, c3, _⟩ := hV7
  by_cases h0 : (allW s ws).1 = 0
  · obtain rfl := errW_zero hE h0
    have Hif := hid (show (if (allW s ws).1 = 0 then (getC s 5 tt V l).1 else 0#64) = (getC s 5 tt V l).1 from if_pos h0)
    have H0 := hid h0
    clear hE h0
    go_wp2_with fail
    clear v0 v1 v2 v3 vf0 vf1 vf2 vf3
    ((refine hget.out.mono ?_); rintro r9 w9 ⟨rfl, hb9⟩)
    go_wp2_with fail
    go_returns
    exact ⟨ErrV (getC s 5 tt V l).2, by rw [Hn.out, Hif.out]; rfl, via hb8 hb9, fun _ => Hu.out.symm, fun h => absurd H0.out h⟩
  · obtain ⟨T, v, rfl⟩ := errW_iface hE h0
    have Hif := hid (show (if (allW s ws).1 = 0 then (getC s 5 tt V l).1 else 0#64) = 0#64 from if_neg h0)
    have H0 := hid h0
    have HE := hid (hE.below hbb7)
    clear hE h0 hget
    go_wp2_with fail
    clear v0 v1 v2 v3 vf0 vf1 vf2 vf3
    go_returns
    exact ⟨.iface T v, by rw [Hn.out, Hif.out]; rfl, hb8, fun h => absurd h H0.out, fun _ => HE.out⟩
end SLkPath

section SLkRights
open Go.RowKit

set_option maxRecDepth 100000 in
set_option maxHeartbeats 8000000 in
theorem rights_any {s : Schema} {ws : List (BitVec 64)} {l : List Int} {sv wv pv : Value} {w : World} (hl : LaidE w) (hs : Sch w sv s) (hw : Row w 1 wv ws.length (ws.map U)) (hp : Ints w pv l) :
    Calls Tryd.prog 38 #[sv, wv, pv] w fun r w' => r = .returned (.bool true) ∧ Below w.heap.size w w' := by
  have hrc := hid (rcheck_any s ws sv wv w hs hw)
  have hdec := hid fun W (hW : Below w.heap.size w W) => ldecode_any s ws sv wv W (hs.below hW (Nat.le_refl _)) (hw.below hW (Nat.le_refl _))
  have hpath := hid fun W (hW : Below w.heap.size w W) => lpath_any s ws l sv wv pv W (hs.below hW (Nat.le_refl _)) (hw.below hW (Nat.le_refl _)) (Row.below hp hW (Nat.le_refl _))
  have hla := hid fun W (hW : Below w.heap.size w W) => LaidE.below hl hW (LaidE.pos hl)
  obtain ⟨tt, htt⟩ : ∃ tt, tt = decT s ws := ⟨_, rfl⟩
  obtain ⟨V, hV⟩ : ∃ V, V = decV s ws := ⟨_, rfl⟩
  have Hget := hid fun (cs : List Value) (W : World) (hW : Below w.heap.size w W) (h : RdS 5 W cs V) => tget_any s sv 5 tt V cs l pv W (hs.below hW (Nat.le_refl _)) h (Row.below hp hW (Nat.le_refl _))
  have Hchk := hid fun (cs : List Value) (W : World) (hW : Below w.heap.size w W) (h : RdS 5 W cs V) => tcheck_any s sv 5 tt V cs W (hs.below hW (Nat.le_refl _)) h
  obtain ⟨wa, wc, rfl, -⟩ := hw.open
  obtain ⟨pa, pc, rfl, -⟩ := Row.open hp
  obtain ⟨sa, scap, hsv, -⟩ := hs.shape
  obtain ⟨ns, hns⟩ : ∃ ns, ns = s.length := ⟨_, rfl⟩
  rw [← hns] at hsv
  subst hsv
  obtain ⟨L, hL⟩ : ∃ L, L = ws.length := ⟨_, rfl⟩
  obtain ⟨M, hM⟩ : ∃ M, M = l.length := ⟨_, rfl⟩
  obtain ⟨⟨e, p, n⟩, hA⟩ : ∃ r, allW s ws = r := ⟨_, rfl⟩
  have HA := hid hA
  unfold DecodeP at hdec
  unfold PathP pathN at hpath
  unfold GetP at Hget
  rw [hA] at hrc
  rw [← hL] at hrc hdec hpath ⊢
  rw [← hM] at hpath Hget ⊢
  rw [← htt, ← hV] at hdec hpath
  unfold lookC at hrc
  simp only at hrc
  obtain ⟨pd, hpd⟩ : ∃ pd : Int, ((p.getD 0 : Nat) : Int) = pd := ⟨_, rfl⟩
  obtain ⟨ps, hps⟩ : ∃ ps, p.isSome = ps := ⟨_, rfl⟩
  rw [hpd, hps] at hrc
  have HT := hid htt
  have HV := hid hV
  clear hs hw hp hns hL hM hA hl hpd hps htt hV
  go_enter Tryd.func38, Tryd.ntmps38
  go_wp2_with fail
  ((refine hrc.out.mono ?_); rintro r1 w1 ⟨rfl, hb1⟩)
  obtain ⟨w2, hw2, hb2, hlt2, hbox⟩ := boxed w1 #[.int .i64 e, .int .i64 pd, .bool ps, .int .i64 (n : Int)] 109
  have hb12 := via hb1 hb2
  have d0 := hbox 0
  simp only [List.getElem?_toArray, List.getElem?_cons_zero] at d0
  obtain ⟨B, hBe⟩ : ∃ B, w1.heap.size = B := ⟨_, rfl⟩
  rw [hBe] at d0 hlt2
  clear hbox hrc
  go_wp2_with fail
  ((refine (hdec.out w2 hb12).mono ?_); rintro r6 w6 ⟨k0, k1, k2, k3, u, rfl, hE, hb6, hkw⟩)
  have hb26 := via hb12 hb6
  replace d0 := (hb6.cell (p := ⟨B, 0, none⟩) hlt2).trans d0
  have hlt6 := Nat.lt_of_lt_of_le hlt2 hb6.size
  rw [HA.out] at hE
  simp only at hE
  clear hw2 hdec
  by_cases h0 : e = 0
  · subst h0
    obtain rfl := errW_zero (s := s) (ws := ws) (by rw [HA.out]; exact hE) (by rw [HA.out])
    obtain ⟨y0, y1, a2, m2, p2, a3, m3, p3, hcs⟩ := form_S 5 _ _ _ hkw.now
    simp only [List.cons.injEq] at hcs
    obtain ⟨rfl, rfl, rfl, rfl, _⟩ := hcs
    obtain ⟨w7, hw7, hb7, hz7, hV7⟩ := TB.make w6 (.int .u64 0) (.string ⟨#[]⟩) (.slice none 0 0) (.slice none 0 0) 49
    obtain ⟨Vx, hVe7⟩ : ∃ Vx, w6.heap.size = Vx := ⟨_, rfl⟩
    rw [hVe7] at hV7
    have ⟨_, v0, v1, v2, v3, vf⟩ := hV7
    have vf0 := vf 0
    have vf1 := vf 1
    have vf2 := vf 2
    have vf3 := vf 3
    obtain ⟨w8, hx7⟩ : ∃ w8, w8 = (((w7.setCell ⟨Vx, 0, none⟩ (U y0)).setCell ⟨Vx, 1, none⟩ (.string y1)).setCell ⟨Vx, 2, none⟩ (.slice a2 m2 p2)).setCell ⟨Vx, 3, none⟩ (.slice a3 m3 p3) := ⟨_, rfl⟩
    have hV7 : TB w8 Vx (U y0) (.string y1) (.slice a2 m2 p2) (.slice a3 m3 p3) := by rw [hx7]; exact (((hV7.set0 _).set1 _).set2 _).set3 _
    have hVl7 : w6.heap.size ≤ Vx := Nat.le_of_eq hVe7
    have hbb7 : Below w6.heap.size w6 w8 := by
      rw [hx7]
      exact (((hb7.setCell (p := ⟨Vx, 0, none⟩) hVl7 _).setCell (p := ⟨Vx, 1, none⟩) hVl7 _).setCell (p := ⟨Vx, 2, none⟩) hVl7 _).setCell (p := ⟨Vx, 3, none⟩) hVl7 _
    have hx7' := hx7.symm
    clear hx7 hb7 hz7 vf
    have hb8 := via hb26 hbb7
    have hrx : RdS 5 w8 [(U y0), (.string y1), (.slice a2 m2 p2), (.slice a3 m3 p3)] V := (hkw.below hbb7).now
    replace d0 := (hbb7.cell (p := ⟨B, 0, none⟩) hlt6).trans d0
    have Hrx := hid fun W (hW : Below w8.heap.size w8 W) => hrx.below hW (Nat.le_refl _)
    have HV7 := hid fun W (hW : Below w8.heap.size w8 W) => hV7.below hW
    have hchk0 : checkC s 5 tt V = 0 := by
      have h := dec_check (s := s) (ws := ws) (by rw [HA.out])
      have e1 : decT s ws = ((hiN (ws.getD 0 0#64) : Nat) : Int) := if_pos (by rw [HA.out])
      have e2 : decV s ws = decS s ws 4 (hiN (ws.getD 0 0#64) : Nat) 1 := if_pos (by rw [HA.out])
      rw [HT.out, HV.out, e1, e2]; exact h
    rw [hchk0] at Hchk
    have hpa := hid (hpath.out w8 hb8)
    rw [if_pos (show (allW s ws).1 = 0 by rw [HA.out])] at hpa
    obtain ⟨g, hg⟩ : ∃ g, getC s 5 tt V l = g := ⟨_, rfl⟩
    rw [hg] at hpa Hget
    clear hkw hrx hchk0 hpath hE hg
    go_wp2_with fail
    clear v0 v1 v2 v3 vf0 vf1 vf2 vf3
    clear d0
    ((refine hpa.out.mono ?_); rintro r9 w9 ⟨f, rfl, hb9, hf, -⟩)
    obtain rfl := hf (by rw [HA.out])
    have ⟨_, c0, c1, c2, c3, _⟩ := HV7.out _ hb9
    clear hpa hf
    go_wp2_with fail
    ((refine (Hget.out _ w9 (via hb8 hb9) (Hrx.out _ hb9)).mono ?_); rintro r10 w10 ⟨rfl, hb10⟩)
    have hb810 := via hb9 hb10
    clear c0 c1 c2 c3
    go_wp2_with fail
    ((refine (top_nil _).mono ?_); rintro r11 w11 ⟨rfl, hb11⟩)
    have hb811 := via hb810 hb11
    have ⟨_, c0, c1, c2, c3, _⟩ := HV7.out _ hb811
    go_wp2_with fail
    ((refine (Hchk.out _ w11 (via hb8 hb811) (Hrx.out _ hb811)).mono ?_); rintro r12 w12 ⟨rfl, hb12⟩)
    have hb812 := via hb811 hb12
    rw [show ErrV 0 = .nilIface from rfl]
    go_wp2_with fail
    ((refine (top_nil _).mono ?_); rintro r13 w13 ⟨rfl, hb13⟩)
    have hb813 := via hb812 hb13
    go_wp2_with fail
    ((refine (top_errW (p := none) (hla.out _ (via hb8 hb813)) (rfl : ErrV g.2 = ErrV g.2)).mono ?_); rintro r14 w14 ⟨rfl, hb14⟩)
    have hb814 := via hb813 hb14
    go_wp2_with fail
    ((refine (top_errW (p := none) (hla.out _ (via hb8 hb814)) (rfl : ErrV g.2 = ErrV g.2)).mono ?_); rintro r15 w15 ⟨rfl, hb15⟩)
    go_wp2_with fail
    go_returns
    exact ⟨rfl, via hb8 (via hb814 hb15)⟩
  · have hVz : V = (⟨0#64, ⟨#[]⟩, [], []⟩ : Node (Node (St 4))) := by rw [HV.out]; exact if_neg (by rw [HA.out]; exact h0)
    obtain ⟨TT, vv, rfl⟩ := errW_iface hE h0
    obtain ⟨a2, p2, a3, p3, hcs⟩ : ∃ a2 p2 a3 p3, [k0, k1, k2, k3] = [U 0#64, .string ⟨#[]⟩, .slice a2 0 p2, .slice a3 0 p3] := by
      have h := hkw.now
      rw [hVz] at h
      obtain ⟨a2, p2, a3, p3, h1, _⟩ := RdN.open h
      exact ⟨a2, p2, a3, p3, h1⟩
    simp only [List.cons.injEq] at hcs
    obtain ⟨rfl, rfl, rfl, rfl, _⟩ := hcs
    obtain ⟨w7, hw7, hb7, hz7, hV7⟩ := TB.make w6 (.int .u64 0) (.string ⟨#[]⟩) (.slice none 0 0) (.slice none 0 0) 49
    obtain ⟨Vx, hVe7⟩ : ∃ Vx, w6.heap.size = Vx := ⟨_, rfl⟩
    rw [hVe7] at hV7
    have ⟨_, v0, v1, v2, v3, vf⟩ := hV7
    have vf0 := vf 0
    have vf1 := vf 1
    have vf2 := vf 2
    have vf3 := vf 3
    obtain ⟨w8, hx7⟩ : ∃ w8, w8 = (((w7.setCell ⟨Vx, 0, none⟩ (U 0#64)).setCell ⟨Vx, 1, none⟩ (.string ⟨#[]⟩)).setCell ⟨Vx, 2, none⟩ (.slice a2 0 p2)).setCell ⟨Vx, 3, none⟩ (.slice a3 0 p3) := ⟨_, rfl⟩
    have hV7 : TB w8 Vx (U 0#64) (.string ⟨#[]⟩) (.slice a2 0 p2) (.slice a3 0 p3) := by rw [hx7]; exact (((hV7.set0 _).set1 _).set2 _).set3 _
    have hVl7 : w6.heap.size ≤ Vx := Nat.le_of_eq hVe7
    have hbb7 : Below w6.heap.size w6 w8 := by
      rw [hx7]
      exact (((hb7.setCell (p := ⟨Vx, 0, none⟩) hVl7 _).setCell (p := ⟨Vx, 1, none⟩) hVl7 _).setCell (p := ⟨Vx, 2, none⟩) hVl7 _).setCell (p := ⟨Vx, 3, none⟩) hVl7 _
    have hx7' := hx7.symm
    clear hx7 hb7 hz7 vf
    have hb8 := via hb26 hbb7
    replace d0 := (hbb7.cell (p := ⟨B, 0, none⟩) hlt6).trans d0
    have hlB8 := Nat.lt_of_lt_of_le hlt6 hbb7.size
    have htop := hid fun W (hW : Below w8.heap.size w8 W) => top_errW (hla.out W (via hb8 hW)) (hE.below (via hbb7 hW))
    have ⟨_, c0, c1, c2, c3, _⟩ := hV7
    have hne : (e != 0) = true := by simpa using h0
    have hee : (e == e) = true := by simp
    clear hkw hVz hE Hget Hchk hpath
    go_wp2_with fail
    clear v0 v1 v2 v3 vf0 vf1 vf2 vf3
    refine wp_region_held_drew (S := (fun W => W.cell? ⟨B, 0, none⟩ = some (.int .i64 e) ∧ W.cell? ⟨Vx, 3, none⟩ = some (.slice a3 0 p3))) (by kernel_rfl) ?_ (fun hHeld => ?_)
    · exact ⟨d0, c3⟩
    refine wpAnyH_take (i := 0) (oi := { dst := some 28, op := Op.move (Operand.tmp 10), type := 34, pos := "law.go:173", after := #[], guard := none }) (v := ?vr0) rfl (by kernel_rfl) (by kernel_rfl) (by kernel_rfl) (fun _ _ _ h => h) (Or.inl ⟨by rfl, ?hyr0⟩) (by assumption) ?restr0
    case hyr0 => first | (intro w hSw; (try dsimp only at hSw); go_simp; done) | (intro w hSw; (try dsimp only at hSw); go_simp; with_reducible rfl)
    try simp only [Act.put, List.setIfInBounds_toArray, List.set_cons_zero, List.set_cons_succ]
    refine wpAnyH_take (i := 2) (oi := { dst := some 30, op := Op.fieldAddr 109 (Operand.tmp 7) 0, type := 0, pos := "law.go:173", after := #[], guard := none }) (v := ?vr2) rfl (by kernel_rfl) (by kernel_rfl) (by kernel_rfl) (fun _ _ _ h => h) (Or.inl ⟨by rfl, ?hyr2⟩) (by assumption) ?restr2
    case hyr2 => first | (intro w hSw; (try dsimp only at hSw); go_simp; done) | (intro w hSw; (try dsimp only at hSw); go_simp; with_reducible rfl)
    try simp only [Act.put, List.setIfInBounds_toArray, List.set_cons_zero, List.set_cons_succ]
    refine wpAnyH_take (i := 3) (oi := { dst := some 31, op := Op.load 31 (Operand.tmp 30), type := 31, pos := "law.go:173", after := #[{ on := 2, ground := Ground.data }], guard := none }) (v := ?vr3) rfl (by kernel_rfl) (by kernel_rfl) (by kernel_rfl) (fun _ _ _ h => h) (Or.inl ⟨by rfl, ?hyr3⟩) (by assumption) ?restr3
    case hyr3 => first | (intro w hSw; (try dsimp only at hSw); go_simp; done) | (intro w hSw; (try dsimp only at hSw); go_simp; with_reducible rfl)
    try simp only [Act.put, List.setIfInBounds_toArray, List.set_cons_zero, List.set_cons_succ]
    refine wpAnyH_ready (rs := [1]) (by kernel_rfl) (by simp) ?_
    refine AllReadyH.cons (o := { dst := some 29, op := Op.call { callee := Callee.value (Operand.func 18), args := #[Operand.tmp 28], argTypes := #[34] }, type := 31, pos := "law.go:173", after := #[{ on := 0, ground := Ground.data }], guard := none }) rfl (fun K hK => ?_) AllReadyH.nil
    go_simp
    ((refine (htop.out _ (below_drewN _ w8 1)).mono ?_); rintro rt wt ⟨rfl, hbt⟩)
    have hbt2 := (below_drewN w8.heap.size w8 1).trans hbt
    refine hK.out _ _ ?_ (fun hHeld => ?_)
    · exact ⟨(hbt2.cell (p := ⟨B, 0, none⟩) hlB8).trans d0, (hbt2.cell (p := ⟨Vx, 3, none⟩) hV7.lt).trans c3⟩
    clear hK K
    try simp only [Act.put, List.setIfInBounds_toArray, List.set_cons_zero, List.set_cons_succ]
    refine wpAnyH_take (i := 4) (oi := { dst := some 32, op := Op.binOp BinOp.eql 31 (Operand.tmp 29) (Operand.tmp 31) 31, type := 4, pos := "law.go:173", after := #[{ on := 1, ground := Ground.data }, { on := 3, ground := Ground.data }], guard := none }) (v := ?vr4) rfl (by kernel_rfl) (by kernel_rfl) (by kernel_rfl) (fun _ _ _ h => h) (Or.inl ⟨by rfl, ?hyr4⟩) (by assumption) ?restr4
    case hyr4 => first | (intro w hSw; (try dsimp only at hSw); go_simp; done) | (intro w hSw; (try dsimp only at hSw); go_simp; with_reducible rfl)
    try simp only [Act.put, List.setIfInBounds_toArray, List.set_cons_zero, List.set_cons_succ]
    refine wpAnyH_take (i := 5) (oi := { dst := some 33, op := Op.move (Operand.tmp 32), type := 4, pos := "law.go:173", after := #[{ on := 4, ground := Ground.data }, { on := 1, ground := Ground.chain }], guard := none }) (v := ?vr5) rfl (by kernel_rfl) (by kernel_rfl) (by kernel_rfl) (fun _ _ _ h => h) (Or.inl ⟨by rfl, ?hyr5⟩) (by assumption) ?restr5
    case hyr5 => first | (intro w hSw; (try dsimp only at hSw); go_simp; done) | (intro w hSw; (try dsimp only at hSw); go_simp; with_reducible rfl)
    try simp only [Act.put, List.setIfInBounds_toArray, List.set_cons_zero, List.set_cons_succ]
    refine wpAnyH_take (i := 6) (oi := { dst := some 34, op := Op.fieldAddr 49 (Operand.tmp 9) 3, type := 0, pos := "law.go:173", after := #[{ on := 5, ground := Ground.guard }], guard := some (5, true) }) (v := ?vr6) rfl (by kernel_rfl) (by kernel_rfl) (by kernel_rfl) (fun _ _ _ h => h) (Or.inl ⟨by rfl, ?hyr6⟩) (by assumption) ?restr6
    case hyr6 => first | (intro w hSw; (try dsimp only at hSw); go_simp; done) | (intro w hSw; (try dsimp only at hSw); go_simp; with_reducible rfl)
    try simp only [Act.put, List.setIfInBounds_toArray, List.set_cons_zero, List.set_cons_succ]
    refine wpAnyH_take (i := 7) (oi := { dst := some 35, op := Op.load 47 (Operand.tmp 34), type := 47, pos := "law.go:173", after := #[{ on := 6, ground := Ground.data }, { on := 5, ground := Ground.guard }], guard := some (5, true) }) (v := ?vr7) rfl (by kernel_rfl) (by kernel_rfl) (by kernel_rfl) (fun _ _ _ h => h) (Or.inl ⟨by rfl, ?hyr7⟩) (by assumption) ?restr7
    case hyr7 => first | (intro w hSw; (try dsimp only at hSw); go_simp; done) | (intro w hSw; (try dsimp only at hSw); go_simp; with_reducible rfl)
    try simp only [Act.put, List.setIfInBounds_toArray, List.set_cons_zero, List.set_cons_succ]
    refine wpAnyH_take (i := 8) (oi := { dst := some 36, op := Op.call { callee := Callee.builtin Builtin.len, args := #[Operand.tmp 35], argTypes := #[47] }, type := 3, pos := "law.go:173", after := #[{ on := 7, ground := Ground.data }, { on := 5, ground := Ground.guard }], guard := some (5, true) }) (v := ?vr8) rfl (by kernel_rfl) (by kernel_rfl) (by kernel_rfl) (fun _ _ _ h => h) (Or.inl ⟨by rfl, ?hyr8⟩) (by assumption) ?restr8
    case hyr8 => first | (intro w hSw; (try dsimp only at hSw); go_simp; done) | (intro w hSw; (try dsimp only at hSw); go_simp; with_reducible rfl)
    try simp only [Act.put, List.setIfInBounds_toArray, List.set_cons_zero, List.set_cons_succ]
    refine wpAnyH_take (i := 9) (oi := { dst := some 37, op := Op.binOp BinOp.eql 3 (Operand.tmp 36) (Operand.const (Value.int IntKind.i64 0)) 3, type := 4, pos := "law.go:173", after := #[{ on := 8, ground := Ground.data }, { on := 5, ground := Ground.guard }], guard := some (5, true) }) (v := ?vr9) rfl (by kernel_rfl) (by kernel_rfl) (by kernel_rfl) (fun _ _ _ h => h) (Or.inl ⟨by rfl, ?hyr9⟩) (by assumption) ?restr9
    case hyr9 => first | (intro w hSw; (try dsimp only at hSw); go_simp; done) | (intro w hSw; (try dsimp only at hSw); go_simp; with_reducible rfl)
    try simp only [Act.put, List.setIfInBounds_toArray, List.set_cons_zero, List.set_cons_succ]
    refine wpAnyH_take (i := 10) (oi := { dst := some 38, op := Op.pick (Operand.tmp 33) (Operand.tmp 37) (Operand.const (Value.bool false)), type := 4, pos := "law.go:173", after := #[{ on := 5, ground := Ground.data }, { on := 9, ground := Ground.data }], guard := none }) (v := ?vr10) rfl (by kernel_rfl) (by kernel_rfl) (by kernel_rfl) (fun _ _ _ h => h) (Or.inl ⟨by rfl, ?hyr10⟩) (by assumption) ?restr10
    case hyr10 => first | (intro w hSw; (try dsimp only at hSw); go_simp; done) | (intro w hSw; (try dsimp only at hSw); go_simp; with_reducible rfl)
    try simp only [Act.put, List.setIfInBounds_toArray, List.set_cons_zero, List.set_cons_succ]
    refine wpAnyH_take (i := 11) (oi := { dst := some 6, op := Op.assign (Operand.tmp 38), type := 4, pos := "law.go:173", after := #[{ on := 10, ground := Ground.data }, { on := 5, ground := Ground.chain }, { on := 0, ground := Ground.phase }, { on := 1, ground := Ground.phase }, { on := 2, ground := Ground.phase }, { on := 3, ground := Ground.phase }, { on := 4, ground := Ground.phase }, { on := 5, ground := Ground.phase }, { on := 6, ground := Ground.phase }, { on := 7, ground := Ground.phase }, { on := 8, ground := Ground.phase }, { on := 9, ground := Ground.phase }, { on := 10, ground := Ground.phase }], guard := none }) (v := ?vr11) rfl (by kernel_rfl) (by kernel_rfl) (by kernel_rfl) (fun _ _ _ h => h) (Or.inl ⟨by rfl, ?hyr11⟩) (by assumption) ?restr11
    case hyr11 => first | (intro w hSw; (try dsimp only at hSw); go_simp; done) | (intro w hSw; (try dsimp only at hSw); go_simp; with_reducible rfl)
    try simp only [Act.put, List.setIfInBounds_toArray, List.set_cons_zero, List.set_cons_succ]
    refine wpAnyH_done (by kernel_rfl) ?_ _
    go_wp2_with fail
    go_returns
    exact ⟨rfl, via hb8 hbt2⟩
end SLkRights

end Go.Proofs.YtogaclolodlnbaaDoor

