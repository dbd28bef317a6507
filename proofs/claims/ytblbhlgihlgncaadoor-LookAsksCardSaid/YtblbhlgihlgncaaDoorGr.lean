/- look.Path: what a path of a message leads to. -/
import Derived.Test.YtblbhlgihlgncaaDoorLkDec
import Derived.Test.YtblbhlgihlgncaaDoorGu
import Derived.Test.YtblbhlgihlgncaaDoorRCheck
import Derived.Test.YtblbhlgihlgncaaDoorGe
import Derived.Test.YtblbhlgihlgncaaDoorAs2
set_option linter.unusedVariables false
set_option linter.unusedSimpArgs false
namespace Go.Proofs.YtblbhlgihlgncaaDoor
section SLkPath
open Go.RowKit

/-- What a path of words leads to: a number; and the error. -/
def pathN (s : Schema) (ws : List (BitVec 64)) (l : List Int) : BitVec 64 := if (allW s ws).1 = 0 then (getC s 5 (decT s ws) (decV s ws) l).1 else 0#64
def PathP (s : Schema) (ws : List (BitVec 64)) (l : List Int) (w : World) (e : Ending) (w' : World) : Prop :=
  ∃ u, e = .returned (.tuple #[U (pathN s ws l), u]) ∧ Below w.heap.size w w' ∧ ((allW s ws).1 = 0 → u = ErrV (getC s 5 (decT s ws) (decV s ws) l).2) ∧ ((allW s ws).1 ≠ 0 → ErrW w' u (allW s ws).1 (allW s ws).2.1)

set_option maxRecDepth 100000 in
set_option maxHeartbeats 8000000 in
theorem lpath_any (s : Schema) (ws : List (BitVec 64)) (l : List Int) (sv wv pv : Value) (w : World) (hs : Sch w sv s) (hw : Row w 1 wv ws.length (ws.map U)) (hp : Ints w pv l) :
    Calls Tryd.prog 29 #[sv, wv, pv] w (PathP s ws l w) := by
  have hdec := hid (ldecode_any s ws sv wv w hs hw)
  unfold DecodeP at hdec
  have Hs := hid fun W (hW : Below w.heap.size w W) => hs.below hW (Nat.le_refl _)
  have Hp := hid fun W (hW : Below w.heap.size w W) => show Ints W pv l from Row.below hp hW (Nat.le_refl _)
  obtain ⟨wa, wc, rfl, -⟩ := hw.open
  obtain ⟨pa, pc, rfl, -⟩ := Row.open hp
  obtain ⟨sa, scap, hsv, -⟩ := hs.shape
  obtain ⟨ns, hns⟩ : ∃ ns, ns = s.length := ⟨_, rfl⟩
  rw [← hns] at hsv
  subst hsv
  obtain ⟨L, hL⟩ : ∃ L, L = ws.length := ⟨_, rfl⟩
  obtain ⟨M, hM⟩ : ∃ M, M = l.length := ⟨_, rfl⟩
  rw [← hL] at hdec ⊢
  rw [← hM] at Hp ⊢
  obtain ⟨tt, htt⟩ : ∃ tt, tt = decT s ws := ⟨_, rfl⟩
  obtain ⟨V, hV⟩ : ∃ V, V = decV s ws := ⟨_, rfl⟩
  rw [← htt, ← hV] at hdec
  have Hget := hid fun (cs : List Value) (W : World) (hW : Below w.heap.size w W) (h : RdS 5 W cs V) => tget_any s (.slice sa ns scap) 5 tt V cs l _ W (Hs.out W hW) h (Hp.out W hW)
  have Hn := hid (show pathN s ws l = if (allW s ws).1 = 0 then (getC s 5 tt V l).1 else 0#64 from by rw [htt, hV]; rfl)
  have Hu := hid (show ErrV (getC s 5 (decT s ws) (decV s ws) l).2 = ErrV (getC s 5 tt V l).2 from by rw [htt, hV])
  clear hs hw hp hns hL hM htt hV Hs Hp
  go_enter Tryd.func29, Tryd.ntmps29
  go_wp2_with fail
  ((refine hdec.out.mono ?_); rintro r6 w6 ⟨k0, k1, k2, k3, e, rfl, hE, hb6, hkw⟩)
  obtain ⟨y0, y1, a2, m2, p2, a3, m3, p3, hcs⟩ := form_S 5 _ _ _ hkw.now
  simp only [List.cons.injEq] at hcs
  obtain ⟨rfl, rfl, rfl, rfl, _⟩ := hcs
  obtain ⟨w7, hw7, hb7, hz7, hV7⟩ := TB.make w6 (.int .u64 0) (.string ⟨#[]⟩) (.slice none 0 0) (.slice none 0 0) 32
  obtain ⟨Vx, hVe7⟩ : ∃ Vx, w6.heap.size = Vx := ⟨_, rfl⟩
  rw [hVe7] at hV7
  have ⟨_, v0, v1, v2, v3, vf⟩ := hV7
  have vf0 := vf 0
  have vf1 := vf 1
  have vf2 := vf 2
  have vf3 := vf 3
  obtain ⟨w8, hx7⟩ : ∃ w8, w8 = (((w7.setCell ⟨Vx, 0, none⟩ (U y0)).setCell ⟨Vx, 1, none⟩ (.string y1)).setCell ⟨Vx, 2, none⟩ (.slice a2 m2 p2)).setCell ⟨Vx, 3, none⟩ (.slice a3 m3 p3) := ⟨_, rfl⟩
  have hV7 : TB w8 Vx (U y0) (.string y1) (.slice a2 m2 p2) (.slice a3 m3 p3) := by rw [hx7]; exact (((hV7.set0 _).set1 _).set2 _).set3 _
  have hVl7 : w6.heap.size ≤ Vx := Nat.le_of_eq hVe7
  have hbb7 : Below w6.heap.size w6 w8 := by
    rw [hx7]
    exact (((hb7.setCell (p := ⟨Vx, 0, none⟩) hVl7 _).setCell (p := ⟨Vx, 1, none⟩) hVl7 _).setCell (p := ⟨Vx, 2, none⟩) hVl7 _).setCell (p := ⟨Vx, 3, none⟩) hVl7 _
  have hx7' := hx7.symm
  clear hx7 hb7 hz7 vf
  have hb8 := via hb6 hbb7
  have hrx : RdS 5 w8 [(U y0), (.string y1), (.slice a2 m2 p2), (.slice a3 m3 p3)] V := (hkw.below hbb7).now
  have hget := hid (Hget.out _ w8 hb8 hrx)
  clear hdec Hget hkw hrx
  have ⟨_, c0, c1, c2, c3, _⟩ := hV7
  by_cases h0 : (allW s ws).1 = 0
  · obtain rfl := errW_zero hE h0
    have Hif := hid (show (if (allW s ws).1 = 0 then (getC s 5 tt V l).1 else 0#64) = (getC s 5 tt V l).1 from if_pos h0)
    have H0 := hid h0
    clear hE h0
    go_wp2_with fail
    clear v0 v1 v2 v3 vf0 vf1 vf2 vf3
    ((refine hget.out.mono ?_); rintro r9 w9 ⟨rfl, hb9⟩)
    go_wp2_with fail
    go_returns
    exact ⟨ErrV (getC s 5 tt V l).2, by rw [Hn.out, Hif.out]; rfl, via hb8 hb9, fun _ => Hu.out.symm, fun h => absurd H0.out h⟩
  · obtain ⟨T, v, rfl⟩ := errW_iface hE h0
    have Hif := hid (show (if (allW s ws).1 = 0 then (getC s 5 tt V l).1 else 0#64) = 0#64 from if_neg h0)
    have H0 := hid h0
    have HE := hid (hE.below hbb7)
    clear hE h0 hget
    go_wp2_with fail
    clear v0 v1 v2 v3 vf0 vf1 vf2 vf3
    go_returns
    exact ⟨.iface T v, by rw [Hn.out, Hif.out]; rfl, hb8, fun h => absurd h H0.out, fun _ => HE.out⟩
end SLkPath

section SLkRights
open Go.RowKit

end SLkRights

end Go.Proofs.YtblbhlgihlgncaaDoor

