/- tree.Get. -/
import Derived.Test.YtogaclolodlnbaaDoorTrGetJ
set_option linter.unusedVariables false
set_option linter.unusedSimpArgs false
namespace Go.Proofs.YtogaclolodlnbaaDoor
section STrGetC
open Go.RowKit

/-- What Get tells: a number, and a code. -/
def getC (s : Schema) (d : Nat) (t : Int) (v : St d) (path : List Int) : BitVec 64 × Int :=
  if checkC s d t v = 0 then (if path = [] then (0#64, 1) else getT s d t v path) else (0#64, checkC s d t v)

def GetP (w : World) (x : BitVec 64 × Int) (e : Ending) (w' : World) : Prop := e = .returned (.tuple #[U x.1, ErrV x.2]) ∧ Below w.heap.size w w'

set_option maxRecDepth 100000 in
set_option maxHeartbeats 4000000 in
theorem tget_any (s : Schema) (sv : Value) (d : Nat) (t : Int) (v : St d) (cs : List Value) (path : List Int) (pv : Value) (w : World) (hs : Sch w sv s) (h : RdS d w cs v) (hp : Ints w pv path) :
    Calls Tryd.prog 71 #[sv, .int .i64 t, .agg cs.toArray, pv] w (GetP w (getC s d t v path)) := by
  cases d with
  | zero => exact nomatch v
  | succ d =>
    obtain ⟨a2, p2, a, cap, hcs, hbs, hn, hk, hnm, hkm⟩ := RdN.open h
    subst hcs
    obtain ⟨sa, sc, hsv, _⟩ := hs.shape
    obtain ⟨sn, hsn⟩ : ∃ n, n = s.length := ⟨_, rfl⟩
    rw [← hsn] at hsv
    subst hsv
    clear hsn
    obtain ⟨w1, hw1, hb1, hlt1, hbox⟩ := boxed w #[U (Node.num v), .string (Node.bytes v), .slice a2 (Node.nums v).length p2, .slice a (Node.kids v).length cap] 49
    have x0 : w1.cell? ⟨w.heap.size, 0, none⟩ = some (U (Node.num v)) := hbox 0
    have x1 : w1.cell? ⟨w.heap.size, 1, none⟩ = some (.string (Node.bytes v)) := hbox 1
    have x2 : w1.cell? ⟨w.heap.size, 2, none⟩ = some (.slice a2 (Node.nums v).length p2) := hbox 2
    have x3 : w1.cell? ⟨w.heap.size, 3, none⟩ = some (.slice a (Node.kids v).length cap) := hbox 3
    have hck := hid (tcheck_any s (.slice sa sn sc) (d + 1) t v _ w1 (hs.below hb1 (Nat.le_refl _)) (h.below hb1 (Nat.le_refl _)))
    have hnew := hid fun (x : Int) W => new_err x W
    obtain ⟨pa, pc, hpv, _⟩ := hp.open
    by_cases hc : checkC s (d + 1) t v = 0
    · have Hc := hid hc
      cases path with
      | nil =>
        have Hg := hid (show getC s (d + 1) t v [] = (0#64, 1) by rw [getC, if_pos hc, if_pos rfl])
        obtain rfl : pv = .slice pa 0 pc := hpv
        rw [Hg.out]
        clear hs h hp hc hk hn hbox
        go_enter Tryd.func71, Tryd.ntmps71
        go_wp2_with fail
        ((refine hck.out.mono ?_); rintro r1 w2 ⟨rfl, hb2⟩)
        rw [Hc.out, show ErrV 0 = .nilIface from rfl]
        clear hw1 hck
        have hB2 := via hb1 hb2
        clear hb1 hb2 x0 x1 x2 x3
        go_wp2_with fail
        ((refine (hnew.out _ _).mono ?_); rintro r1 w4 ⟨rfl, rfl⟩)
        go_wp2_with fail
        go_returns
        exact ⟨rfl, hB2⟩
      | cons p rest =>
        obtain ⟨m, hm⟩ : ∃ m, m = rest.length + 1 := ⟨_, rfl⟩
        have hpv' : pv = .slice pa m pc := by rw [hm]; exact hpv
        subst hpv'
        clear hpv
        obtain ⟨b, off, c, e, _⟩ := Row.cons hp (by simp)
        simp only [Value.slice.injEq] at e
        obtain ⟨rfl, em, rfl⟩ := e
        clear em
        have Hg := hid (show getC s (d + 1) t v (p :: rest) = getT s (d + 1) t v (p :: rest) by rw [getC, if_pos hc, if_neg (by simp)])
        have hget := hid fun W (hW : Below w.heap.size w W) => get_any s sa sn sc (d + 1) t v _ p rest b off m pc W (hs.below hW (Nat.le_refl _)) (h.below hW (Nat.le_refl _)) hm (hp.below hW (Nat.le_refl _))
        have hmm : ((m : Int) == 0) = false := by rw [beq_eq_false_iff_ne]; omega
        rw [Hg.out]
        generalize getT s (d + 1) t v (p :: rest) = g at *
        clear hs h hm hp hc hk hn hbox
        go_enter Tryd.func71, Tryd.ntmps71
        go_wp2_with fail
        ((refine hck.out.mono ?_); rintro r1 w2 ⟨rfl, hb2⟩)
        rw [Hc.out, show ErrV 0 = .nilIface from rfl]
        clear hw1 hck
        have hB2 := via hb1 hb2
        replace x0 := (hb2.cell hlt1).trans x0
        replace x1 := (hb2.cell hlt1).trans x1
        replace x2 := (hb2.cell hlt1).trans x2
        replace x3 := (hb2.cell hlt1).trans x3
        clear hb1 hb2
        go_wp2_with fail
        ((refine (hget.out _ hB2).mono ?_); rintro r1 w3 ⟨rfl, hb3⟩)
        have hB3 := via hB2 hb3
        clear hget hB2 hb3 x0 x1 x2 x3
        go_wp2_with fail
        ((refine (hnew.out _ _).mono ?_); rintro r1 w4 ⟨rfl, rfl⟩)
        go_wp2_with fail
        go_returns
        exact ⟨rfl, hB3⟩
    · have Hg := hid (show getC s (d + 1) t v path = (0#64, checkC s (d + 1) t v) by rw [getC, if_neg hc])
      have He := hid (errV_ne hc)
      rw [Hg.out]
      have hck' := hck.out
      rw [He.out] at hck'
      have hE := hid (show ErrV (checkC s (d + 1) t v) = .iface 31 (.int .i64 (checkC s (d + 1) t v)) from He.out)
      generalize checkC s (d + 1) t v = x at *
      subst hpv
      clear hs h hp hc hk hn hbox hck He
      go_enter Tryd.func71, Tryd.ntmps71
      go_wp2_with fail
      ((refine hck'.mono ?_); rintro r1 w2 ⟨rfl, hb2⟩)
      clear hw1 hck'
      have hB2 := via hb1 hb2
      clear hb1 hb2 x0 x1 x2 x3
      go_wp2_with fail
      go_returns
      exact ⟨by rw [hE.out]; rfl, hB2⟩
end STrGetC

end Go.Proofs.YtogaclolodlnbaaDoor

