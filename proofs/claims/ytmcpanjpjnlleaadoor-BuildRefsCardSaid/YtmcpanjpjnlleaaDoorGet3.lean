/- tree.Get of a path whose first field is Nums; the chapter's example. -/
import Derived.Test.YtmcpanjpjnlleaaDoorTrGet3
set_option linter.unusedVariables false
namespace Go.Proofs.YtmcpanjpjnlleaaDoor
open Go.RowKit

set_option maxRecDepth 100000 in
set_option maxHeartbeats 4000000 in
theorem tget_nums (s : Schema) (sa : Option Addr) (sn sc d : Nat) (t : Int) (v : St d) (cs : List Value) (p : Int) (rest : List Int) (b off m c : Nat) (w : World) (hs : Sch w (.slice sa sn sc) s) (h : RdS d w cs v)
    (hm : m = rest.length + 1) (hp : Ints w (.slice (some ⟨b, off, none⟩) m c) (p :: rest)) (hk3 : ∀ i : Nat, p = (i : Int) → (fieldP s t i).1 = 3) (hc : checkC s d t v = 0) :
    Calls Tryd.prog 14 #[.slice sa sn sc, .int .i64 t, .agg cs.toArray, .slice (some ⟨b, off, none⟩) m c] w fun r w' => r = .returned (.tuple #[U (getT s d t v (p :: rest)).1, ErrV (getT s d t v (p :: rest)).2]) ∧ Below w.heap.size w w' := by
  cases d with
  | zero => exact nomatch v
  | succ d =>
    obtain ⟨a2, p2, a, cap, hcs, hbs, hn, hk, hnm, hkm⟩ := RdN.open h
    subst hcs
    obtain ⟨w1, hw1, hb1, hlt1, hbox⟩ := boxed w #[U (Node.num v), .string (Node.bytes v), .slice a2 (Node.nums v).length p2, .slice a (Node.kids v).length cap] 34
    have x0 : w1.cell? ⟨w.heap.size, 0, none⟩ = some (U (Node.num v)) := hbox 0
    have x1 : w1.cell? ⟨w.heap.size, 1, none⟩ = some (.string (Node.bytes v)) := hbox 1
    have x2 : w1.cell? ⟨w.heap.size, 2, none⟩ = some (.slice a2 (Node.nums v).length p2) := hbox 2
    have x3 : w1.cell? ⟨w.heap.size, 3, none⟩ = some (.slice a (Node.kids v).length cap) := hbox 3
    have hck := hid (tcheck_any s (.slice sa sn sc) (d + 1) t v _ w1 (hs.below hb1 (Nat.le_refl _)) (h.below hb1 (Nat.le_refl _)))
    have hget := hid fun W (hW : Below w.heap.size w W) => get_nums s sa sn sc (d + 1) t v _ p rest b off m c W (hs.below hW (Nat.le_refl _)) (h.below hW (Nat.le_refl _)) hm (hp.below hW (Nat.le_refl _)) hk3
    have Hc := hid hc
    have hmm : ((m : Int) == 0) = false := by rw [beq_eq_false_iff_ne]; omega
    have hnew := hid fun (x : Int) W => new_err x W
    generalize getT s (d + 1) t v (p :: rest) = g at *
    clear hs h hm hp hk3 hc hk hn hbox
    go_enter Tryd.func14, Tryd.ntmps14
    go_wp2_with fail
    ((refine hck.out.mono ?_); rintro r1 w2 ⟨rfl, hb2⟩)
    rw [Hc.out, show ErrV 0 = .nilIface from rfl]
    clear hw1 hck
    have hB2 := via hb1 hb2
    replace x0 := (hb2.cell hlt1).trans x0
    replace x1 := (hb2.cell hlt1).trans x1
    replace x2 := (hb2.cell hlt1).trans x2
    replace x3 := (hb2.cell hlt1).trans x3
    clear hb1 hb2
    go_wp2_with fail
    ((refine (hget.out _ hB2).mono ?_); rintro r1 w3 ⟨rfl, hb3⟩)
    have hB3 := via hB2 hb3
    clear hget hB2 hb3 x0 x1 x2 x3
    go_wp2_with fail
    ((refine (hnew.out _ _).mono ?_); rintro r1 w4 ⟨rfl, rfl⟩)
    go_wp2_with fail
    go_returns
    exact ⟨rfl, hB3⟩
end Go.Proofs.YtmcpanjpjnlleaaDoor

