/- tree.get: what a path of a struct leads to. -/
import Derived.Test.YtogaclolodlnbaaDoorTrGKA
import Derived.Test.YtogaclolodlnbaaDoorTrGK4
import Derived.Test.YtogaclolodlnbaaDoorTrGK5
set_option linter.unusedVariables false
set_option linter.unusedSimpArgs false
namespace Go.Proofs.YtogaclolodlnbaaDoor
section STrGetJ
open Go.RowKit

theorem get_any (s : Schema) (sa : Option Addr) (sn sc : Nat) (d : Nat) : ∀ (t : Int) (v : St d) (cs : List Value) (p : Int) (rest : List Int) (b off m c : Nat) (w : World), Sch w (.slice sa sn sc) s → RdS d w cs v →
    m = rest.length + 1 → Ints w (.slice (some ⟨b, off, none⟩) m c) (p :: rest) →
    Calls Tryd.prog 98 #[.slice sa sn sc, .int .i64 t, .agg cs.toArray, .slice (some ⟨b, off, none⟩) m c] w (GetR w (getT s d t v (p :: rest))) := by
  induction d with
  | zero => exact fun _ v _ _ _ _ _ _ _ _ _ _ _ _ => nomatch v
  | succ d ihd =>
    intro t v cs p rest b off m c w hs h hm hp
    by_cases h0 : p < 0 ∨ (Node.kids v).length ≤ p.toNat
    · exact get_k0 s sa sn sc d ihd t v cs p rest b off m c w hs h hm hp h0
    have h1 : 0 ≤ p ∧ p.toNat < (Node.kids v).length := by omega
    by_cases k1 : (fieldP s t p.toNat).1 = 1
    · exact get_k1 s sa sn sc d ihd t v cs p rest b off m c w hs h hm hp ⟨h1.1, h1.2, k1⟩
    by_cases k2 : (fieldP s t p.toNat).1 = 2
    · exact get_k2 s sa sn sc d ihd t v cs p rest b off m c w hs h hm hp ⟨h1.1, h1.2, k2⟩
    by_cases k3 : (fieldP s t p.toNat).1 = 3
    · exact get_k3 s sa sn sc d ihd t v cs p rest b off m c w hs h hm hp ⟨h1.1, h1.2, k3⟩
    by_cases k4 : (fieldP s t p.toNat).1 = 4
    · exact get_k4 s sa sn sc d ihd t v cs p rest b off m c w hs h hm hp ⟨h1.1, h1.2, k4⟩
    by_cases k5 : (fieldP s t p.toNat).1 = 5
    · exact get_k5 s sa sn sc d ihd t v cs p rest b off m c w hs h hm hp ⟨h1.1, h1.2, k5⟩
    exact get_k6 s sa sn sc d ihd t v cs p rest b off m c w hs h hm hp ⟨h1.1, h1.2, fun k a b => by
      have : k = 1 ∨ k = 2 ∨ k = 3 ∨ k = 4 ∨ k = 5 := by omega
      rcases this with rfl | rfl | rfl | rfl | rfl <;> assumption⟩
end STrGetJ

end Go.Proofs.YtogaclolodlnbaaDoor

