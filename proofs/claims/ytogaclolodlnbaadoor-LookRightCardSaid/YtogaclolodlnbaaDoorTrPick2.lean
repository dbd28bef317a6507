/- tree.get's closures. -/
import Derived.Test.YtogaclolodlnbaaDoorTrPick
set_option linter.unusedVariables false
set_option linter.unusedSimpArgs false
namespace Go.Proofs.YtogaclolodlnbaaDoor
section STrPick2
open Go.RowKit

def byteV (b : ByteArray) (j : Nat) : BitVec 64 := BitVec.ofNat 64 (b.data.toList.getD j 0).toNat

theorem getB_any (D : Nat) (b : ByteArray) (i : Nat) (hi : i < b.size) (w : World) (h1 : w.cell? ⟨D, 1, none⟩ = some (.string b)) :
    Calls Tryd.prog 117 #[.int .i64 i, .pointer (some ⟨D, 0, none⟩)] w fun r w' => r = .returned (U (byteV b i)) ∧ w' = w := by
  have hb : byteV b i = BitVec.ofNat 64 b[i].toNat := by
    unfold byteV
    congr 2
    rw [List.getD_eq_getElem?_getD, List.getElem?_eq_getElem (by simpa using hi), Option.getD_some]
    rfl
  rw [hb]
  clear hb
  go_enter Tryd.func117, Tryd.ntmps117
  go_wp2
  go_ret
  exact ⟨rfl, rfl⟩

theorem getN_any (D : Nat) (l : List (BitVec 64)) (a : Option Addr) (n c : Nat) (hn : n = l.length) (i : Nat) (hi : i < l.length) (w : World) (h1 : w.cell? ⟨D, 2, none⟩ = some (.slice a n c)) (hr : Row w 1 (.slice a n c) l.length (l.map U)) :
    Calls Tryd.prog 118 #[.int .i64 i, .pointer (some ⟨D, 0, none⟩)] w fun r w' => r = .returned (U (l.getD i 0#64)) ∧ w' = w := by
  obtain ⟨b, off, cap, e, h2, h3, h4, h5⟩ := hr.cons (by omega)
  simp only [Value.slice.injEq] at e
  obtain ⟨rfl, _, rfl⟩ := e
  have hc : w.cell? ⟨b, off + i, none⟩ = some (U (l.getD i 0#64)) := by
    rw [h5 i (by omega)]
    simp [List.getD, hi]
  rw [← hn] at hi
  generalize l.getD i 0#64 = x at *
  clear h5 hr hn
  go_enter Tryd.func118, Tryd.ntmps118
  go_wp2
  go_ret
  exact ⟨rfl, rfl⟩

theorem getK_any (P Q : Nat) (s : Schema) (sv : Value) (t : Int) (i : Nat) (w : World) (h1 : w.cell? ⟨P, 0, none⟩ = some sv) (h2 : w.cell? ⟨Q, 0, none⟩ = some (.int .i64 t)) (hs : Sch w sv s) :
    Calls Tryd.prog 119 #[.int .i64 i, .pointer (some ⟨P, 0, none⟩), .pointer (some ⟨Q, 0, none⟩)] w fun r w' => r = .returned (U (BitVec.ofNat 64 (typeL s t).length)) ∧ w' = w := by
  have hf := nfields_any s sv t w hs
  obtain ⟨a, cap, rfl, hcc⟩ := hs.shape
  clear hs
  generalize (typeL s t).length = n at *
  go_enter Tryd.func119, Tryd.ntmps119
  go_wp2_with ((refine hf.mono ?_); rintro r1 w2 ⟨rfl, rfl⟩)
  go_ret
  exact ⟨rfl, rfl⟩
end STrPick2

end Go.Proofs.YtogaclolodlnbaaDoor

