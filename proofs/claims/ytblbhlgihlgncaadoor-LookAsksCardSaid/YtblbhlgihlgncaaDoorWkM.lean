/- look.Walk as a machine, in plain words. No program in sight. -/
import Derived.Test.YtblbhlgihlgncaaDoorWlkV
set_option linter.unusedVariables false
set_option linter.unusedSimpArgs false
namespace Go.Proofs.YtblbhlgihlgncaaDoor
section SWkM
open Go.RowKit

/-- A walk of a path: its type, how many numbers of the path are behind it, for which word it asks, its last kind, and what it is told. -/
structure WSt where
  t : Int
  k : Nat
  ask : Int
  last : Int
  n : BitVec 64
  code : Int
def WSt.fin (g : WSt) (n : BitVec 64) (code : Int) : WSt := ⟨g.t, g.k, -1, g.last, n, code⟩
/-- It enters a struct. -/
def enterV (s : Schema) (l : List Int) (g : WSt) (t a : Int) : WSt :=
  if l.length ≤ g.k ∨ l.getD g.k 0 < 0 ∨ ((typeL s t).length : Int) ≤ l.getD g.k 0 then ⟨t, g.k, -1, g.last, 0#64, 1⟩
  else ⟨t, g.k, a + l.getD g.k 0, g.last, g.n, g.code⟩
/-- It goes on to one of a row. -/
def itemV (s : Schema) (l : List Int) (g : WSt) (kind ty to : Int) : WSt :=
  if kind = 5 then (if l.length = g.k + 2 then g.fin (BitVec.ofNat 64 (typeL s ty).length) 0 else enterV s l ⟨g.t, g.k + 2, g.ask, g.last, g.n, g.code⟩ ty (to + l.getD (g.k + 1) 0 * (typeL s ty).length))
  else if g.k + 2 < l.length then g.fin 0#64 24
  else ⟨g.t, g.k + 1, (if kind = 2 then to + l.getD (g.k + 1) 0 / 8 else to + l.getD (g.k + 1) 0), kind, g.n, g.code⟩
/-- It goes on from a field's word. -/
def fieldV (s : Schema) (l : List Int) (g : WSt) (x : BitVec 64) : WSt :=
  let fd := fieldP s g.t (l.getD g.k 0)
  let to := g.ask + loN x
  if l.length = g.k + 1 then (if fd.1 = 1 then g.fin x 0 else g.fin (BitVec.ofNat 64 (hiN x)) 0)
  else if fd.1 = 1 then g.fin 0#64 24
  else if hiN x = 0 then g.fin 0#64 12
  else if fd.1 = 4 then enterV s l ⟨g.t, g.k + 1, g.ask, g.last, g.n, g.code⟩ fd.2 to
  else if l.getD (g.k + 1) 0 < 0 ∨ (hiN x : Int) ≤ l.getD (g.k + 1) 0 then g.fin 0#64 12
  else itemV s l g fd.1 fd.2 to
/-- It is given a word. -/
def giveV (s : Schema) (l : List Int) (g : WSt) (x : BitVec 64) : WSt :=
  if g.ask = -1 then g
  else if g.last = 3 then g.fin x 0
  else if g.last = 2 then g.fin (getV x (8 * (l.getD g.k 0 % 8)) 8) 0
  else fieldV s l g x
end SWkM

end Go.Proofs.YtblbhlgihlgncaaDoor

