/- cause.parts: what its function does for each part of a trouble. -/
import Derived.Test.YtppdbadigecegaaCT
import Derived.RangeFuncNested
import Derived.RangeFuncBound
import Derived.RangeFuncCalls
import Derived.RangeFuncLeaves
import Derived.Shelf.Abstract
import Derived.Shelf.RegionOpen
import Derived.WalkKit
import Derived.OwnWalkIn
import Derived.TacticsInMore
import Derived.LoopNIn
import Derived.LoopIn
set_option linter.unusedVariables false
set_option linter.unusedSimpArgs false
namespace Go.Proofs.Ytppdbadigecegaa
section SCP
open Go.RowKit Go.Shelf
attribute [local go_sem] Oper.semAt_some

/-- The parts of a trouble, the outermost one first; the word, of one at a word. -/
abbrev Part := Value × Option Int
def Chain (w : World) : Value → List Part → Prop
  | v, [] => v = .nilIface
  | v, x :: rest => v = x.1 ∧ ((∃ e, x = (.iface 32 (.int .i64 e), none) ∧ rest = []) ∨
      (∃ A u p, x = (.iface 44 (.pointer (some ⟨A, 0, none⟩)), some p) ∧ A < w.heap.size ∧ w.cell? ⟨A, 0, none⟩ = some u ∧ w.cell? ⟨A, 1, none⟩ = some (.int .i64 p) ∧ Chain w u rest) ∨
      (∃ A u c, x = (.iface 41 (.pointer (some ⟨A, 0, none⟩)), none) ∧ A < w.heap.size ∧ w.cell? ⟨A, 0, none⟩ = some (.int .i64 c) ∧ w.cell? ⟨A, 1, none⟩ = some u ∧ Chain w u rest))
theorem Chain.uniq {w : World} : ∀ {xs ys : List Part} {v : Value}, Chain w v xs → Chain w v ys → xs = ys := by
  intro xs
  induction xs with
  | nil =>
    intro ys v h k
    cases ys with
    | nil => rfl
    | cons y ys =>
      have h : v = .nilIface := h
      subst h
      obtain ⟨e, k⟩ := k
      rcases k with ⟨_, rfl, _⟩ | ⟨_, _, _, rfl, _⟩ | ⟨_, _, _, rfl, _⟩ <;> cases e
  | cons x xs ih =>
    intro ys v h k
    obtain ⟨rfl, h⟩ := h
    cases ys with
    | nil =>
      have k : x.1 = .nilIface := k
      rcases h with ⟨_, rfl, _⟩ | ⟨_, _, _, rfl, _⟩ | ⟨_, _, _, rfl, _⟩ <;> cases k
    | cons y ys =>
      obtain ⟨e, k⟩ := k
      rcases h with ⟨e1, rfl, rfl⟩ | ⟨A, u, p, rfl, hA, h0, h1, hc⟩ | ⟨A, u, c, rfl, hA, h0, h1, hc⟩ <;> rcases k with ⟨e2, rfl, rfl⟩ | ⟨A2, u2, p2, rfl, hA2, k0, k1, kc⟩ | ⟨A2, u2, c2, rfl, hA2, k0, k1, kc⟩ <;> simp at e
      · subst e; rfl
      · subst e
        rw [h0] at k0
        rw [h1] at k1
        obtain rfl := Option.some.inj k0
        have := Option.some.inj k1
        simp at this
        subst this
        rw [ih hc kc]
      · subst e
        rw [h1] at k1
        obtain rfl := Option.some.inj k1
        rw [ih hc kc]
theorem Chain.shape {w : World} {v : Value} {xs : List Part} (h : Chain w v xs) : v = .nilIface ∨ ∃ T x, v = .iface T x := by
  cases xs with
  | nil => exact .inl h
  | cons x xs =>
    obtain ⟨rfl, h⟩ := h
    rcases h with ⟨_, rfl, _⟩ | ⟨_, _, _, rfl, _⟩ | ⟨_, _, _, rfl, _⟩
    · exact .inr ⟨_, _, rfl⟩
    · exact .inr ⟨_, _, rfl⟩
    · exact .inr ⟨_, _, rfl⟩
noncomputable def leftC (w : World) (b : Nat) (wr : World) : Nat := Classical.epsilon fun k => ∃ v xs, wr.cell? ⟨b, 0, none⟩ = some v ∧ Chain w v xs ∧ xs.length = k
theorem leftC_eq {w wr : World} {b : Nat} {v : Value} {xs : List Part} (hc : wr.cell? ⟨b, 0, none⟩ = some v) (h : Chain w v xs) : leftC w b wr = xs.length := by
  have hs : ∃ k, ∃ v xs, wr.cell? ⟨b, 0, none⟩ = some v ∧ Chain w v xs ∧ xs.length = k := ⟨_, v, xs, hc, h, rfl⟩
  obtain ⟨v2, ys, e1, e2, e3⟩ := Classical.epsilon_spec hs
  rw [hc] at e1
  obtain rfl := Option.some.inj e1
  rw [h.uniq e2]
  exact e3.symm

theorem Pta.oe (i : TypeId) (v : Int) (w : World) : (Instr.typeAssert (.iface 32 (.int .i64 v)) i 41 true).run Try.prog w = .ok (.tuple #[.pointer none, .bool false]) w := by kernel_rfl
theorem Pta.ae (i : TypeId) (v : Int) (w : World) : (Instr.typeAssert (.iface 32 (.int .i64 v)) i 44 true).run Try.prog w = .ok (.tuple #[.pointer none, .bool false]) w := by kernel_rfl
theorem Pta.oa (i : TypeId) (a : Addr) (w : World) : (Instr.typeAssert (.iface 44 (.pointer (some a))) i 41 true).run Try.prog w = .ok (.tuple #[.pointer none, .bool false]) w := by kernel_rfl
theorem Pta.aa (i : TypeId) (a : Addr) (w : World) : (Instr.typeAssert (.iface 44 (.pointer (some a))) i 44 true).run Try.prog w = .ok (.tuple #[.pointer (some a), .bool true]) w := by kernel_rfl
theorem Pta.oo (i : TypeId) (a : Addr) (w : World) : (Instr.typeAssert (.iface 41 (.pointer (some a))) i 41 true).run Try.prog w = .ok (.tuple #[.pointer (some a), .bool true]) w := by kernel_rfl

/-- What a round keeps: all that lay ahead of the loop, and the function's own box. -/
def KpP (n0 b : Nat) (W W' : World) : Prop := Below n0 W W' ∧ W'.heap[b]? = W.heap[b]?

end SCP

end Go.Proofs.Ytppdbadigecegaa

