/- cause.parts: what its function does for each part of a trouble. -/
import Derived.Test.YtppdbadigecegaaDoorCT
import Derived.RangeFuncNested
import Derived.RangeFuncBound
import Derived.RangeFuncCalls
import Derived.RangeFuncLeaves
import Derived.Shelf.Abstract
import Derived.Shelf.RegionOpen
import Derived.WalkKit
import Derived.OwnWalkIn
import Derived.TacticsInMore
import Derived.LoopNIn
import Derived.LoopIn
set_option linter.unusedVariables false
set_option linter.unusedSimpArgs false
namespace Go.Proofs.YtppdbadigecegaaDoor
section SCP
open Go.RowKit Go.Shelf
attribute [local go_sem] Oper.semAt_some

/-- The parts of a trouble, the outermost one first; the word, of one at a word. -/
abbrev Part := Value × Option Int
def Chain (w : World) : Value → List Part → Prop
  | v, [] => v = .nilIface
  | v, x :: rest => v = x.1 ∧ ((∃ e, x = (.iface 32 (.int .i64 e), none) ∧ rest = []) ∨
      (∃ A u p, x = (.iface 79 (.pointer (some ⟨A, 0, none⟩)), some p) ∧ A < w.heap.size ∧ w.cell? ⟨A, 0, none⟩ = some u ∧ w.cell? ⟨A, 1, none⟩ = some (.int .i64 p) ∧ Chain w u rest) ∨
      (∃ A u c, x = (.iface 60 (.pointer (some ⟨A, 0, none⟩)), none) ∧ A < w.heap.size ∧ w.cell? ⟨A, 0, none⟩ = some (.int .i64 c) ∧ w.cell? ⟨A, 1, none⟩ = some u ∧ Chain w u rest))
theorem Chain.uniq {w : World} : ∀ {xs ys : List Part} {v : Value}, Chain w v xs → Chain w v ys → xs = ys := by
  intro xs
  induction xs with
  | nil =>
    intro ys v h k
    cases ys with
    | nil => rfl
    | cons y ys =>
      have h : v = .nilIface := h
      subst h
      obtain ⟨e, k⟩ := k
      rcases k with ⟨_, rfl, _⟩ | ⟨_, _, _, rfl, _⟩ | ⟨_, _, _, rfl, _⟩ <;> cases e
  | cons x xs ih =>
    intro ys v h k
    obtain ⟨rfl, h⟩ := h
    cases ys with
    | nil =>
      have k : x.1 = .nilIface := k
      rcases h with ⟨_, rfl, _⟩ | ⟨_, _, _, rfl, _⟩ | ⟨_, _, _, rfl, _⟩ <;> cases k
    | cons y ys =>
      obtain ⟨e, k⟩ := k
      rcases h with ⟨e1, rfl, rfl⟩ | ⟨A, u, p, rfl, hA, h0, h1, hc⟩ | ⟨A, u, c, rfl, hA, h0, h1, hc⟩ <;> rcases k with ⟨e2, rfl, rfl⟩ | ⟨A2, u2, p2, rfl, hA2, k0, k1, kc⟩ | ⟨A2, u2, c2, rfl, hA2, k0, k1, kc⟩ <;> simp at e
      · subst e; rfl
      · subst e
        rw [h0] at k0
        rw [h1] at k1
        obtain rfl := Option.some.inj k0
        have := Option.some.inj k1
        simp at this
        subst this
        rw [ih hc kc]
      · subst e
        rw [h1] at k1
        obtain rfl := Option.some.inj k1
        rw [ih hc kc]
theorem Chain.shape {w : World} {v : Value} {xs : List Part} (h : Chain w v xs) : v = .nilIface ∨ ∃ T x, v = .iface T x := by
  cases xs with
  | nil => exact .inl h
  | cons x xs =>
    obtain ⟨rfl, h⟩ := h
    rcases h with ⟨_, rfl, _⟩ | ⟨_, _, _, rfl, _⟩ | ⟨_, _, _, rfl, _⟩
    · exact .inr ⟨_, _, rfl⟩
    · exact .inr ⟨_, _, rfl⟩
    · exact .inr ⟨_, _, rfl⟩
noncomputable def leftC (w : World) (b : Nat) (wr : World) : Nat := Classical.epsilon fun k => ∃ v xs, wr.cell? ⟨b, 0, none⟩ = some v ∧ Chain w v xs ∧ xs.length = k
theorem leftC_eq {w wr : World} {b : Nat} {v : Value} {xs : List Part} (hc : wr.cell? ⟨b, 0, none⟩ = some v) (h : Chain w v xs) : leftC w b wr = xs.length := by
  have hs : ∃ k, ∃ v xs, wr.cell? ⟨b, 0, none⟩ = some v ∧ Chain w v xs ∧ xs.length = k := ⟨_, v, xs, hc, h, rfl⟩
  obtain ⟨v2, ys, e1, e2, e3⟩ := Classical.epsilon_spec hs
  rw [hc] at e1
  obtain rfl := Option.some.inj e1
  rw [h.uniq e2]
  exact e3.symm

theorem Pta.oe (i : TypeId) (v : Int) (w : World) : (Instr.typeAssert (.iface 32 (.int .i64 v)) i 60 true).run Tryd.prog w = .ok (.tuple #[.pointer none, .bool false]) w := by kernel_rfl
theorem Pta.ae (i : TypeId) (v : Int) (w : World) : (Instr.typeAssert (.iface 32 (.int .i64 v)) i 79 true).run Tryd.prog w = .ok (.tuple #[.pointer none, .bool false]) w := by kernel_rfl
theorem Pta.oa (i : TypeId) (a : Addr) (w : World) : (Instr.typeAssert (.iface 79 (.pointer (some a))) i 60 true).run Tryd.prog w = .ok (.tuple #[.pointer none, .bool false]) w := by kernel_rfl
theorem Pta.aa (i : TypeId) (a : Addr) (w : World) : (Instr.typeAssert (.iface 79 (.pointer (some a))) i 79 true).run Tryd.prog w = .ok (.tuple #[.pointer (some a), .bool true]) w := by kernel_rfl
theorem Pta.oo (i : TypeId) (a : Addr) (w : World) : (Instr.typeAssert (.iface 60 (.pointer (some a))) i 60 true).run Tryd.prog w = .ok (.tuple #[.pointer (some a), .bool true]) w := by kernel_rfl

/-- What a round keeps: all that lay ahead of the loop, and the function's own box. -/
def KpP (n0 b : Nat) (W W' : World) : Prop := Below n0 W W' ∧ W'.heap[b]? = W.heap[b]?

set_option maxRecDepth 100000 in
set_option maxHeartbeats 4000000 in
/-- The function that cause.parts hands back: a round for each part. -/
theorem parts1_in (F : Fence) (n : Nat) (h6 : F.fn 37) (hro : F.round = none) (hn : 1 ≤ n) (l b n0 : Nat) (w0 : World) (v0 : Value) (xs : List Part) (J : List Part → World → Prop) (hw0 : w0.heap.size ≤ n0) (hnb : n0 ≤ b)
    (hJs : ∀ pre W v, J pre W → J pre (W.setCell ⟨b, 0, none⟩ v))
    (hY : ∀ pre x rest W, xs = pre ++ x :: rest → J pre W → Below n0 w0 W → YieldAt F (n - 1) Tryd.prog l #[x.1] W fun e W' => e = .returned (.bool true) ∧ J (pre ++ [x]) W' ∧ KpP n0 b W W')
    (W : World) (hBn : W.cell? ⟨b, 0, none⟩ = some v0) (hBf : W.frozen? ⟨b, 0, none⟩ = false) (hB : Below n0 w0 W) (hL : Chain w0 v0 xs) (h0 : J [] W) :
    CallsIn F n Tryd.prog 37 #[.func (.yield l) #[] #[], .pointer (some ⟨b, 0, none⟩)] W fun e W' => (∃ v, e = .returned v) ∧ J xs W' := by
  refine callsIn_of_wp Tryd.func37 rfl h6 ?_ hro
  simp only [Tryd.ntmps37, List.size_toArray, List.length_cons, List.length_nil, Nat.reduceAdd, Nat.reduceSub, Array.replicate_succ, Array.replicate_zero, List.push_toArray, List.append_toArray, List.nil_append, List.cons_append]
  have HJs := hid hJs
  have HY := hid hY
  clear hJs hY
  gi_wp2
  gi_loopw [] (fun wr => ∃ (pre rest : List Part) (v : Value), xs = pre ++ rest ∧ Chain w0 v rest ∧ wr.cell? ⟨b, 0, none⟩ = some v ∧ wr.frozen? ⟨b, 0, none⟩ = false ∧ Below n0 w0 wr ∧ J pre wr) (fun wr => leftC w0 b wr)
  case atStart => exact ⟨[], xs, v0, rfl, hL, hBn, hBf, hB, h0⟩
  case round =>
    obtain ⟨pre, rest, v, hx, hch, hc, hf, hBr, hJ⟩ := hrel
    have hm := leftC_eq hc hch
    cases rest with
    | nil =>
      obtain rfl : v = .nilIface := hch
      rw [List.append_nil] at hx
      subst hx
      clear hm
      gi_wp2
      all_goals (refine ⟨fun _ h => (by cases h), ?_⟩; gi_wp2)
      go_end0
      exact ⟨⟨_, rfl⟩, hJ⟩
    | cons x rest =>
      obtain ⟨rfl, hch⟩ := hch
      rcases hch with ⟨e1, rfl, rfl⟩ | ⟨A, u, p, rfl, hA, g0, g1, hcr⟩ | ⟨A, u, c, rfl, hA, g0, g1, hcr⟩
      · obtain ⟨fn, tmps, assign, body, hy, hR⟩ := HY.out pre _ [] wr hx hJ hBr
        dsimp only at hy hR hc
        have t1 := Pta.oe
        have t2 := Pta.ae
        gi_wp2
        refine hR.mono ?_
        rintro e W3 ⟨rfl, hJ3, hk3⟩
        have hc3 := (World.cell?_of_block (a := ⟨b, 0, none⟩) hk3.2).trans hc
        have hf3 := (World.frozen?_of_block (a := ⟨b, 0, none⟩) hk3.2).trans hf
        have hB3 := hBr.trans hk3.1
        have hJ4 := hid fun v => HJs.out _ W3 v hJ3
        have hB4 := hid fun (v : Value) => hB3.setCell (p := ⟨b, 0, none⟩) hnb v
        have hf4 := hid fun (v : Value) => show (W3.setCell ⟨b, 0, none⟩ v).frozen? ⟨b, 0, none⟩ = false by rw [World.frozen?_setCell]; exact hf3
        have hc4 := hid fun (v : Value) => World.cell?_setCell_same W3 ⟨b, 0, none⟩ v hc3
        clear hJ3 hk3 hy hR
        gi_wp2
        go_roundw
        case rel => exact ⟨_, [], .nilIface, by rw [hx]; simp, (show Chain w0 .nilIface [] from rfl), hc4.out _, hf4.out _, hB4.out _, hJ4.out _⟩
        case measure => rw [leftC_eq (hc4.out .nilIface) (show Chain w0 .nilIface [] from rfl), hm]; simp
      · obtain ⟨fn, tmps, assign, body, hy, hR⟩ := HY.out pre _ rest wr hx hJ hBr
        dsimp only at hy hR hc
        have t1 := Pta.oa
        have t2 := Pta.aa
        gi_wp2
        refine hR.mono ?_
        rintro e W3 ⟨rfl, hJ3, hk3⟩
        have hc3 := (World.cell?_of_block (a := ⟨b, 0, none⟩) hk3.2).trans hc
        have hf3 := (World.frozen?_of_block (a := ⟨b, 0, none⟩) hk3.2).trans hf
        have hB3 := hBr.trans hk3.1
        have hJ4 := hid fun v => HJs.out _ W3 v hJ3
        have hB4 := hid fun (v : Value) => hB3.setCell (p := ⟨b, 0, none⟩) hnb v
        have hf4 := hid fun (v : Value) => show (W3.setCell ⟨b, 0, none⟩ v).frozen? ⟨b, 0, none⟩ = false by rw [World.frozen?_setCell]; exact hf3
        have hc4 := hid fun (v : Value) => World.cell?_setCell_same W3 ⟨b, 0, none⟩ v hc3
        have gl := (hB3.cell (p := ⟨A, 0, none⟩) (Nat.lt_of_lt_of_le hA hw0)).trans g0
        clear hJ3 hk3 hy hR
        rcases hcr.shape with rfl | ⟨T9, v9, rfl⟩
        · gi_wp2
          go_roundw
          case rel => exact ⟨_, rest, .nilIface, by rw [hx]; simp, hcr, hc4.out _, hf4.out _, hB4.out _, hJ4.out _⟩
          case measure => rw [leftC_eq (hc4.out .nilIface) hcr, hm]; simp
        · gi_wp2
          go_roundw
          case rel => exact ⟨_, rest, (.iface T9 v9), by rw [hx]; simp, hcr, hc4.out _, hf4.out _, hB4.out _, hJ4.out _⟩
          case measure => rw [leftC_eq (hc4.out (.iface T9 v9)) hcr, hm]; simp
      · obtain ⟨fn, tmps, assign, body, hy, hR⟩ := HY.out pre _ rest wr hx hJ hBr
        dsimp only at hy hR hc
        have t1 := Pta.oo
        gi_wp2
        refine hR.mono ?_
        rintro e W3 ⟨rfl, hJ3, hk3⟩
        have hc3 := (World.cell?_of_block (a := ⟨b, 0, none⟩) hk3.2).trans hc
        have hf3 := (World.frozen?_of_block (a := ⟨b, 0, none⟩) hk3.2).trans hf
        have hB3 := hBr.trans hk3.1
        have hJ4 := hid fun v => HJs.out _ W3 v hJ3
        have hB4 := hid fun (v : Value) => hB3.setCell (p := ⟨b, 0, none⟩) hnb v
        have hf4 := hid fun (v : Value) => show (W3.setCell ⟨b, 0, none⟩ v).frozen? ⟨b, 0, none⟩ = false by rw [World.frozen?_setCell]; exact hf3
        have hc4 := hid fun (v : Value) => World.cell?_setCell_same W3 ⟨b, 0, none⟩ v hc3
        have gl := (hB3.cell (p := ⟨A, 1, none⟩) (Nat.lt_of_lt_of_le hA hw0)).trans g1
        clear hJ3 hk3 hy hR
        rcases hcr.shape with rfl | ⟨T9, v9, rfl⟩
        · gi_wp2
          go_roundw
          case rel => exact ⟨_, rest, .nilIface, by rw [hx]; simp, hcr, hc4.out _, hf4.out _, hB4.out _, hJ4.out _⟩
          case measure => rw [leftC_eq (hc4.out .nilIface) hcr, hm]; simp
        · gi_wp2
          go_roundw
          case rel => exact ⟨_, rest, (.iface T9 v9), by rw [hx]; simp, hcr, hc4.out _, hf4.out _, hB4.out _, hJ4.out _⟩
          case measure => rw [leftC_eq (hc4.out (.iface T9 v9)) hcr, hm]; simp
end SCP

end Go.Proofs.YtppdbadigecegaaDoor

