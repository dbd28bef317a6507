/- cause.Word: the innermost word of a trouble. -/
import Derived.Test.YtppdbadigecegaaCP
import Derived.RangeFuncNested
import Derived.RangeFuncBound
import Derived.RangeFuncCalls
import Derived.RangeFuncLeaves
import Derived.Shelf.Abstract
import Derived.Shelf.RegionOpen
import Derived.WalkKit
import Derived.OwnWalkIn
import Derived.TacticsInMore
import Derived.LoopNIn
import Derived.LoopIn
set_option linter.unusedVariables false
set_option linter.unusedSimpArgs false
namespace Go.Proofs.Ytppdbadigecegaa
section SCW
open Go.RowKit Go.Shelf
attribute [local go_sem] Oper.semAt_some

def wordS (s : Int × Bool) (x : Part) : Int × Bool := match x.2 with
  | some p => (p, true)
  | none => s
def wordOf (xs : List Part) : Int × Bool := xs.foldl wordS (0, false)
theorem wordOf_snoc (xs : List Part) (x : Part) : wordOf (xs ++ [x]) = wordS (wordOf xs) x := by simp [wordOf]
theorem Chain.tail {w : World} : ∀ {pre ys : List Part} {v : Value}, Chain w v (pre ++ ys) → ∃ v', Chain w v' ys
  | [], ys, v, h => ⟨v, h⟩
  | x :: pre, ys, v, h => by
    obtain ⟨rfl, h⟩ := h
    rcases h with ⟨_, rfl, h⟩ | ⟨_, u, _, rfl, _, _, _, h⟩ | ⟨_, u, _, rfl, _, _, _, h⟩
    · have : ys = [] := by simp at h; exact h.2
      subst this
      exact ⟨.nilIface, rfl⟩
    · exact Chain.tail h
    · exact Chain.tail h
theorem Pta.ao (i : TypeId) (a : Addr) (w : World) : (Instr.typeAssert (.iface 41 (.pointer (some a))) i 44 true).run Try.prog w = .ok (.tuple #[.pointer none, .bool false]) w := by kernel_rfl
/-- What holds between two rounds. -/
structure WordJ (w : World) (rec : Loop) (s : Int × Bool) (W : World) : Prop where
  c1 : W.cell? ⟨w.heap.size, 0, none⟩ = some (.int .i64 s.1)
  c2 : W.cell? ⟨w.heap.size + 1, 0, none⟩ = some (.bool s.2)
  f1 : W.frozen? ⟨w.heap.size, 0, none⟩ = false
  f2 : W.frozen? ⟨w.heap.size + 1, 0, none⟩ = false
  rc : W.heap[w.heap.size + 4]? = some (.loop rec)
  df : W.heap[w.heap.size + 3]? = some (.deferred (some []))
  lo : Below w.heap.size w W
theorem WordJ.box {w : World} {rec : Loop} {s : Int × Bool} {W : World} (h : WordJ w rec s W) (v : Value) : WordJ w rec s (W.setCell ⟨w.heap.size + 2, 0, none⟩ v) :=
  ⟨(World.cell?_setCell_other _ _ _ _ (by simp)).trans h.c1, (World.cell?_setCell_other _ _ _ _ (by simp)).trans h.c2, by rw [World.frozen?_setCell]; exact h.f1, by rw [World.frozen?_setCell]; exact h.f2,
    (Below.heap_setCell _ _ _ _ (by simp)).trans h.rc, (Below.heap_setCell _ _ _ _ (by simp)).trans h.df, h.lo.setCell (p := ⟨w.heap.size + 2, 0, none⟩) (by simp) v⟩
theorem WordJ.put {w : World} {rec : Loop} {s : Int × Bool} {W : World} (h : WordJ w rec s W) (rec2 : Loop) : WordJ w rec2 s (W.putObj (w.heap.size + 4) (.loop rec2)) := by
  have hl := (Array.getElem?_eq_some_iff.1 h.rc).1
  have o : ∀ k, k ≠ w.heap.size + 4 → (W.putObj (w.heap.size + 4) (.loop rec2)).heap[k]? = W.heap[k]? := fun k hk => World.putObj_heap_other hk
  exact ⟨(World.cell?_of_block (a := ⟨w.heap.size, 0, none⟩) (o _ (by simp))).trans h.c1, (World.cell?_of_block (a := ⟨w.heap.size + 1, 0, none⟩) (o _ (by simp))).trans h.c2,
    (World.frozen?_of_block (a := ⟨w.heap.size, 0, none⟩) (o _ (by simp))).trans h.f1, (World.frozen?_of_block (a := ⟨w.heap.size + 1, 0, none⟩) (o _ (by simp))).trans h.f2, World.putObj_heap_same hl, (o _ (by simp)).trans h.df,
    belowK_b (w := w) (Nat.le_refl _) W _ _ _ (by omega) h.rc rfl rfl |> fun k => h.lo.trans k⟩
theorem WordJ.set {w : World} {rec : Loop} {s : Int × Bool} {W : World} (h : WordJ w rec s W) (p : Int) : WordJ w rec (p, true) ((W.setCell ⟨w.heap.size, 0, none⟩ (.int .i64 p)).setCell ⟨w.heap.size + 1, 0, none⟩ (.bool true)) :=
  ⟨(World.cell?_setCell_other _ _ _ _ (by simp)).trans (World.cell?_setCell_same _ _ _ h.c1), World.cell?_setCell_same _ _ _ ((World.cell?_setCell_other _ _ _ _ (by simp)).trans h.c2),
    by rw [World.frozen?_setCell, World.frozen?_setCell]; exact h.f1, by rw [World.frozen?_setCell, World.frozen?_setCell]; exact h.f2,
    (Below.heap_setCell _ _ _ _ (by simp)).trans ((Below.heap_setCell _ _ _ _ (by simp)).trans h.rc), (Below.heap_setCell _ _ _ _ (by simp)).trans ((Below.heap_setCell _ _ _ _ (by simp)).trans h.df),
    (h.lo.setCell (p := ⟨w.heap.size, 0, none⟩) (Nat.le_refl _) _).setCell (p := ⟨w.heap.size + 1, 0, none⟩) (by simp) _⟩

theorem word_start (u : Value) (w : World) (rec : Loop) :
    WordJ w rec (wordOf []) (((((w.alloc (.cells #[.int .i64 0] 3)).alloc (.cells #[.bool false] 4)).alloc (.cells #[u] 25)).alloc (.deferred (some []))).alloc (.loop rec)) ∧
    (((((w.alloc (.cells #[.int .i64 0] 3)).alloc (.cells #[.bool false] 4)).alloc (.cells #[u] 25)).alloc (.deferred (some []))).alloc (.loop rec)).cell? ⟨w.heap.size + 2, 0, none⟩ = some u ∧
    (((((w.alloc (.cells #[.int .i64 0] 3)).alloc (.cells #[.bool false] 4)).alloc (.cells #[u] 25)).alloc (.deferred (some []))).alloc (.loop rec)).frozen? ⟨w.heap.size + 2, 0, none⟩ = false := by
  have step : ∀ (W : World) (o : Obj) (k : Nat), k < W.heap.size → (W.alloc o).heap[k]? = W.heap[k]? := fun W o k hk => Below.heap_alloc _ _ _ hk
  have size : ∀ (W : World) (o : Obj), (W.alloc o).heap.size = W.heap.size + 1 := fun W o => by simp
  have low := below_alloc w (.cells #[.int .i64 0] 3)
  have b1 := World.alloc_heap_new w (.cells #[.int .i64 0] 3)
  have z1 := size w (.cells #[.int .i64 0] 3)
  generalize w.alloc (.cells #[.int .i64 0] 3) = w1 at *
  have low := via low (below_alloc w1 (.cells #[.bool false] 4))
  have b2 := World.alloc_heap_new w1 (.cells #[.bool false] 4)
  have z2 := size w1 (.cells #[.bool false] 4)
  replace b1 := (step w1 (.cells #[.bool false] 4) _ (by omega)).trans b1
  generalize w1.alloc (.cells #[.bool false] 4) = w2 at *
  have low := via low (below_alloc w2 (.cells #[u] 25))
  have b3 := World.alloc_heap_new w2 (.cells #[u] 25)
  have z3 := size w2 (.cells #[u] 25)
  replace b1 := (step w2 (.cells #[u] 25) _ (by omega)).trans b1
  replace b2 := (step w2 (.cells #[u] 25) _ (by omega)).trans b2
  generalize w2.alloc (.cells #[u] 25) = w3 at *
  have low := via low (below_alloc w3 (.deferred (some [])))
  have b4 := World.alloc_heap_new w3 (.deferred (some []))
  have z4 := size w3 (.deferred (some []))
  replace b1 := (step w3 (.deferred (some [])) _ (by omega)).trans b1
  replace b2 := (step w3 (.deferred (some [])) _ (by omega)).trans b2
  replace b3 := (step w3 (.deferred (some [])) _ (by omega)).trans b3
  generalize w3.alloc (.deferred (some [])) = w4 at *
  have low := via low (below_alloc w4 (.loop rec))
  have b5 := World.alloc_heap_new w4 (.loop rec)
  replace b1 := (step w4 (.loop rec) _ (by omega)).trans b1
  replace b2 := (step w4 (.loop rec) _ (by omega)).trans b2
  replace b3 := (step w4 (.loop rec) _ (by omega)).trans b3
  replace b4 := (step w4 (.loop rec) _ (by omega)).trans b4
  generalize w4.alloc (.loop rec) = w5 at *
  rw [z1] at b2
  rw [z2, z1] at b3
  rw [z3, z2, z1] at b4
  rw [z4, z3, z2, z1] at b5
  refine ⟨⟨?_, ?_, ?_, ?_, b5, b4, low⟩, ?_, ?_⟩
  · simp only [World.cell?, b1]; rfl
  · simp only [World.cell?, b2]; rfl
  · simp [World.frozen?, b1]
  · simp [World.frozen?, b2]
  · have b3' : w5.heap[w.heap.size + 2]? = some (.cells #[u] 25) := b3
    simp only [World.cell?, b3']; rfl
  · have b3' : w5.heap[w.heap.size + 2]? = some (.cells #[u] 25) := b3
    simp [World.frozen?, b3']

/-- A range over a function is begun: the two blocks of its book-keeping, and the one call. -/
theorem range_enter {F : Fence} {n : Nat} {P : Program} {g : Operand} {ps : Array Tmp} {assign body : Code} {Q : Exit → Act → World → Prop} {a : Act} {w : World} (hro : F.round = none) (h1 : F.depth.isSome = true → 1 ≤ n)
    {gf : Nat} {lb : Array Value} (hg : a.eval g = .func (.func gf) #[] lb) (hFg : F.fn gf) (eg : ∀ args w, (callFunc gf args).run P w = .ok (.enter gf args) w)
    (h : ∀ (fn : FuncId), F.fn fn → ∀ rec : Loop, rec = { state := .ready, pending := none, fn, tmps := a.tmps, params := ps, assign, body, defers := w.heap.size } →
      CallsIn F (n - 1) P gf (#[.func (.yield (w.heap.size + 1)) #[] #[]] ++ lb) ((w.alloc (.deferred (some []))).alloc (.loop rec)) (rangePost F n P (w.heap.size + 1) Q { a with defers := [{ target := .collected w.heap.size, args := #[] }] ++ a.defers })) :
    (Code.rangeFunc g ps assign body).wpIn F n P Q a w := by
  refine wpIn_rangeFunc ?_
  intro fn hfn
  rw [hro]
  obtain ⟨rec, hrec⟩ : ∃ rec : Loop, rec = { state := .ready, pending := none, fn, tmps := a.tmps, params := ps, assign, body, defers := w.heap.size } := ⟨_, rfl⟩
  have hcall := h fn hfn rec hrec
  obtain ⟨W1, hW1⟩ : ∃ W1, (w.alloc (.deferred (some []))).alloc (.loop rec) = W1 := ⟨_, rfl⟩
  rw [hW1] at hcall
  refine ⟨w.heap.size + 1, [{ target := .collected w.heap.size, args := #[] }], W1, { target := .fn (.func gf) lb, args := #[.func (.yield (w.heap.size + 1)) #[] #[]] }, W1, gf, #[.func (.yield (w.heap.size + 1)) #[] #[]] ++ lb, W1, ?_, ?_, ?_, ?_, h1, ?_⟩
  · rw [← hW1, hrec]; exact run_enterLoop_outer _ _ _ _ _
  · simp only [resolve, hg]
    simp [go_sem]
  · intro f' hf'
    simp [Target.leads] at hf'
    subst hf'
    exact hFg
  · simp [invoke, go_sem, eg]
  · exact hcall

end SCW

end Go.Proofs.Ytppdbadigecegaa

