/- The library's table of powers of ten in a world that has the program's shape: twenty numbers, whichever; strconv.Itoa in such a world. -/
import Derived.Test.YtppdbadigecegaaCItoa
import Derived.Test.YtppdbadigecegaaCAw
import Derived.Lib.AppendIntMem
import Derived.Shelf.Lay
import Derived.Ground.NamesProg
import Derived.HandedShaped
set_option linter.unusedVariables false
set_option linter.unusedSimpArgs false
namespace Go.Proofs.Ytppdbadigecegaa
section SCTab
open Go.RowKit

/-- The table. -/
def TabW (T : Nat → Int) (w : World) : Prop := 0 < w.heap.size ∧ ∀ j, j < 20 → w.cell? ⟨0, j, none⟩ = some (.int .u64 (T j))
theorem TabW.below {T : Nat → Int} {w w' : World} (h : TabW T w) (hb : Below w.heap.size w w') : TabW T w' :=
  ⟨Nat.lt_of_lt_of_le h.1 hb.size, fun j hj => (hb.cell (p := ⟨0, j, none⟩) h.1).trans (h.2 j hj)⟩

theorem shaped_row {P : Program} {w : World} {g t n : Nat} {e : TypeId} {zero : Array Value} {k : IntKind}
    (h : w.ShapedOpen P) (hg : g < P.globals.size)
    (h0 : ((begin P (fun _ _ => 0) default).world.heap[g]?).bind Obj.row? = some (zero, t)) (hz : zero.size = n)
    (hb : P.buildable t = true) (hc : P.cellTypes P.depth t = some (List.replicate n e)) (hu : P.underlying e = some (.int k)) :
    ∀ j, j < n → ∃ m, w.cell? ⟨g, j, none⟩ = some (.int k m) := by
  intro j hj
  obtain ⟨cs, hh, hs, hr⟩ := h.1 g zero t hg h0
  obtain ⟨ts, hts, _, hall⟩ := hr hb
  rw [hc] at hts
  cases hts
  have h1 : j < cs.size := by omega
  obtain ⟨u, hu', hok⟩ := hall j cs[j] (by simp [h1])
  have : u = e := by
    rw [List.getElem?_replicate] at hu'
    split at hu'
    · exact (Option.some.inj hu').symm
    · cases hu'
  subst this
  have hcell : w.cell? ⟨g, j, none⟩ = some cs[j] := by simp [World.cell?, hh, h1]
  rw [hcell]
  unfold Cell.ok at hok
  rw [hu] at hok
  cases hv : cs[j] <;> rw [hv] at hok <;> simp at hok
  case int k' n => exact ⟨n, by rw [hok.1]⟩
theorem tab_shaped {w : World} (h : w.ShapedOpen Try.prog) : ∃ T, TabW T w := by
  have h0 : ((begin Try.prog (fun _ _ => 0) default).world.heap[0]?).bind Obj.row? = some (Array.replicate 20 (.int .u64 0), 76) := by kernel_rfl
  have hrow := shaped_row h (g := 0) (t := 76) (n := 20) (e := 65) (k := .u64) (of_decide_eq_true (by kernel_rfl)) h0 (by kernel_rfl) (by kernel_rfl) (by kernel_rfl) Try.underlying65
  obtain ⟨T, hT⟩ : ∃ T : Nat → Int, ∀ j, j < 20 → w.cell? ⟨0, j, none⟩ = some (.int .u64 (T j)) :=
    ⟨fun j => if hj : j < 20 then (hrow j hj).choose else 0, fun j hj => by simp only [hj, dif_pos]; exact (hrow j hj).choose_spec⟩
  refine ⟨T, ?_, hT⟩
  exact World.block_lt_of_cell? w ⟨0, 0, none⟩ (by rw [hT 0 (by decide)])

shelf_lay LaysM.n171 Nm 171 at Try as Try.lays171
theorem cit_any (T : Nat → Int) (n : Int) (h0 : -9223372036854775808 ≤ n) (h1 : n ≤ 9223372036854775807) (w : World) (h : TabW T w) :
    Calls Try.prog 31 #[.int .i64 n] w fun r w' => r = .returned (.string ⟨(itoaT T n).toArray⟩) ∧ Below w.heap.size w w' := by
  refine (itoa_any Try.lays171 T n h0 h1 w h.1 h.2).mono ?_
  rintro r w' ⟨rfl, k, os, rfl⟩
  exact ⟨rfl, Lib.below_grow _ _ (Nat.le_refl _) _ _⟩
end SCTab

end Go.Proofs.Ytppdbadigecegaa

