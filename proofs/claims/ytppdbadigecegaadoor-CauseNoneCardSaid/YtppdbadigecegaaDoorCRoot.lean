/- cause.Root. -/
import Derived.Test.YtppdbadigecegaaDoorCCodes
import Derived.Handy
set_option linter.unusedVariables false
set_option linter.unusedSimpArgs false
namespace Go.Proofs.YtppdbadigecegaaDoor
section SCRoot
open Go.RowKit

/-- The last of the first k. -/
def lastK (cs : List Int) (k : Nat) : Int := if k = 0 then 0 else cs.getD (k - 1) 0
def rootL (L : List (Bool × Int)) : Int := lastK (codesL L) (codesL L).length
def RootR (w1 : World) (cs : List Int) (n : Nat) (lv iv : Value) (wr : World) : Prop := wr = w1 ∧ ∃ k : Nat, k ≤ n ∧ iv = .int .i64 k ∧ lv = .int .i64 (lastK cs k)
theorem codesL_le : ∀ L : List (Bool × Int), (codesL L).length ≤ L.length
  | [] => Nat.le_refl _
  | (b, x) :: L => by
    have := codesL_le L
    rw [codesL_cons]
    cases b <;> simp <;> omega
/-- A row of codes, opened. -/
theorem codes_at {w : World} {a : Option Addr} {n cap : Nat} {cs : List Int} (h : Row w 1 (.slice a n cap) cs.length (cs.map (Value.int .i64))) (i : Nat) (hi : i < cs.length) : ∃ b off, a = some ⟨b, off, none⟩ ∧ b < w.heap.size ∧ w.cell? ⟨b, off + i, none⟩ = some (.int .i64 (cs.getD i 0)) := by
  obtain ⟨b, off, cap', e, h2, h3, h4, h5⟩ := Row.cons h (by omega)
  simp only [Value.slice.injEq] at e
  refine ⟨b, off, e.1, h4, ?_⟩
  rw [h5 i (by omega), List.getElem?_map, List.getD_eq_getElem?_getD, List.getElem?_eq_getElem hi]
  rfl
theorem lastK_succ (cs : List Int) (i : Nat) : lastK cs (i + 1) = cs.getD i 0 := by rw [lastK, if_neg (by omega)]; rfl

set_option maxRecDepth 100000 in
set_option maxHeartbeats 4000000 in
theorem croot_any (L : List (Bool × Int)) (v : Value) (w : World) (h : TC w v L) (hlen : L.length ≤ 1000) : Calls Tryd.prog 17 #[v] w fun r w' => r = .returned (.int .i64 (rootL L)) ∧ Below w.heap.size w w' := by
  have hcodes := hid (ccodes_any L v w h hlen)
  have hle := codesL_le L
  obtain ⟨cs, hcs⟩ : ∃ cs, cs = codesL L := ⟨_, rfl⟩
  rw [← hcs] at hcodes hle
  unfold CodesP at hcodes
  have Hr := hid (show lastK cs cs.length = rootL L by rw [hcs]; rfl)
  rcases h.shape with ⟨rfl, rfl⟩ | ⟨hL, T, x, rfl⟩
  all_goals
    clear h hcs
    go_enter Tryd.func17, Tryd.ntmps17
    go_wp2_with (go_at_call 9; refine hcodes.out.mono ?_; rintro r1 w1 ⟨rv, rfl, hrow, hb1⟩; obtain ⟨a, n, cap, rfl, hn⟩ : ∃ a n cap, rv = .slice a n cap ∧ n = cs.length := (by obtain ⟨a, cap, e, _⟩ := hrow.open; exact ⟨a, _, cap, e, rfl⟩); have Hrow := hid hrow; have Hn := hid hn; clear hrow hn)
    go_loopw [3, 9] (fun lv iv wr => RootR w1 cs n lv iv wr) (fun _ iv _ => n - (intOf iv).toNat)
    case atStart => exact ⟨rfl, 0, Nat.zero_le _, rfl, rfl⟩
    case round =>
      obtain ⟨rfl, k, hk, rfl, rfl⟩ := hrel
      have hn := Hn.out
      by_cases hlt : k < n
      · have hlt2 : (k : Int) < (n : Int) := by omega
        obtain ⟨b, off, rfl, hbl, hc⟩ := codes_at Hrow.out k (by omega)
        have hrel2 := hid (show RootR wr cs n (.int .i64 (cs.getD k 0)) (.int .i64 (k + 1 : Nat)) wr from ⟨rfl, k + 1, by omega, rfl, by rw [lastK_succ]⟩)
        have hn1000 : n ≤ 1000 := by omega
        generalize cs.getD k 0 = y at *
        clear hn
        go_wp2_with fail
        go_roundw
        case rel => exact hrel2.out
        case measure => simp [intOf] <;> omega
      · have hkn : k = n := by omega
        have hlt2 : ¬ (k : Int) < (n : Int) := by omega
        have Hk := hid (show lastK cs k = rootL _ by rw [← Hr.out, hkn, hn])
        clear hn hkn
        go_wp2_with fail
        go_ret
        exact ⟨congrArg (fun z => Ending.returned (.int .i64 z)) Hk.out, hb1⟩
end SCRoot

end Go.Proofs.YtppdbadigecegaaDoor

