/- control.Pack. -/
import Derived.Test.YtbhnbjaafejcjaaDoorCtl
import Derived.Deep.RegionWith
set_option linter.unusedVariables false
namespace Go.Proofs.YtbhnbjaafejcjaaDoor
open Go.RowKit

/-- The three variables that 'put' captures. -/
structure Three (w : World) (B : Nat) (x : BitVec 64) (p : Int) (o : Bool) : Prop where
  lt : B + 2 < w.heap.size
  hx : w.cell? ⟨B, 0, none⟩ = some (U x)
  hp : w.cell? ⟨B + 1, 0, none⟩ = some (.int .i64 p)
  ho : w.cell? ⟨B + 2, 0, none⟩ = some (.bool o)
  fx : w.frozen? ⟨B, 0, none⟩ = false
  fp : w.frozen? ⟨B + 1, 0, none⟩ = false
  fo : w.frozen? ⟨B + 2, 0, none⟩ = false

def stepX (x : BitVec 64) (p n : Int) (v : BitVec 64) : BitVec 64 := if setOk p n v then setV x p n v else x

set_option maxHeartbeats 1000000 in
theorem put_any (v n : Int) (B : Nat) (x : BitVec 64) (p : Int) (o : Bool) (w : World) (h : Three w B x p o) (hn : 0 ≤ n ∧ n ≤ 64) (hp : 0 ≤ p ∧ p ≤ 64) (q : Bool) (hq : setOk p n (BitVec.ofInt 64 v) = q) (y : BitVec 64) (hy : stepX x p n (BitVec.ofInt 64 v) = y) :
    Calls Tryd.prog 60 #[.int .i64 v, .int .i64 n, .pointer (some ⟨B, 0, none⟩), .pointer (some ⟨B + 1, 0, none⟩), .pointer (some ⟨B + 2, 0, none⟩)] w fun r w' =>
      r = .returned (.tuple #[]) ∧ ∃ k, w' = ((((w.drewN k).setCell ⟨B, 0, none⟩ (U y)).setCell ⟨B + 2, 0, none⟩ (.bool (o && q))).setCell ⟨B + 1, 0, none⟩ (.int .i64 (p + n))) := by
  have h1 := h.hx
  have h2 := h.hp
  have h3 := h.ho
  have h4 := h.fx
  have h5 := h.fp
  have h6 := h.fo
  have hs : ∀ w, Calls Tryd.prog 61 #[U x, .int .i64 p, .int .i64 n, U (BitVec.ofInt 64 v)] w fun e w' => e = .returned (.tuple #[U y, .bool q]) ∧ ∃ k, w' = w.drewN k := fun w => by
    have := set_any x (BitVec.ofInt 64 v) p n w (by omega)
    rw [hq] at this; rw [← hy, stepX, hq]; exact this
  clear hq hy
  go_enter Tryd.func60, Tryd.ntmps60
  go_wp2_with fail
  ((with_reducible refine (hs _).mono ?_); rintro e1 w1 ⟨rfl, k, rfl⟩)
  go_wp2_with fail
  cases o
  all_goals
    go_region
    go_end0
    exact ⟨rfl, k + 1, rfl⟩

theorem Three.put {w : World} {B : Nat} {x y : BitVec 64} {p p2 : Int} {o o2 : Bool} (h : Three w B x p o) (k : Nat) :
    Three ((((w.drewN k).setCell ⟨B, 0, none⟩ (U y)).setCell ⟨B + 2, 0, none⟩ (.bool o2)).setCell ⟨B + 1, 0, none⟩ (.int .i64 p2)) B y p2 o2 := by
  have h0 := h.lt
  have h1 := h.hx
  have h2 := h.hp
  have h3 := h.ho
  have h4 := h.fx
  have h5 := h.fp
  have h6 := h.fo
  refine ⟨by simpa using h0, ?_, ?_, ?_, ?_, ?_, ?_⟩ <;> simp [go_sem, *]

theorem Three.drew {w : World} {B : Nat} {x : BitVec 64} {p : Int} {o : Bool} (h : Three w B x p o) : Three w.drew B x p o :=
  ⟨h.lt, h.hx, h.hp, h.ho, h.fx, h.fp, h.fo⟩

theorem Below.put3 {B : Nat} {w wr : World} (h : Below B w wr) (M : Nat) (hM : B ≤ M) (k : Nat) (a b c : Value) :
    Below B w ((((wr.drewN k).setCell ⟨M + 1 + 1, 0, none⟩ a).setCell ⟨M + 1 + 1 + 2, 0, none⟩ b).setCell ⟨M + 1 + 1 + 1, 0, none⟩ c) :=
  (((h.trans (below_drewN _ _ _)).setCell (by show B ≤ M + 1 + 1; omega) _).setCell (by show B ≤ M + 1 + 1 + 2; omega) _).setCell (by show B ≤ M + 1 + 1 + 1; omega) _

/-- What the word, the place and the sign are behind the first i parts. -/
def packS (f : Nat → Int × Int) : Nat → BitVec 64 × Int × Bool
  | 0 => (0#64, 0, true)
  | i + 1 => (stepX (packS f i).1 (packS f i).2.1 (f i).2 (BitVec.ofInt 64 (f i).1), (packS f i).2.1 + (f i).2, (packS f i).2.2 && setOk (packS f i).2.1 (f i).2 (BitVec.ofInt 64 (f i).1))

/-- What Pack hands back. -/
def packR (s : BitVec 64 × Int × Bool) : Ending := .returned (.tuple (if s.2.2 then #[U s.1, .nilIface] else #[U 0#64, .iface 31 (.int .i64 1)]))

def partN (e g b : Int) (l u : Bool) (i : Nat) : Int := [b, g, b01 u, b01 l, e].getD i 0
def partS (i : Nat) : Int := [16, 31, 1, 1, 15].getD i 0

theorem packS_at (f : Nat → Int) (i : Nat) (h : i ≤ 5) : (packS (fun j => (f j, partS j)) i).2.1 = [0, 16, 47, 48, 49, 64].getD i 0 := by
  have : i = 0 ∨ i = 1 ∨ i = 2 ∨ i = 3 ∨ i = 4 ∨ i = 5 := by omega
  rcases this with rfl | rfl | rfl | rfl | rfl | rfl <;> rfl

set_option maxHeartbeats 2000000 in
theorem pack_walk (e g b : Int) (l u : Bool) (w : World) :
    Calls Tryd.prog 31 #[CV e g b l u] w fun r w' => ∃ s, packS (fun j => (partN e g b l u j, partS j)) 5 = s ∧ r = packR s ∧ Below w.heap.size w w' := by
  unfold CV
  go_enter Tryd.func31, Tryd.ntmps31
  go_wp2_with fail
  ((refine (parts_any e g b l u _).mono ?_); rintro e1 w1 ⟨rfl, hb1⟩)
  go_wp2_with fail
  have hb : Below w.heap.size w w1 := ((Below.refl _ w).alloc (Nat.le_refl _) _).trans (hb1.mono (by simp))
  have hsz := hb.size
  clear hb1
  obtain ⟨M, hM⟩ : ∃ M, M = w1.heap.size := ⟨_, rfl⟩
  rw [← hM] at hsz
  have h3 : Three (((((w1.alloc (.cells #[.int .i64 b, .int .i64 g, .int .i64 (b01 u), .int .i64 (b01 l), .int .i64 e] 100)).alloc (.cells #[.int .i64 16, .int .i64 31, .int .i64 1, .int .i64 1, .int .i64 15] 100)).alloc (.cells #[.int .u64 0] 41)).alloc (.cells #[.int .i64 0] 3)).alloc (.cells #[.bool true] 4)) (M + 1 + 1) 0#64 0 true := by
    subst hM
    refine ⟨by simp, ?_, ?_, ?_, ?_, ?_, ?_⟩ <;> simp [go_sem, U]
  have hA : ∀ j, j < 5 → (((((w1.alloc (.cells #[.int .i64 b, .int .i64 g, .int .i64 (b01 u), .int .i64 (b01 l), .int .i64 e] 100)).alloc (.cells #[.int .i64 16, .int .i64 31, .int .i64 1, .int .i64 1, .int .i64 15] 100)).alloc (.cells #[.int .u64 0] 41)).alloc (.cells #[.int .i64 0] 3)).alloc (.cells #[.bool true] 4)).cell? ⟨M, j, none⟩ = some (.int .i64 (partN e g b l u j)) := by
    subst hM
    intro j hj
    have : j = 0 ∨ j = 1 ∨ j = 2 ∨ j = 3 ∨ j = 4 := by omega
    rcases this with rfl | rfl | rfl | rfl | rfl <;> simp [go_sem, partN]
  have hB : ∀ j, j < 5 → (((((w1.alloc (.cells #[.int .i64 b, .int .i64 g, .int .i64 (b01 u), .int .i64 (b01 l), .int .i64 e] 100)).alloc (.cells #[.int .i64 16, .int .i64 31, .int .i64 1, .int .i64 1, .int .i64 15] 100)).alloc (.cells #[.int .u64 0] 41)).alloc (.cells #[.int .i64 0] 3)).alloc (.cells #[.bool true] 4)).cell? ⟨M + 1, j, none⟩ = some (.int .i64 (partS j)) := by
    subst hM
    intro j hj
    have : j = 0 ∨ j = 1 ∨ j = 2 ∨ j = 3 ∨ j = 4 := by omega
    rcases this with rfl | rfl | rfl | rfl | rfl <;> simp [go_sem, partS]
  have hbl : Below w.heap.size w (((((w1.alloc (.cells #[.int .i64 b, .int .i64 g, .int .i64 (b01 u), .int .i64 (b01 l), .int .i64 e] 100)).alloc (.cells #[.int .i64 16, .int .i64 31, .int .i64 1, .int .i64 1, .int .i64 15] 100)).alloc (.cells #[.int .u64 0] 41)).alloc (.cells #[.int .i64 0] 3)).alloc (.cells #[.bool true] 4)) := by
    subst hM
    go_grown
  rw [← hM]
  generalize (((((w1.alloc (.cells #[.int .i64 b, .int .i64 g, .int .i64 (b01 u), .int .i64 (b01 l), .int .i64 e] 100)).alloc (.cells #[.int .i64 16, .int .i64 31, .int .i64 1, .int .i64 1, .int .i64 15] 100)).alloc (.cells #[.int .u64 0] 41)).alloc (.cells #[.int .i64 0] 3)).alloc (.cells #[.bool true] 4)) = w2 at *
  clear hM hb
  obtain ⟨f, hf⟩ : ∃ f, f = fun j => (partN e g b l u j, partS j) := ⟨_, rfl⟩
  have Hf := hid hf
  clear hf
  go_loopw [17] (fun i wr => ∃ k : Nat, k ≤ 5 ∧ i = .int .i64 k ∧ Three wr (M + 1 + 1) (packS f k).1 (packS f k).2.1 (packS f k).2.2 ∧ (∀ j, j < 5 → wr.cell? ⟨M, j, none⟩ = some (.int .i64 (partN e g b l u j))) ∧ (∀ j, j < 5 → wr.cell? ⟨M + 1, j, none⟩ = some (.int .i64 (partS j))) ∧ Below w.heap.size w wr) (fun i _ => 5 - (intOf i).toNat)
  case atStart => exact ⟨0, by omega, rfl, h3, hA, hB, hbl⟩
  case round =>
    clear h3 hA hB hbl
    obtain ⟨k, hk, rfl, h3, hA, hB, hbl⟩ := hrel
    by_cases hlt : k < 5
    · have hAk := hA k hlt
      have hBk := hB k hlt
      have h1k := h3.hp
      have hps : (packS f k).2.1 = [0, 16, 47, 48, 49, 64].getD k 0 := by rw [Hf.out]; exact packS_at _ k (by omega)
      have hbd : 0 ≤ (packS f k).2.1 ∧ (packS f k).2.1 ≤ 64 ∧ 0 ≤ partS k ∧ partS k ≤ 64 := by
        rw [hps]
        have : k = 0 ∨ k = 1 ∨ k = 2 ∨ k = 3 ∨ k = 4 := by omega
        rcases this with rfl | rfl | rfl | rfl | rfl <;> decide
      clear hps
      go_wp2_with fail
      go_region_with (go_at_call 60; refine (put_any _ _ _ _ _ _ _ h3.drew (by omega) (by omega) _ rfl _ rfl).mono ?_; rintro e1 w4 ⟨rfl, q, rfl⟩)
      all_goals
        go_wp2_with fail
        go_roundw
      all_goals first
        | (refine ⟨k + 1, by omega, by go_num, ?_, fun j hj => ?_, fun j hj => ?_, Below.put3 hbl M hsz _ _ _ _⟩
           · have hf := Hf.out
             clear Hf
             subst hf
             exact Three.put h3 _
           · simpa [go_sem] using hA j hj
           · simpa [go_sem] using hB j hj)
        | (simp [intOf] <;> omega)
    · have hk5 : k = 5 := by omega
      subst hk5
      have hok : wr.cell? ⟨M + 1 + 1 + 1 + 1, 0, none⟩ = some (.bool (packS f 5).2.2) := h3.ho
      have hox : wr.cell? ⟨M + 1 + 1, 0, none⟩ = some (U (packS f 5).1) := h3.hx
      have Hs : Hid (packS (fun j => (partN e g b l u j, partS j)) 5 = packS f 5) := hid (by rw [Hf.out])
      clear h3 hA hB
      generalize packS f 5 = s at *
      obtain ⟨x, p, o⟩ := s
      cases o
      · go_wp2
        go_returns
        first | exact ⟨_, Hs.out, rfl, hbl⟩ | exact ⟨by rw [Hs.out]; rfl, hbl⟩ | exact ⟨by simp [Hs.out, packR, U], hbl⟩
      · go_wp2
        go_returns
        first | exact ⟨_, Hs.out, rfl, hbl⟩ | exact ⟨by rw [Hs.out]; rfl, hbl⟩ | exact ⟨by simp [Hs.out, packR, U], hbl⟩
end Go.Proofs.YtbhnbjaafejcjaaDoor

