/- internal/strconv.formatBase10 whatever the row's length, so long as the number has at most one digit more. -/
import Derived.Shelf.LaysM
import Derived.Shelf.RegionOpenPlain
import Derived.Lib.Walk
import Derived.Lib.ItoaWalk
import Derived.WalkKit
import Derived.RegionTactic
import Derived.BigCall
import Derived.BigGuard
import Derived.CellFam
set_option linter.unusedVariables false
set_option linter.unusedSimpArgs false
namespace Go.Proofs.Ytppdbadigecegaa
section SCFmt
open Go.Shelf Go.RowKit Go.Sort Go.Lib

/-- What the stores keep: nd0: the row's length; u: the number; the places from nd on hold their digits; v: what is left of u. -/
structure FmtG (nd0 u nd v : Nat) (d : Array UInt8) : Prop where
  size : d.size = nd0
  le : nd ≤ nd0
  rest : v = u / 10 ^ (nd0 - nd)
  small : v < 10 ^ (nd + 1)
  par : nd % 2 = nd0 % 2
  done : ∀ t, nd ≤ t → t < nd0 → d[t]! = dg u (nd0 - 1 - t)
/-- The byte at place t: of an odd row's first one no rest is taken. -/
def gAt (nd0 u t : Nat) : UInt8 := if t = 0 ∧ nd0 % 2 = 1 then UInt8.ofNat (48 + u / 10 ^ (nd0 - 1)) else dg u (nd0 - 1 - t)
/-- What lies there at the end. -/
def FmtE (nd0 u : Nat) (d : Array UInt8) : Prop := d.size = nd0 ∧ ∀ t, t < nd0 → d[t]! = gAt nd0 u t
theorem FmtG.start (d : Array UInt8) (u : Nat) (h : u < 10 ^ (d.size + 1)) : FmtG d.size u d.size u d :=
  ⟨rfl, Nat.le_refl _, by simp, h, rfl, fun t h1 h2 => by omega⟩
theorem FmtG.step {nd0 u k v : Nat} {d : Array UInt8} (h : FmtG nd0 u (k + 2) v d) :
    FmtG nd0 u k (v / 100) ((d.setIfInBounds (k + 1) (sm (v % 100 * 2 + 1))).setIfInBounds k (sm (v % 100 * 2))) := by
  have hle := h.le
  have hpar := h.par
  have hp : v % 100 < 100 := Nat.mod_lt _ (by decide)
  refine ⟨by simp [h.size], by omega, ?_, ?_, by omega, fun t h1 h3 => ?_⟩
  · rw [h.rest, Nat.div_div_eq_div_mul, show nd0 - k = nd0 - (k + 2) + 2 by omega, Nat.pow_add]
  · have hs := h.small
    rw [show k + 2 + 1 = (k + 1) + 2 by omega, Nat.pow_add] at hs
    exact Nat.div_lt_of_lt_mul (by rw [Nat.mul_comm]; exact hs)
  · by_cases e2 : t = k
    · rw [e2, get_set_same _ _ _ (by simp [h.size]; omega), sm_hi _ hp]
      unfold dg
      rw [show nd0 - 1 - k = nd0 - (k + 2) + 1 by omega, Nat.pow_succ, ← Nat.div_div_eq_div_mul, ← h.rest]
      congr 2
      omega
    · rw [get_set_other _ _ _ _ e2]
      by_cases e1 : t = k + 1
      · rw [e1, get_set_same _ _ _ (by rw [h.size]; omega), sm_lo _ hp]
        unfold dg
        rw [show nd0 - 1 - (k + 1) = nd0 - (k + 2) by omega, ← h.rest]
        congr 2
        omega
      · rw [get_set_other _ _ _ _ e1]
        exact h.done t (by omega) h3
theorem FmtG.last {nd0 u v : Nat} {d : Array UInt8} (h : FmtG nd0 u 1 v d) : FmtE nd0 u (d.setIfInBounds 0 (UInt8.ofNat (48 + v))) := by
  have hle := h.le
  have hpar := h.par
  refine ⟨by simp [h.size], fun t ht => ?_⟩
  unfold gAt
  by_cases e : t = 0
  · subst e
    rw [get_set_same _ _ _ (by rw [h.size]; omega), if_pos ⟨rfl, by omega⟩, h.rest]
  · rw [get_set_other _ _ _ _ e, if_neg (fun k => e k.1)]
    exact h.done t (by omega) ht
theorem FmtG.none {nd0 u v : Nat} {d : Array UInt8} (h : FmtG nd0 u 0 v d) : FmtE nd0 u d := by
  have hpar := h.par
  refine ⟨h.size, fun t ht => ?_⟩
  unfold gAt
  rw [if_neg (fun k => by omega)]
  exact h.done t (Nat.zero_le _) ht
theorem FmtG.few {nd0 u nd v : Nat} {d : Array UInt8} (h : FmtG nd0 u nd v d) (h7 : nd ≤ 7) : v < 100000000 :=
  Nat.lt_of_lt_of_le h.small (by rw [show (100000000 : Nat) = 10 ^ 8 by rfl]; exact Nat.pow_le_pow_right (by decide) (by omega))

variable {P : Program} {ρ : Ren}
set_option maxHeartbeats 12800000 in
set_option maxRecDepth 100000 in
theorem fmt10_any (L : Lays.n285 P ρ) (blk off cap : Nat) (u : Nat) (d : Array UInt8) (w : World) (hH : Holds (fun (b : UInt8) => Value.int .u8 (b.toNat : Int)) w blk off d) (hu : u < 10 ^ (d.size + 1)) (hu64 : u < 18446744073709551616) (hsz : d.size < 4611686018427387904) :
    Calls P (ρ.f 285) #[.slice (some ⟨blk, off, none⟩) d.size cap, .int .u64 u] w fun e w' =>
      e = .returned (.tuple #[]) ∧ ∃ (n : Nat) (dk : Array UInt8), w' = (putRow (fun (b : UInt8) => Value.int .u8 (b.toNat : Int)) w blk off dk).drewN n ∧ FmtE d.size u dk := by
  have mixed := L.mixed
  have t37 := L.t37; have a37 := L.a37; have z37 := L.z37; have v37 := L.v37
  have t53 := L.t53; have a53 := L.a53; have z53 := L.z53; have v53 := L.v53
  have t3 := L.t3; have a3 := L.a3; have z3 := L.z3; have v3 := L.v3
  have t4 := L.t4; have a4 := L.a4; have z4 := L.z4; have v4 := L.v4
  have t51 := L.t51; have a51 := L.a51; have z51 := L.z51; have v51 := L.v51
  have t9 := L.t9; have a9 := L.a9; have z9 := L.z9; have v9 := L.v9
  have t5 := L.t5; have a5 := L.a5; have z5 := L.z5; have v5 := L.v5
  have t0 := L.t0; have a0 := L.a0; have z0 := L.z0; have v0 := L.v0
  go_enter L.f285, Body.n285_ntmps ρ
  go_name_bytes SM hSM
  have eSM : SM = Lib.smalls := by rw [← hSM]; decide +kernel
  subst eSM
  clear hSM
  go_wp2
  go_loopw [1, 4] (fun vu vn wr => ∃ (nd v n : Nat) (dk : Array UInt8), vu = .int .u64 v ∧ vn = .int .i64 nd ∧ wr = (putRow (fun (b : UInt8) => Value.int .u8 (b.toNat : Int)) w blk off dk).drewN n ∧ Hid (FmtG d.size u nd v dk)) (fun _ vn _ => (RowKit.intOf vn).toNat)
  case atStart => exact ⟨d.size, u, 0, d, rfl, rfl, (putRow_self _ _ _ _ _ hH).symm, FmtG.start d u hu⟩
  case round =>
    obtain ⟨nd, v, n, dk0, rfl, rfl, hw0, HI0⟩ := hrel
    rename World => W0
    have AH := Lib.hid hH
    clear hH
    have hv64 : v < 18446744073709551616 := by have := HI0.out.rest; have := Nat.div_le_self u (10 ^ (d.size - nd)); omega
    have hs0 := HI0.out.size
    have hH0 : Holds (fun (b : UInt8) => Value.int .u8 (b.toNat : Int)) W0 blk off dk0 := by rw [hw0]; exact holds_putRow _ w blk off d dk0 AH.out hs0
    obtain ⟨G0, hG0⟩ : ∃ G : Nat → Int, ∀ t, G t = (dk0[t]!.toNat : Int) := ⟨_, fun _ => rfl⟩
    have hc0 : ∀ t, t < d.size → W0.cell? ⟨blk, off + t, none⟩ = some (.int .u8 (G0 t)) := fun t ht => by rw [hG0]; exact (hH0 t (by omega)).1
    have hf0 : ∀ t, t < d.size → W0.frozen? ⟨blk, off + t, none⟩ = false := fun t ht => (hH0 t (by omega)).2
    have AW0 := Lib.hid hw0
    clear hw0 hG0 hH0
    by_cases h8 : 8 ≤ nd
    · obtain ⟨m, rfl⟩ : ∃ m, nd = m + 8 := ⟨nd - 8, by omega⟩
      go_wp2
      have HI1 := Lib.hid (FmtG.step (show FmtG d.size u (m + 6 + 2) (v) dk0 from HI0.out))
      have hle0 := HI0.out.le
      go_name_slot 9 x0 hx0
      have hxe0 : x0 = ((v % 100 * 2 : Nat) : Int) := by omega
      have hXa0 : ∀ w, (Instr.index (ρ.t 9) (.string Lib.smalls) (.int .u32 (x0 + 1))).run P w = .ok (.int .u8 ((sm (v % 100 * 2 + 1)).toNat : Int)) w := idx_smalls (ρ.t 9) L.t9 .u32 _ _ (by omega) (by omega)
      have hXb0 : ∀ w, (Instr.index (ρ.t 9) (.string Lib.smalls) (.int .u32 x0)).run P w = .ok (.int .u8 ((sm (v % 100 * 2)).toNat : Int)) w := idx_smalls (ρ.t 9) L.t9 .u32 _ _ (by omega) (by omega)
      have hlo0 : 0 ≤ x0 := by omega
      have hhi0 : x0 ≤ 198 := by omega
      clear hx0 hxe0
      go_region_o
      go_wp2
      go_name_world W1 hW1
      have hw1 : W1 = (putRow (fun (b : UInt8) => Value.int .u8 (b.toNat : Int)) w blk off ((dk0.setIfInBounds (m + 6 + 1) (sm (v % 100 * 2 + 1))).setIfInBounds (m + 6) (sm (v % 100 * 2)))).drewN (n + 0 + 1) := by rw [← hW1]; exact (by rw [AW0.out]; exact store2_world w blk off dk0 (n + 0) (m + 6 + 1) (m + 6) _ _ (by omega) (by omega))
      generalize ((dk0.setIfInBounds (m + 6 + 1) (sm (v % 100 * 2 + 1))).setIfInBounds (m + 6) (sm (v % 100 * 2))) = dk1 at hw1 HI1
      clear hW1 hc0 hf0 AW0 HI0 hXa0 hXb0 hs0
      have hs1 := HI1.out.size
      have hH1 : Holds (fun (b : UInt8) => Value.int .u8 (b.toNat : Int)) W1 blk off dk1 := by rw [hw1]; exact holds_putRow _ w blk off d dk1 AH.out hs1
      obtain ⟨G1, hG1⟩ : ∃ G : Nat → Int, ∀ t, G t = (dk1[t]!.toNat : Int) := ⟨_, fun _ => rfl⟩
      have hc1 : ∀ t, t < d.size → W1.cell? ⟨blk, off + t, none⟩ = some (.int .u8 (G1 t)) := fun t ht => by rw [hG1]; exact (hH1 t (by omega)).1
      have hf1 : ∀ t, t < d.size → W1.frozen? ⟨blk, off + t, none⟩ = false := fun t ht => (hH1 t (by omega)).2
      have AW1 := Lib.hid hw1
      clear hw1 hG1 hH1
      have HI2 := Lib.hid (FmtG.step (show FmtG d.size u (m + 4 + 2) (v / 100) dk1 from HI1.out))
      have hle1 := HI1.out.le
      go_name_slot 8 x1 hx1
      have hxe1 : x1 = ((v / 100 % 100 * 2 : Nat) : Int) := by omega
      have hXa1 : ∀ w, (Instr.index (ρ.t 9) (.string Lib.smalls) (.int .u32 (x1 + 1))).run P w = .ok (.int .u8 ((sm (v / 100 % 100 * 2 + 1)).toNat : Int)) w := idx_smalls (ρ.t 9) L.t9 .u32 _ _ (by omega) (by omega)
      have hXb1 : ∀ w, (Instr.index (ρ.t 9) (.string Lib.smalls) (.int .u32 x1)).run P w = .ok (.int .u8 ((sm (v / 100 % 100 * 2)).toNat : Int)) w := idx_smalls (ρ.t 9) L.t9 .u32 _ _ (by omega) (by omega)
      have hlo1 : 0 ≤ x1 := by omega
      have hhi1 : x1 ≤ 198 := by omega
      clear hx1 hxe1
      go_region_o
      go_wp2
      go_name_world W2 hW2
      have hw2 : W2 = (putRow (fun (b : UInt8) => Value.int .u8 (b.toNat : Int)) w blk off ((dk1.setIfInBounds (m + 4 + 1) (sm (v / 100 % 100 * 2 + 1))).setIfInBounds (m + 4) (sm (v / 100 % 100 * 2)))).drewN (n + 1 + 1) := by rw [← hW2]; exact (by rw [AW1.out]; exact store2_world w blk off dk1 (n + 1) (m + 4 + 1) (m + 4) _ _ (by omega) (by omega))
      generalize ((dk1.setIfInBounds (m + 4 + 1) (sm (v / 100 % 100 * 2 + 1))).setIfInBounds (m + 4) (sm (v / 100 % 100 * 2))) = dk2 at hw2 HI2
      clear hW2 hc1 hf1 AW1 HI1 hXa1 hXb1 hs1
      have hs2 := HI2.out.size
      have hH2 : Holds (fun (b : UInt8) => Value.int .u8 (b.toNat : Int)) W2 blk off dk2 := by rw [hw2]; exact holds_putRow _ w blk off d dk2 AH.out hs2
      obtain ⟨G2, hG2⟩ : ∃ G : Nat → Int, ∀ t, G t = (dk2[t]!.toNat : Int) := ⟨_, fun _ => rfl⟩
      have hc2 : ∀ t, t < d.size → W2.cell? ⟨blk, off + t, none⟩ = some (.int .u8 (G2 t)) := fun t ht => by rw [hG2]; exact (hH2 t (by omega)).1
      have hf2 : ∀ t, t < d.size → W2.frozen? ⟨blk, off + t, none⟩ = false := fun t ht => (hH2 t (by omega)).2
      have AW2 := Lib.hid hw2
      clear hw2 hG2 hH2
      have HI3 := Lib.hid (FmtG.step (show FmtG d.size u (m + 2 + 2) (v / 100 / 100) dk2 from HI2.out))
      have hle2 := HI2.out.le
      go_name_slot 11 x2 hx2
      have hxe2 : x2 = ((v / 100 / 100 % 100 * 2 : Nat) : Int) := by omega
      have hXa2 : ∀ w, (Instr.index (ρ.t 9) (.string Lib.smalls) (.int .u32 (x2 + 1))).run P w = .ok (.int .u8 ((sm (v / 100 / 100 % 100 * 2 + 1)).toNat : Int)) w := idx_smalls (ρ.t 9) L.t9 .u32 _ _ (by omega) (by omega)
      have hXb2 : ∀ w, (Instr.index (ρ.t 9) (.string Lib.smalls) (.int .u32 x2)).run P w = .ok (.int .u8 ((sm (v / 100 / 100 % 100 * 2)).toNat : Int)) w := idx_smalls (ρ.t 9) L.t9 .u32 _ _ (by omega) (by omega)
      have hlo2 : 0 ≤ x2 := by omega
      have hhi2 : x2 ≤ 198 := by omega
      clear hx2 hxe2
      go_region_o
      go_wp2
      go_name_world W3 hW3
      have hw3 : W3 = (putRow (fun (b : UInt8) => Value.int .u8 (b.toNat : Int)) w blk off ((dk2.setIfInBounds (m + 2 + 1) (sm (v / 100 / 100 % 100 * 2 + 1))).setIfInBounds (m + 2) (sm (v / 100 / 100 % 100 * 2)))).drewN (n + 2 + 1) := by rw [← hW3]; exact (by rw [AW2.out]; exact store2_world w blk off dk2 (n + 2) (m + 2 + 1) (m + 2) _ _ (by omega) (by omega))
      generalize ((dk2.setIfInBounds (m + 2 + 1) (sm (v / 100 / 100 % 100 * 2 + 1))).setIfInBounds (m + 2) (sm (v / 100 / 100 % 100 * 2))) = dk3 at hw3 HI3
      clear hW3 hc2 hf2 AW2 HI2 hXa2 hXb2 hs2
      have hs3 := HI3.out.size
      have hH3 : Holds (fun (b : UInt8) => Value.int .u8 (b.toNat : Int)) W3 blk off dk3 := by rw [hw3]; exact holds_putRow _ w blk off d dk3 AH.out hs3
      obtain ⟨G3, hG3⟩ : ∃ G : Nat → Int, ∀ t, G t = (dk3[t]!.toNat : Int) := ⟨_, fun _ => rfl⟩
      have hc3 : ∀ t, t < d.size → W3.cell? ⟨blk, off + t, none⟩ = some (.int .u8 (G3 t)) := fun t ht => by rw [hG3]; exact (hH3 t (by omega)).1
      have hf3 : ∀ t, t < d.size → W3.frozen? ⟨blk, off + t, none⟩ = false := fun t ht => (hH3 t (by omega)).2
      have AW3 := Lib.hid hw3
      clear hw3 hG3 hH3
      have HI4 := Lib.hid (FmtG.step (show FmtG d.size u (m + 2) (v / 100 / 100 / 100) dk3 from HI3.out))
      have hle3 := HI3.out.le
      go_name_slot 10 x3 hx3
      have hxe3 : x3 = ((v / 100 / 100 / 100 % 100 * 2 : Nat) : Int) := by omega
      have hXa3 : ∀ w, (Instr.index (ρ.t 9) (.string Lib.smalls) (.int .u32 (x3 + 1))).run P w = .ok (.int .u8 ((sm (v / 100 / 100 / 100 % 100 * 2 + 1)).toNat : Int)) w := idx_smalls (ρ.t 9) L.t9 .u32 _ _ (by omega) (by omega)
      have hXb3 : ∀ w, (Instr.index (ρ.t 9) (.string Lib.smalls) (.int .u32 x3)).run P w = .ok (.int .u8 ((sm (v / 100 / 100 / 100 % 100 * 2)).toNat : Int)) w := idx_smalls (ρ.t 9) L.t9 .u32 _ _ (by omega) (by omega)
      have hlo3 : 0 ≤ x3 := by omega
      have hhi3 : x3 ≤ 198 := by omega
      clear hx3 hxe3
      go_region_o
      go_wp2
      go_roundw
      case rel =>
        refine ⟨m, v / 100000000, n + 3 + 1, ((dk3.setIfInBounds (m + 1) (sm (v / 100 / 100 / 100 % 100 * 2 + 1))).setIfInBounds (m) (sm (v / 100 / 100 / 100 % 100 * 2))), by first | go_num | (congr 1; omega), by first | go_num | (congr 1; omega), by rw [AW3.out]; exact store2_world w blk off dk3 (n + 3) (m + 1) (m) _ _ (by omega) (by omega), ?_⟩
        have e : v / 100 / 100 / 100 / 100 = v / 100000000 := by omega
        rw [← e]
        exact HI4.out
      case measure => simp [RowKit.intOf]; omega
    · have hc8 : nd = 0 ∨ nd = 1 ∨ nd = 2 ∨ nd = 3 ∨ nd = 4 ∨ nd = 5 ∨ nd = 6 ∨ nd = 7 := by omega
      rcases hc8 with rfl | rfl | rfl | rfl | rfl | rfl | rfl | rfl
      · have hv7 := HI0.out.few (by omega)
        have hleT := HI0.out.le
        go_wp2
        go_end0
        exact ⟨rfl, n, dk0, AW0.out, HI0.out.none⟩
      · have hv7 := HI0.out.few (by omega)
        have hleT := HI0.out.le
        go_wp2
        go_end0
        exact ⟨rfl, n, _, by rw [AW0.out]; exact store1_world0 w blk off dk0 n _ (v) (by omega) (by omega), HI0.out.last⟩
      · have hv7 := HI0.out.few (by omega)
        have hleT := HI0.out.le
        go_wp2
        have HI1 := Lib.hid (FmtG.step (show FmtG d.size u (0 + 2) (v) dk0 from HI0.out))
        have hle0 := HI0.out.le
        go_name_slot 16 x0 hx0
        have hxe0 : x0 = ((v % 100 * 2 : Nat) : Int) := by omega
        have hXa0 : ∀ w, (Instr.index (ρ.t 9) (.string Lib.smalls) (.int .u32 (x0 + 1))).run P w = .ok (.int .u8 ((sm (v % 100 * 2 + 1)).toNat : Int)) w := idx_smalls (ρ.t 9) L.t9 .u32 _ _ (by omega) (by omega)
        have hXb0 : ∀ w, (Instr.index (ρ.t 9) (.string Lib.smalls) (.int .u32 x0)).run P w = .ok (.int .u8 ((sm (v % 100 * 2)).toNat : Int)) w := idx_smalls (ρ.t 9) L.t9 .u32 _ _ (by omega) (by omega)
        have hlo0 : 0 ≤ x0 := by omega
        have hhi0 : x0 ≤ 198 := by omega
        clear hx0 hxe0
        go_region_o
        go_wp2
        go_end0
        exact ⟨rfl, n + 0 + 1, _, by rw [AW0.out]; exact store2_world w blk off dk0 (n + 0) (0 + 1) (0) _ _ (by omega) (by omega), HI1.out.none⟩
      · have hv7 := HI0.out.few (by omega)
        have hleT := HI0.out.le
        go_wp2
        have HI1 := Lib.hid (FmtG.step (show FmtG d.size u (1 + 2) (v) dk0 from HI0.out))
        have hle0 := HI0.out.le
        go_name_slot 16 x0 hx0
        have hxe0 : x0 = ((v % 100 * 2 : Nat) : Int) := by omega
        have hXa0 : ∀ w, (Instr.index (ρ.t 9) (.string Lib.smalls) (.int .u32 (x0 + 1))).run P w = .ok (.int .u8 ((sm (v % 100 * 2 + 1)).toNat : Int)) w := idx_smalls (ρ.t 9) L.t9 .u32 _ _ (by omega) (by omega)
        have hXb0 : ∀ w, (Instr.index (ρ.t 9) (.string Lib.smalls) (.int .u32 x0)).run P w = .ok (.int .u8 ((sm (v % 100 * 2)).toNat : Int)) w := idx_smalls (ρ.t 9) L.t9 .u32 _ _ (by omega) (by omega)
        have hlo0 : 0 ≤ x0 := by omega
        have hhi0 : x0 ≤ 198 := by omega
        clear hx0 hxe0
        go_region_o
        go_wp2
        go_end0
        exact ⟨rfl, n + 0 + 1, _, by rw [AW0.out]; exact store21_world w blk off dk0 (n + 0) (1 + 1) (1) _ _ _ (v / 100) (by omega) (by omega) (by omega), HI1.out.last⟩
      · have hv7 := HI0.out.few (by omega)
        have hleT := HI0.out.le
        go_wp2
        have HI1 := Lib.hid (FmtG.step (show FmtG d.size u (2 + 2) (v) dk0 from HI0.out))
        have hle0 := HI0.out.le
        go_name_slot 15 x0 hx0
        have hxe0 : x0 = ((v % 100 * 2 : Nat) : Int) := by omega
        have hXa0 : ∀ w, (Instr.index (ρ.t 9) (.string Lib.smalls) (.int .u32 (x0 + 1))).run P w = .ok (.int .u8 ((sm (v % 100 * 2 + 1)).toNat : Int)) w := idx_smalls (ρ.t 9) L.t9 .u32 _ _ (by omega) (by omega)
        have hXb0 : ∀ w, (Instr.index (ρ.t 9) (.string Lib.smalls) (.int .u32 x0)).run P w = .ok (.int .u8 ((sm (v % 100 * 2)).toNat : Int)) w := idx_smalls (ρ.t 9) L.t9 .u32 _ _ (by omega) (by omega)
        have hlo0 : 0 ≤ x0 := by omega
        have hhi0 : x0 ≤ 198 := by omega
        clear hx0 hxe0
        go_region_o
        go_wp2
        go_name_world W1 hW1
        have hw1 : W1 = (putRow (fun (b : UInt8) => Value.int .u8 (b.toNat : Int)) w blk off ((dk0.setIfInBounds (2 + 1) (sm (v % 100 * 2 + 1))).setIfInBounds (2) (sm (v % 100 * 2)))).drewN (n + 0 + 1) := by rw [← hW1]; exact (by rw [AW0.out]; exact store2_world w blk off dk0 (n + 0) (2 + 1) (2) _ _ (by omega) (by omega))
        generalize ((dk0.setIfInBounds (2 + 1) (sm (v % 100 * 2 + 1))).setIfInBounds (2) (sm (v % 100 * 2))) = dk1 at hw1 HI1
        clear hW1 hc0 hf0 AW0 HI0 hXa0 hXb0 hs0
        have hs1 := HI1.out.size
        have hH1 : Holds (fun (b : UInt8) => Value.int .u8 (b.toNat : Int)) W1 blk off dk1 := by rw [hw1]; exact holds_putRow _ w blk off d dk1 AH.out hs1
        obtain ⟨G1, hG1⟩ : ∃ G : Nat → Int, ∀ t, G t = (dk1[t]!.toNat : Int) := ⟨_, fun _ => rfl⟩
        have hc1 : ∀ t, t < d.size → W1.cell? ⟨blk, off + t, none⟩ = some (.int .u8 (G1 t)) := fun t ht => by rw [hG1]; exact (hH1 t (by omega)).1
        have hf1 : ∀ t, t < d.size → W1.frozen? ⟨blk, off + t, none⟩ = false := fun t ht => (hH1 t (by omega)).2
        have AW1 := Lib.hid hw1
        clear hw1 hG1 hH1
        have HI2 := Lib.hid (FmtG.step (show FmtG d.size u (0 + 2) (v / 100) dk1 from HI1.out))
        have hle1 := HI1.out.le
        go_name_slot 14 x1 hx1
        have hxe1 : x1 = ((v / 100 % 100 * 2 : Nat) : Int) := by omega
        have hXa1 : ∀ w, (Instr.index (ρ.t 9) (.string Lib.smalls) (.int .u32 (x1 + 1))).run P w = .ok (.int .u8 ((sm (v / 100 % 100 * 2 + 1)).toNat : Int)) w := idx_smalls (ρ.t 9) L.t9 .u32 _ _ (by omega) (by omega)
        have hXb1 : ∀ w, (Instr.index (ρ.t 9) (.string Lib.smalls) (.int .u32 x1)).run P w = .ok (.int .u8 ((sm (v / 100 % 100 * 2)).toNat : Int)) w := idx_smalls (ρ.t 9) L.t9 .u32 _ _ (by omega) (by omega)
        have hlo1 : 0 ≤ x1 := by omega
        have hhi1 : x1 ≤ 198 := by omega
        clear hx1 hxe1
        go_region_o
        go_wp2
        go_end0
        exact ⟨rfl, n + 1 + 1, _, by rw [AW1.out]; exact store2_world w blk off dk1 (n + 1) (0 + 1) (0) _ _ (by omega) (by omega), HI2.out.none⟩
      · have hv7 := HI0.out.few (by omega)
        have hleT := HI0.out.le
        go_wp2
        have HI1 := Lib.hid (FmtG.step (show FmtG d.size u (3 + 2) (v) dk0 from HI0.out))
        have hle0 := HI0.out.le
        go_name_slot 15 x0 hx0
        have hxe0 : x0 = ((v % 100 * 2 : Nat) : Int) := by omega
        have hXa0 : ∀ w, (Instr.index (ρ.t 9) (.string Lib.smalls) (.int .u32 (x0 + 1))).run P w = .ok (.int .u8 ((sm (v % 100 * 2 + 1)).toNat : Int)) w := idx_smalls (ρ.t 9) L.t9 .u32 _ _ (by omega) (by omega)
        have hXb0 : ∀ w, (Instr.index (ρ.t 9) (.string Lib.smalls) (.int .u32 x0)).run P w = .ok (.int .u8 ((sm (v % 100 * 2)).toNat : Int)) w := idx_smalls (ρ.t 9) L.t9 .u32 _ _ (by omega) (by omega)
        have hlo0 : 0 ≤ x0 := by omega
        have hhi0 : x0 ≤ 198 := by omega
        clear hx0 hxe0
        go_region_o
        go_wp2
        go_name_world W1 hW1
        have hw1 : W1 = (putRow (fun (b : UInt8) => Value.int .u8 (b.toNat : Int)) w blk off ((dk0.setIfInBounds (3 + 1) (sm (v % 100 * 2 + 1))).setIfInBounds (3) (sm (v % 100 * 2)))).drewN (n + 0 + 1) := by rw [← hW1]; exact (by rw [AW0.out]; exact store2_world w blk off dk0 (n + 0) (3 + 1) (3) _ _ (by omega) (by omega))
        generalize ((dk0.setIfInBounds (3 + 1) (sm (v % 100 * 2 + 1))).setIfInBounds (3) (sm (v % 100 * 2))) = dk1 at hw1 HI1
        clear hW1 hc0 hf0 AW0 HI0 hXa0 hXb0 hs0
        have hs1 := HI1.out.size
        have hH1 : Holds (fun (b : UInt8) => Value.int .u8 (b.toNat : Int)) W1 blk off dk1 := by rw [hw1]; exact holds_putRow _ w blk off d dk1 AH.out hs1
        obtain ⟨G1, hG1⟩ : ∃ G : Nat → Int, ∀ t, G t = (dk1[t]!.toNat : Int) := ⟨_, fun _ => rfl⟩
        have hc1 : ∀ t, t < d.size → W1.cell? ⟨blk, off + t, none⟩ = some (.int .u8 (G1 t)) := fun t ht => by rw [hG1]; exact (hH1 t (by omega)).1
        have hf1 : ∀ t, t < d.size → W1.frozen? ⟨blk, off + t, none⟩ = false := fun t ht => (hH1 t (by omega)).2
        have AW1 := Lib.hid hw1
        clear hw1 hG1 hH1
        have HI2 := Lib.hid (FmtG.step (show FmtG d.size u (1 + 2) (v / 100) dk1 from HI1.out))
        have hle1 := HI1.out.le
        go_name_slot 14 x1 hx1
        have hxe1 : x1 = ((v / 100 % 100 * 2 : Nat) : Int) := by omega
        have hXa1 : ∀ w, (Instr.index (ρ.t 9) (.string Lib.smalls) (.int .u32 (x1 + 1))).run P w = .ok (.int .u8 ((sm (v / 100 % 100 * 2 + 1)).toNat : Int)) w := idx_smalls (ρ.t 9) L.t9 .u32 _ _ (by omega) (by omega)
        have hXb1 : ∀ w, (Instr.index (ρ.t 9) (.string Lib.smalls) (.int .u32 x1)).run P w = .ok (.int .u8 ((sm (v / 100 % 100 * 2)).toNat : Int)) w := idx_smalls (ρ.t 9) L.t9 .u32 _ _ (by omega) (by omega)
        have hlo1 : 0 ≤ x1 := by omega
        have hhi1 : x1 ≤ 198 := by omega
        clear hx1 hxe1
        go_region_o
        go_wp2
        go_end0
        exact ⟨rfl, n + 1 + 1, _, by rw [AW1.out]; exact store21_world w blk off dk1 (n + 1) (1 + 1) (1) _ _ _ (v / 100 / 100) (by omega) (by omega) (by omega), HI2.out.last⟩
      · have hv7 := HI0.out.few (by omega)
        have hleT := HI0.out.le
        go_wp2
        have HI1 := Lib.hid (FmtG.step (show FmtG d.size u (4 + 2) (v) dk0 from HI0.out))
        have hle0 := HI0.out.le
        go_name_slot 15 x0 hx0
        have hxe0 : x0 = ((v % 100 * 2 : Nat) : Int) := by omega
        have hXa0 : ∀ w, (Instr.index (ρ.t 9) (.string Lib.smalls) (.int .u32 (x0 + 1))).run P w = .ok (.int .u8 ((sm (v % 100 * 2 + 1)).toNat : Int)) w := idx_smalls (ρ.t 9) L.t9 .u32 _ _ (by omega) (by omega)
        have hXb0 : ∀ w, (Instr.index (ρ.t 9) (.string Lib.smalls) (.int .u32 x0)).run P w = .ok (.int .u8 ((sm (v % 100 * 2)).toNat : Int)) w := idx_smalls (ρ.t 9) L.t9 .u32 _ _ (by omega) (by omega)
        have hlo0 : 0 ≤ x0 := by omega
        have hhi0 : x0 ≤ 198 := by omega
        clear hx0 hxe0
        go_region_o
        go_wp2
        go_name_world W1 hW1
        have hw1 : W1 = (putRow (fun (b : UInt8) => Value.int .u8 (b.toNat : Int)) w blk off ((dk0.setIfInBounds (4 + 1) (sm (v % 100 * 2 + 1))).setIfInBounds (4) (sm (v % 100 * 2)))).drewN (n + 0 + 1) := by rw [← hW1]; exact (by rw [AW0.out]; exact store2_world w blk off dk0 (n + 0) (4 + 1) (4) _ _ (by omega) (by omega))
        generalize ((dk0.setIfInBounds (4 + 1) (sm (v % 100 * 2 + 1))).setIfInBounds (4) (sm (v % 100 * 2))) = dk1 at hw1 HI1
        clear hW1 hc0 hf0 AW0 HI0 hXa0 hXb0 hs0
        have hs1 := HI1.out.size
        have hH1 : Holds (fun (b : UInt8) => Value.int .u8 (b.toNat : Int)) W1 blk off dk1 := by rw [hw1]; exact holds_putRow _ w blk off d dk1 AH.out hs1
        obtain ⟨G1, hG1⟩ : ∃ G : Nat → Int, ∀ t, G t = (dk1[t]!.toNat : Int) := ⟨_, fun _ => rfl⟩
        have hc1 : ∀ t, t < d.size → W1.cell? ⟨blk, off + t, none⟩ = some (.int .u8 (G1 t)) := fun t ht => by rw [hG1]; exact (hH1 t (by omega)).1
        have hf1 : ∀ t, t < d.size → W1.frozen? ⟨blk, off + t, none⟩ = false := fun t ht => (hH1 t (by omega)).2
        have AW1 := Lib.hid hw1
        clear hw1 hG1 hH1
        have HI2 := Lib.hid (FmtG.step (show FmtG d.size u (2 + 2) (v / 100) dk1 from HI1.out))
        have hle1 := HI1.out.le
        go_name_slot 14 x1 hx1
        have hxe1 : x1 = ((v / 100 % 100 * 2 : Nat) : Int) := by omega
        have hXa1 : ∀ w, (Instr.index (ρ.t 9) (.string Lib.smalls) (.int .u32 (x1 + 1))).run P w = .ok (.int .u8 ((sm (v / 100 % 100 * 2 + 1)).toNat : Int)) w := idx_smalls (ρ.t 9) L.t9 .u32 _ _ (by omega) (by omega)
        have hXb1 : ∀ w, (Instr.index (ρ.t 9) (.string Lib.smalls) (.int .u32 x1)).run P w = .ok (.int .u8 ((sm (v / 100 % 100 * 2)).toNat : Int)) w := idx_smalls (ρ.t 9) L.t9 .u32 _ _ (by omega) (by omega)
        have hlo1 : 0 ≤ x1 := by omega
        have hhi1 : x1 ≤ 198 := by omega
        clear hx1 hxe1
        go_region_o
        go_wp2
        go_name_world W2 hW2
        have hw2 : W2 = (putRow (fun (b : UInt8) => Value.int .u8 (b.toNat : Int)) w blk off ((dk1.setIfInBounds (2 + 1) (sm (v / 100 % 100 * 2 + 1))).setIfInBounds (2) (sm (v / 100 % 100 * 2)))).drewN (n + 1 + 1) := by rw [← hW2]; exact (by rw [AW1.out]; exact store2_world w blk off dk1 (n + 1) (2 + 1) (2) _ _ (by omega) (by omega))
        generalize ((dk1.setIfInBounds (2 + 1) (sm (v / 100 % 100 * 2 + 1))).setIfInBounds (2) (sm (v / 100 % 100 * 2))) = dk2 at hw2 HI2
        clear hW2 hc1 hf1 AW1 HI1 hXa1 hXb1 hs1
        have hs2 := HI2.out.size
        have hH2 : Holds (fun (b : UInt8) => Value.int .u8 (b.toNat : Int)) W2 blk off dk2 := by rw [hw2]; exact holds_putRow _ w blk off d dk2 AH.out hs2
        obtain ⟨G2, hG2⟩ : ∃ G : Nat → Int, ∀ t, G t = (dk2[t]!.toNat : Int) := ⟨_, fun _ => rfl⟩
        have hc2 : ∀ t, t < d.size → W2.cell? ⟨blk, off + t, none⟩ = some (.int .u8 (G2 t)) := fun t ht => by rw [hG2]; exact (hH2 t (by omega)).1
        have hf2 : ∀ t, t < d.size → W2.frozen? ⟨blk, off + t, none⟩ = false := fun t ht => (hH2 t (by omega)).2
        have AW2 := Lib.hid hw2
        clear hw2 hG2 hH2
        have HI3 := Lib.hid (FmtG.step (show FmtG d.size u (0 + 2) (v / 100 / 100) dk2 from HI2.out))
        have hle2 := HI2.out.le
        go_name_slot 16 x2 hx2
        have hxe2 : x2 = ((v / 100 / 100 % 100 * 2 : Nat) : Int) := by omega
        have hXa2 : ∀ w, (Instr.index (ρ.t 9) (.string Lib.smalls) (.int .u32 (x2 + 1))).run P w = .ok (.int .u8 ((sm (v / 100 / 100 % 100 * 2 + 1)).toNat : Int)) w := idx_smalls (ρ.t 9) L.t9 .u32 _ _ (by omega) (by omega)
        have hXb2 : ∀ w, (Instr.index (ρ.t 9) (.string Lib.smalls) (.int .u32 x2)).run P w = .ok (.int .u8 ((sm (v / 100 / 100 % 100 * 2)).toNat : Int)) w := idx_smalls (ρ.t 9) L.t9 .u32 _ _ (by omega) (by omega)
        have hlo2 : 0 ≤ x2 := by omega
        have hhi2 : x2 ≤ 198 := by omega
        clear hx2 hxe2
        go_region_o
        go_wp2
        go_end0
        exact ⟨rfl, n + 2 + 1, _, by rw [AW2.out]; exact store2_world w blk off dk2 (n + 2) (0 + 1) (0) _ _ (by omega) (by omega), HI3.out.none⟩
      · have hv7 := HI0.out.few (by omega)
        have hleT := HI0.out.le
        go_wp2
        have HI1 := Lib.hid (FmtG.step (show FmtG d.size u (5 + 2) (v) dk0 from HI0.out))
        have hle0 := HI0.out.le
        go_name_slot 15 x0 hx0
        have hxe0 : x0 = ((v % 100 * 2 : Nat) : Int) := by omega
        have hXa0 : ∀ w, (Instr.index (ρ.t 9) (.string Lib.smalls) (.int .u32 (x0 + 1))).run P w = .ok (.int .u8 ((sm (v % 100 * 2 + 1)).toNat : Int)) w := idx_smalls (ρ.t 9) L.t9 .u32 _ _ (by omega) (by omega)
        have hXb0 : ∀ w, (Instr.index (ρ.t 9) (.string Lib.smalls) (.int .u32 x0)).run P w = .ok (.int .u8 ((sm (v % 100 * 2)).toNat : Int)) w := idx_smalls (ρ.t 9) L.t9 .u32 _ _ (by omega) (by omega)
        have hlo0 : 0 ≤ x0 := by omega
        have hhi0 : x0 ≤ 198 := by omega
        clear hx0 hxe0
        go_region_o
        go_wp2
        go_name_world W1 hW1
        have hw1 : W1 = (putRow (fun (b : UInt8) => Value.int .u8 (b.toNat : Int)) w blk off ((dk0.setIfInBounds (5 + 1) (sm (v % 100 * 2 + 1))).setIfInBounds (5) (sm (v % 100 * 2)))).drewN (n + 0 + 1) := by rw [← hW1]; exact (by rw [AW0.out]; exact store2_world w blk off dk0 (n + 0) (5 + 1) (5) _ _ (by omega) (by omega))
        generalize ((dk0.setIfInBounds (5 + 1) (sm (v % 100 * 2 + 1))).setIfInBounds (5) (sm (v % 100 * 2))) = dk1 at hw1 HI1
        clear hW1 hc0 hf0 AW0 HI0 hXa0 hXb0 hs0
        have hs1 := HI1.out.size
        have hH1 : Holds (fun (b : UInt8) => Value.int .u8 (b.toNat : Int)) W1 blk off dk1 := by rw [hw1]; exact holds_putRow _ w blk off d dk1 AH.out hs1
        obtain ⟨G1, hG1⟩ : ∃ G : Nat → Int, ∀ t, G t = (dk1[t]!.toNat : Int) := ⟨_, fun _ => rfl⟩
        have hc1 : ∀ t, t < d.size → W1.cell? ⟨blk, off + t, none⟩ = some (.int .u8 (G1 t)) := fun t ht => by rw [hG1]; exact (hH1 t (by omega)).1
        have hf1 : ∀ t, t < d.size → W1.frozen? ⟨blk, off + t, none⟩ = false := fun t ht => (hH1 t (by omega)).2
        have AW1 := Lib.hid hw1
        clear hw1 hG1 hH1
        have HI2 := Lib.hid (FmtG.step (show FmtG d.size u (3 + 2) (v / 100) dk1 from HI1.out))
        have hle1 := HI1.out.le
        go_name_slot 14 x1 hx1
        have hxe1 : x1 = ((v / 100 % 100 * 2 : Nat) : Int) := by omega
        have hXa1 : ∀ w, (Instr.index (ρ.t 9) (.string Lib.smalls) (.int .u32 (x1 + 1))).run P w = .ok (.int .u8 ((sm (v / 100 % 100 * 2 + 1)).toNat : Int)) w := idx_smalls (ρ.t 9) L.t9 .u32 _ _ (by omega) (by omega)
        have hXb1 : ∀ w, (Instr.index (ρ.t 9) (.string Lib.smalls) (.int .u32 x1)).run P w = .ok (.int .u8 ((sm (v / 100 % 100 * 2)).toNat : Int)) w := idx_smalls (ρ.t 9) L.t9 .u32 _ _ (by omega) (by omega)
        have hlo1 : 0 ≤ x1 := by omega
        have hhi1 : x1 ≤ 198 := by omega
        clear hx1 hxe1
        go_region_o
        go_wp2
        go_name_world W2 hW2
        have hw2 : W2 = (putRow (fun (b : UInt8) => Value.int .u8 (b.toNat : Int)) w blk off ((dk1.setIfInBounds (3 + 1) (sm (v / 100 % 100 * 2 + 1))).setIfInBounds (3) (sm (v / 100 % 100 * 2)))).drewN (n + 1 + 1) := by rw [← hW2]; exact (by rw [AW1.out]; exact store2_world w blk off dk1 (n + 1) (3 + 1) (3) _ _ (by omega) (by omega))
        generalize ((dk1.setIfInBounds (3 + 1) (sm (v / 100 % 100 * 2 + 1))).setIfInBounds (3) (sm (v / 100 % 100 * 2))) = dk2 at hw2 HI2
        clear hW2 hc1 hf1 AW1 HI1 hXa1 hXb1 hs1
        have hs2 := HI2.out.size
        have hH2 : Holds (fun (b : UInt8) => Value.int .u8 (b.toNat : Int)) W2 blk off dk2 := by rw [hw2]; exact holds_putRow _ w blk off d dk2 AH.out hs2
        obtain ⟨G2, hG2⟩ : ∃ G : Nat → Int, ∀ t, G t = (dk2[t]!.toNat : Int) := ⟨_, fun _ => rfl⟩
        have hc2 : ∀ t, t < d.size → W2.cell? ⟨blk, off + t, none⟩ = some (.int .u8 (G2 t)) := fun t ht => by rw [hG2]; exact (hH2 t (by omega)).1
        have hf2 : ∀ t, t < d.size → W2.frozen? ⟨blk, off + t, none⟩ = false := fun t ht => (hH2 t (by omega)).2
        have AW2 := Lib.hid hw2
        clear hw2 hG2 hH2
        have HI3 := Lib.hid (FmtG.step (show FmtG d.size u (1 + 2) (v / 100 / 100) dk2 from HI2.out))
        have hle2 := HI2.out.le
        go_name_slot 16 x2 hx2
        have hxe2 : x2 = ((v / 100 / 100 % 100 * 2 : Nat) : Int) := by omega
        have hXa2 : ∀ w, (Instr.index (ρ.t 9) (.string Lib.smalls) (.int .u32 (x2 + 1))).run P w = .ok (.int .u8 ((sm (v / 100 / 100 % 100 * 2 + 1)).toNat : Int)) w := idx_smalls (ρ.t 9) L.t9 .u32 _ _ (by omega) (by omega)
        have hXb2 : ∀ w, (Instr.index (ρ.t 9) (.string Lib.smalls) (.int .u32 x2)).run P w = .ok (.int .u8 ((sm (v / 100 / 100 % 100 * 2)).toNat : Int)) w := idx_smalls (ρ.t 9) L.t9 .u32 _ _ (by omega) (by omega)
        have hlo2 : 0 ≤ x2 := by omega
        have hhi2 : x2 ≤ 198 := by omega
        clear hx2 hxe2
        go_region_o
        go_wp2
        go_end0
        exact ⟨rfl, n + 2 + 1, _, by rw [AW2.out]; exact store21_world w blk off dk2 (n + 2) (1 + 1) (1) _ _ _ (v / 100 / 100 / 100) (by omega) (by omega) (by omega), HI3.out.last⟩
end SCFmt

end Go.Proofs.Ytppdbadigecegaa

