/- strconv.Itoa of any int, whatever the library's table of powers holds: a function of the number and the table. -/
import Derived.Test.YtppdbadigecegaaCFmt
import Derived.Shelf.Strconv.Itoa1
import Derived.Lib.ItoaMem
import Derived.Lib.ItoaNum
set_option linter.unusedVariables false
set_option linter.unusedSimpArgs false
namespace Go.Proofs.Ytppdbadigecegaa
section SCItoa
open Go.Shelf Go.RowKit Go.Sort Go.Lib

/-- How many digits the library's reckoning gives by the table T. -/
def ndT (T : Nat → Int) (u : Nat) : Nat := Lib.l10 (Lib.bitLen u) + if T (Lib.l10 (Lib.bitLen u)) ≤ (u : Int) then 1 else 0
theorem ndT_bounds (T : Nat → Int) (u : Nat) (h1 : 1 ≤ u) (h2 : u < 18446744073709551616) : Lib.l10 (Lib.bitLen u) ≤ 19 ∧ ndT T u ≤ 20 ∧ u < 10 ^ (ndT T u + 1) := by
  obtain ⟨hnd, h19⟩ := Lib.numDigits_eq u h1 h2
  have hlt := Lib.lt_pow_nDigits u
  have hle : nDigits u ≤ ndT T u + 1 := by unfold ndT; split at hnd <;> split <;> omega
  refine ⟨h19, ?_, Nat.lt_of_lt_of_le hlt (Nat.pow_le_pow_right (show 0 < 10 by decide) hle)⟩
  unfold ndT
  split <;> omega
/-- The digits. -/
def gfmt (nd u : Nat) : List UInt8 := (List.range nd).map fun t => gAt nd u t
theorem gfmt_length (nd u : Nat) : (gfmt nd u).length = nd := by simp [gfmt]
theorem gfmt_at {nd u : Nat} {d : Array UInt8} (h : FmtE nd u d) (i : Nat) (hi : i < (gfmt nd u).length) : (gfmt nd u)[i] = d[i]! := by
  have hi2 : i < nd := by rw [gfmt_length] at hi; exact hi
  rw [h.2 i hi2]
  simp [gfmt]
/-- The text of a number. -/
def itoaT (T : Nat → Int) (n : Int) : List UInt8 := if 0 ≤ n ∧ n < 100 then decDigits n.toNat else if n < 0 then 45 :: gfmt (ndT T n.natAbs) n.natAbs else gfmt (ndT T n.toNat) n.toNat

variable {P : Program} {ρ : Ren}
set_option maxHeartbeats 2000000 in
set_option maxRecDepth 100000 in
theorem nd_any (L : LaysM.n284 P ρ) (T : Nat → Int) (u : Nat) (h1 : 1 ≤ u) (h2 : u < 18446744073709551616) (w : World)
    (htab : ∀ j, j < 20 → w.cell? ⟨(ρ.g 17), j, none⟩ = some (.int .u64 (T j))) :
    Calls P (ρ.f 284) #[.int .u64 u] w fun e w' => e = .returned (.int .i64 (ndT T u)) ∧ w' = w := by
  have mixed := L.mixed
  have t53 := L.t53; have a53 := L.a53; have z53 := L.z53; have v53 := L.v53
  have t3 := L.t3; have a3 := L.a3; have z3 := L.z3; have v3 := L.v3
  have t212 := L.t212; have a212 := L.a212; have z212 := L.z212; have v212 := L.v212
  have t0 := L.t0; have a0 := L.a0; have z0 := L.z0; have v0 := L.v0
  have t4 := L.t4; have a4 := L.a4; have z4 := L.z4; have v4 := L.v4
  have e129 : ∀ args w, (callFunc (ρ.f 129) args).run P w = .ok (.enter (ρ.f 129) args) w := enters_of L.f129 (by kernel_rfl) rfl
  have e317 : ∀ args w, (callFunc (ρ.f 317) args).run P w = .ok (.enter (ρ.f 317) args) w := enters_of L.f317 (by kernel_rfl) rfl
  have e318 : ∀ args w, (callFunc (ρ.f 318) args).run P w = .ok (.enter (ρ.f 318) args) w := enters_of L.f318 (by kernel_rfl) rfl
  obtain ⟨h19, -, -⟩ := ndT_bounds T u h1 h2
  have hL : Lib.bitLen u ≤ 64 := Lib.bitLen_le u 64 (Nat.le_refl _) h2
  have hcell := htab (Lib.l10 (Lib.bitLen u)) (by omega)
  have hto : ((u : Int)).toNat = u := by omega
  have Hnd := Lib.hid (show ndT T u = Lib.l10 (Lib.bitLen u) + if T (Lib.l10 (Lib.bitLen u)) ≤ (u : Int) then 1 else 0 from rfl)
  generalize ndT T u = nd at Hnd ⊢
  generalize hq : Lib.l10 (Lib.bitLen u) = q at Hnd h19 hcell
  generalize hT : T q = z at Hnd hcell
  have h20 : q < 20 := by omega
  clear htab hT
  go_enter L.f284, Body.n284_ntmps ρ
  go_wp2_with (first
    | (go_at_fn (ρ.f 129); refine (Any.bits_Len64 { L with } _ _ (by omega) (by omega)).mono ?_; rintro e w' ⟨rfl, rfl⟩)
    | (go_at_fn (ρ.f 317); refine (Any.internal_strconv_log10Pow2 { L with } _ (by first | exact hL | (rw [hto]; exact hL)) _).mono ?_; rintro e w' ⟨rfl, rfl⟩)
    | (go_at_fn (ρ.f 318); refine (Any.internal_strconv_bool2_int { L with } _ _).mono ?_; rintro e w' ⟨rfl, rfl⟩))
  all_goals go_ret
  all_goals (
    refine ⟨?_, rfl⟩
    have hnd := Hnd.out
    congr 2
    split at hnd <;> simp_all <;> omega)

set_option maxHeartbeats 6400000 in
set_option maxRecDepth 100000 in
theorem formatT (L : LaysM.n246 P ρ) (T : Nat → Int) (n : Int) (h0 : -9223372036854775808 ≤ n) (h1 : n ≤ 9223372036854775807) (w : World) (hg : ρ.g 17 < w.heap.size)
    (htab : ∀ j, j < 20 → w.cell? ⟨(ρ.g 17), j, none⟩ = some (.int .u64 (T j))) :
    Calls P (ρ.f 246) #[.int .i64 n, .int .i64 10] w fun e w' => e = .returned (.string ⟨(itoaT T n).toArray⟩) ∧ ∃ k os, w' = grow (w.drewN k) os := by
  have mixed := L.mixed
  have t2 := L.t2; have a2 := L.a2; have z2 := L.z2; have v2 := L.v2
  have t3 := L.t3; have a3 := L.a3; have z3 := L.z3; have v3 := L.v3
  have t9 := L.t9; have a9 := L.a9; have z9 := L.z9; have v9 := L.v9
  have t4 := L.t4; have a4 := L.a4; have z4 := L.z4; have v4 := L.v4
  have t171 := L.t171; have a171 := L.a171; have z171 := L.z171; have v171 := L.v171
  have t0 := L.t0; have a0 := L.a0; have z0 := L.z0; have v0 := L.v0
  have t53 := L.t53; have a53 := L.a53; have z53 := L.z53; have v53 := L.v53
  have t37 := L.t37; have a37 := L.a37; have z37 := L.z37; have v37 := L.v37
  have t5 := L.t5; have a5 := L.a5; have z5 := L.z5; have v5 := L.v5
  have t173 := L.t173; have a173 := L.a173; have z173 := L.z173; have v173 := L.v173
  have e283 : ∀ args w, (callFunc (ρ.f 283) args).run P w = .ok (.enter (ρ.f 283) args) w := enters_of L.f283 (by kernel_rfl) rfl
  have e284 : ∀ args w, (callFunc (ρ.f 284) args).run P w = .ok (.enter (ρ.f 284) args) w := enters_of L.f284 (by kernel_rfl) rfl
  have e285 : ∀ args w, (callFunc (ρ.f 285) args).run P w = .ok (.enter (ρ.f 285) args) w := enters_of L.f285 (by kernel_rfl) rfl
  by_cases hs : 0 ≤ n ∧ n < 100
  · have Hr := Lib.hid (show itoaT T n = decDigits n.toNat by rw [itoaT, if_pos hs])
    obtain ⟨i, rfl⟩ : ∃ i : Nat, n = i := ⟨n.toNat, by omega⟩
    have hi : i < 100 := by omega
    clear htab
    go_enter L.f246, Body.n246_ntmps ρ
    go_wp2_with (go_at_fn (ρ.f 283); refine (Any.internal_strconv_small { L with } i hi _).mono ?_; rintro e w' ⟨rfl, rfl⟩)
    go_ret
    refine ⟨?_, 0, #[], by simp [World.drewN_zero]⟩
    rw [Hr.out]
    rfl
  · -- a block of 24 zero bytes
    have htab2 : ∀ j, j < 20 → (w.alloc (.cells Lib.zeros24 (ρ.t 171))).cell? ⟨(ρ.g 17), j, none⟩ = some (.int .u64 (T j)) := fun j hj => by
      rw [World.cell?_alloc_lt _ _ ⟨ρ.g 17, j, none⟩ hg]; exact htab j hj
    have Hs := Lib.hid hs
    by_cases hneg : n < 0
    · obtain ⟨u, rfl⟩ : ∃ u : Nat, n = -(u : Int) := ⟨n.natAbs, by omega⟩
      have hu1 : 1 ≤ u := by omega
      have hu64 : u < 18446744073709551616 := by omega
      have Hr := Lib.hid (show itoaT T (-(u : Int)) = 45 :: gfmt (ndT T u) u by rw [itoaT, if_neg (by omega), if_pos hneg]; simp)
      obtain ⟨-, hnd20, hupow⟩ := ndT_bounds T u hu1 hu64
      obtain ⟨nd, hnd⟩ : ∃ nd, nd = ndT T u := ⟨_, rfl⟩
      have hndc := nd_any { L with } T u hu1 hu64 _ htab2
      rw [← hnd] at hnd20 hupow hndc Hr
      clear hnd htab htab2
      have hwr : IntKind.u64.wrap (-IntKind.u64.wrap (-(u : Int))) = (u : Int) := by rw [IntKind.wrap_u64, IntKind.wrap_u64]; omega
      have hb3 : nd ≤ 23 := by omega
      have hal : P.arrayLen (ρ.t 171) = 24 := by simp [Program.arrayLen, L.t171]
      have hsl1 : ∀ W, (Instr.sliceAt (ρ.t 171) (.pointer (some ⟨w.heap.size, 0, none⟩)) (some (.int .i64 1)) (some (.int .i64 (1 + (nd : Int)))) none).run P W = .ok (.slice (some ⟨w.heap.size, 1, none⟩) nd 23) W := fun W => by
        rw [run_sliceAt_array_lh W (ρ.t 171) ⟨w.heap.size, 0, none⟩ (by simp [Program.arrayLen, Program.elem, L.t171]) .i64 .i64 1 (1 + (nd : Int)) (by omega) (by omega) (by rw [hal]; omega)]
        go_simp
        omega
      have hH0 := Lib.holds_zero w (ρ.t 171) nd (by omega)
      have hfmt := fmt10_any { L with } w.heap.size 1 23 u (Array.replicate nd 0) (w.alloc (.cells Lib.zeros24 (ρ.t 171))) hH0 (by rw [Array.size_replicate]; exact hupow) hu64 (by rw [Array.size_replicate]; omega)
      rw [Array.size_replicate] at hfmt
      have HH0 := Lib.hid hH0
      clear hH0 hal
      go_enter L.f246, Body.n246_ntmps ρ
      go_wp2_with (first
        | (go_at_fn (ρ.f 284); refine hndc.mono ?_; rintro e w' ⟨rfl, rfl⟩))
      go_at_fn (ρ.f 285)
      refine hfmt.mono ?_
      rintro e w' ⟨rfl, k, dk, rfl, hF⟩
      have hc0 : ((putRow (fun (b : UInt8) => Value.int .u8 (b.toNat : Int)) (w.alloc (.cells Lib.zeros24 (ρ.t 171))) w.heap.size 1 dk).drewN k).cell? ⟨w.heap.size, 0, none⟩ = some (.int .u8 0) := by
        rw [World.cell?_drewN, cell?_putRow_other _ _ _ _ _ _ (Or.inr (Or.inl (Nat.zero_lt_one))), World.cell?_alloc_new]
        exact Lib.zeros24_at 0 (by omega)
      have hf0 : ((putRow (fun (b : UInt8) => Value.int .u8 (b.toNat : Int)) (w.alloc (.cells Lib.zeros24 (ρ.t 171))) w.heap.size 1 dk).drewN k).frozen? ⟨w.heap.size, 0, none⟩ = false := by
        rw [World.frozen?_drewN, frozen?_putRow]
        exact World.frozen?_alloc_new _ _ _ _
      have hal : P.arrayLen (ρ.t 171) = 24 := by simp [Program.arrayLen, L.t171]
      have hsl2 : ∀ W, (Instr.sliceAt (ρ.t 171) (.pointer (some ⟨w.heap.size, 0, none⟩)) none (some (.int .i64 (1 + (nd : Int)))) none).run P W = .ok (.slice (some ⟨w.heap.size, 0, none⟩) (1 + nd) 24) W := fun W => by
        rw [run_sliceAt_array_h W (ρ.t 171) ⟨w.heap.size, 0, none⟩ (by simp [Program.arrayLen, Program.elem, L.t171]) .i64 (1 + (nd : Int)) (by omega) (by rw [hal]; omega)]
        go_simp
        omega
      clear hal
      have hcv : (convert (ρ.t 37) (ρ.t 9) (.slice (some ⟨w.heap.size, 0, none⟩) (1 + nd) 24)).run P (((putRow (fun (b : UInt8) => Value.int .u8 (b.toNat : Int)) (w.alloc (.cells Lib.zeros24 (ρ.t 171))) w.heap.size 1 dk).drewN k).setCell ⟨w.heap.size, 0, none⟩ (.int .u8 45)) = .ok (.string ⟨(45 :: gfmt nd u).toArray⟩) (((putRow (fun (b : UInt8) => Value.int .u8 (b.toNat : Int)) (w.alloc (.cells Lib.zeros24 (ρ.t 171))) w.heap.size 1 dk).drewN k).setCell ⟨w.heap.size, 0, none⟩ (.int .u8 45)) := by
        have h := run_convert_bytes_back (P := P) (((putRow (fun (b : UInt8) => Value.int .u8 (b.toNat : Int)) (w.alloc (.cells Lib.zeros24 (ρ.t 171))) w.heap.size 1 dk).drewN k).setCell ⟨w.heap.size, 0, none⟩ (.int .u8 45)) (ρ.t 37) (ρ.t 9) (ρ.t 5) ⟨w.heap.size, 0, none⟩ 24 (45 :: gfmt nd u) L.t37 L.t5 L.t9 (fun j hj => by
          rw [Lib.add_plain]
          cases j with
          | zero => exact World.cell?_setCell_same _ _ _ hc0
          | succ i =>
            have hi : i < (gfmt nd u).length := by simpa using hj
            rw [World.cell?_setCell_other _ _ _ _ (by simp), List.getElem_cons_succ, gfmt_at hF i hi, World.cell?_drewN, show 0 + (i + 1) = 1 + i by omega]
            exact cell?_putRow (fun (b : UInt8) => Value.int .u8 (b.toNat : Int)) _ w.heap.size 1 _ dk HH0.out (by rw [hF.1, Array.size_replicate]) i (by rw [hF.1]; rw [gfmt_length] at hi; exact hi))
        rw [List.length_cons, gfmt_length, Nat.add_comm] at h
        exact h
      go_wp2
      go_ret
      obtain ⟨os, eo⟩ := Lib.fin_neg w (.cells Lib.zeros24 (ρ.t 171)) dk k (.int .u8 45)
      refine ⟨?_, k, os, eo⟩
      rw [Hr.out]
      rfl
    · obtain ⟨u, rfl⟩ : ∃ u : Nat, n = u := ⟨n.toNat, by omega⟩
      have hu1 : 1 ≤ u := by omega
      have hu64 : u < 18446744073709551616 := by omega
      have Hr := Lib.hid (show itoaT T (u : Int) = gfmt (ndT T u) u by rw [itoaT, if_neg Hs.out, if_neg hneg]; simp)
      obtain ⟨-, hnd20, hupow⟩ := ndT_bounds T u hu1 hu64
      obtain ⟨nd, hnd⟩ : ∃ nd, nd = ndT T u := ⟨_, rfl⟩
      have hndc := nd_any { L with } T u hu1 hu64 _ htab2
      rw [← hnd] at hnd20 hupow hndc Hr
      clear hnd htab htab2
      have hb3 : nd ≤ 23 := by omega
      have hal : P.arrayLen (ρ.t 171) = 24 := by simp [Program.arrayLen, L.t171]
      have hsl1 : ∀ W, (Instr.sliceAt (ρ.t 171) (.pointer (some ⟨w.heap.size, 0, none⟩)) (some (.int .i64 1)) (some (.int .i64 (1 + (nd : Int)))) none).run P W = .ok (.slice (some ⟨w.heap.size, 1, none⟩) nd 23) W := fun W => by
        rw [run_sliceAt_array_lh W (ρ.t 171) ⟨w.heap.size, 0, none⟩ (by simp [Program.arrayLen, Program.elem, L.t171]) .i64 .i64 1 (1 + (nd : Int)) (by omega) (by omega) (by rw [hal]; omega)]
        go_simp
        omega
      have hH0 := Lib.holds_zero w (ρ.t 171) nd (by omega)
      have hfmt := fmt10_any { L with } w.heap.size 1 23 u (Array.replicate nd 0) (w.alloc (.cells Lib.zeros24 (ρ.t 171))) hH0 (by rw [Array.size_replicate]; exact hupow) hu64 (by rw [Array.size_replicate]; omega)
      rw [Array.size_replicate] at hfmt
      have HH0 := Lib.hid hH0
      clear hH0 hal
      go_enter L.f246, Body.n246_ntmps ρ
      go_wp2_with (first
        | (go_at_fn (ρ.f 284); refine hndc.mono ?_; rintro e w' ⟨rfl, rfl⟩))
      go_at_fn (ρ.f 285)
      refine hfmt.mono ?_
      rintro e w' ⟨rfl, k, dk, rfl, hF⟩
      have hcv : (convert (ρ.t 37) (ρ.t 9) (.slice (some ⟨w.heap.size, 1, none⟩) nd 23)).run P ((putRow (fun (b : UInt8) => Value.int .u8 (b.toNat : Int)) (w.alloc (.cells Lib.zeros24 (ρ.t 171))) w.heap.size 1 dk).drewN k) = .ok (.string ⟨(gfmt nd u).toArray⟩) ((putRow (fun (b : UInt8) => Value.int .u8 (b.toNat : Int)) (w.alloc (.cells Lib.zeros24 (ρ.t 171))) w.heap.size 1 dk).drewN k) := by
        have h := run_convert_bytes_back (P := P) ((putRow (fun (b : UInt8) => Value.int .u8 (b.toNat : Int)) (w.alloc (.cells Lib.zeros24 (ρ.t 171))) w.heap.size 1 dk).drewN k) (ρ.t 37) (ρ.t 9) (ρ.t 5) ⟨w.heap.size, 1, none⟩ 23 (gfmt nd u) L.t37 L.t5 L.t9 (fun j hj => by
          rw [gfmt_at hF j hj, Lib.add_plain, World.cell?_drewN]
          exact cell?_putRow (fun (b : UInt8) => Value.int .u8 (b.toNat : Int)) _ w.heap.size 1 _ dk HH0.out (by rw [hF.1, Array.size_replicate]) j (by rw [hF.1]; rw [gfmt_length] at hj; exact hj))
        rw [gfmt_length] at h
        exact h
      go_wp2
      go_ret
      obtain ⟨os, eo⟩ := Lib.fin_pos w (.cells Lib.zeros24 (ρ.t 171)) dk k
      refine ⟨?_, k, os, eo⟩
      rw [Hr.out]
      rfl

set_option maxRecDepth 100000 in
theorem itoaI (L : LaysM.n243 P ρ) (T : Nat → Int) (n : Int) (h0 : -9223372036854775808 ≤ n) (h1 : n ≤ 9223372036854775807) (w : World) (hg : ρ.g 17 < w.heap.size)
    (htab : ∀ j, j < 20 → w.cell? ⟨(ρ.g 17), j, none⟩ = some (.int .u64 (T j))) :
    Calls P (ρ.f 243) #[.int .i64 n] w fun e w' => e = .returned (.string ⟨(itoaT T n).toArray⟩) ∧ ∃ k os, w' = grow (w.drewN k) os := by
  have mixed := L.mixed
  have t3 := L.t3; have a3 := L.a3; have z3 := L.z3; have v3 := L.v3
  have t9 := L.t9; have a9 := L.a9; have z9 := L.z9; have v9 := L.v9
  have t2 := L.t2; have a2 := L.a2; have z2 := L.z2; have v2 := L.v2
  have e246 : ∀ args w, (callFunc (ρ.f 246) args).run P w = .ok (.enter (ρ.f 246) args) w := enters_of L.f246 (by kernel_rfl) rfl
  have hfm := formatT { L with } T n h0 h1 w hg htab
  clear htab
  go_enter L.f243, Body.n243_ntmps ρ
  go_wp2_with (go_at_fn (ρ.f 246); refine hfm.mono ?_; rintro e w' ⟨rfl, k, os, rfl⟩)
  go_ret
  exact ⟨rfl, k, os, rfl⟩
set_option maxRecDepth 100000 in
theorem itoa_any (L : LaysM.n171 P ρ) (T : Nat → Int) (n : Int) (h0 : -9223372036854775808 ≤ n) (h1 : n ≤ 9223372036854775807) (w : World) (hg : ρ.g 17 < w.heap.size)
    (htab : ∀ j, j < 20 → w.cell? ⟨(ρ.g 17), j, none⟩ = some (.int .u64 (T j))) :
    Calls P (ρ.f 171) #[.int .i64 n] w fun e w' => e = .returned (.string ⟨(itoaT T n).toArray⟩) ∧ ∃ k os, w' = grow (w.drewN k) os := by
  have mixed := L.mixed
  have t3 := L.t3; have a3 := L.a3; have z3 := L.z3; have v3 := L.v3
  have t9 := L.t9; have a9 := L.a9; have z9 := L.z9; have v9 := L.v9
  have e243 : ∀ args w, (callFunc (ρ.f 243) args).run P w = .ok (.enter (ρ.f 243) args) w := enters_of L.f243 (by kernel_rfl) rfl
  have hfm := itoaI { L with } T n h0 h1 w hg htab
  clear htab
  go_enter L.f171, Body.n171_ntmps ρ
  go_wp2_with (go_at_fn (ρ.f 243); refine hfm.mono ?_; rintro e w' ⟨rfl, k, os, rfl⟩)
  go_ret
  exact ⟨rfl, k, os, rfl⟩
end SCItoa

end Go.Proofs.Ytppdbadigecegaa

